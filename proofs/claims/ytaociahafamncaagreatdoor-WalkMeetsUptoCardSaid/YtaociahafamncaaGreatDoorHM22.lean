/- Folded. -/
import Derived.Test.YtaociahafamncaaGreatDoorHM21
set_option maxRecDepth 100000
set_option maxHeartbeats 40000000
set_option linter.unusedVariables false
namespace Go.Proofs.YtaociahafamncaaGreatDoor
section
open Go.RowKit Go.Maps
open F (Ent Nd Nh gath gath_s Fine byteAt DictAt waysC wayC)
section
variable {mb p n c:Nat}{A:Option Addr}{ob oc most:Nat}{W W1 W2 wr W5 W6:World}{v0 v v1:Value}{T:Nat}{R0:List Ent×Bool}{l l2 F F1:List Ent}{more:Bool}
def zgf(mb p n c:Nat)(A:Option Addr)(ob oc most:Nat)(W:World)(v:Value)(R:List Ent×Bool):Ending→World→Prop:=fun e W'=>e=.returned (.tuple #[])∧∃v',MatAt W' mb p n c A ob oc most v' R.1 R.2∧But (MatAt.foot mb v) W W'∧∀b,some b=v'.ownBlock→some b=v.ownBlock∨W.heap.size≤b
theorem MidM.keep(hm:MidM mb p n c A ob oc most W v0 T R0 l F more W1 v)(hb:Below W1.heap.size W1 W2):MidM mb p n c A ob oc most W v0 T R0 l F more W2 v:=
 ⟨hm.run,hm.mat.keep hb,hm.but.trans (S':=MatAt.foot mb v0) (But.of hb) fun _ hi=>.inl hi,hm.sub⟩
theorem MidM.done(hm:MidM mb p n c A ob oc most W v0 T R0 l F more W1 v)(hT:W.heap.size≤T):zgf mb p n c A ob oc most W v0 (zk5 most R0 l) (.returned (.tuple #[])) W1:=
 ⟨rfl,v,by rw[hm.run];exact hm.mat,hm.but,fun b hb=>(hm.sub b hb).elim .inl fun h=>.inr (by omega)⟩
theorem MidM.next(hm:MidM mb p n c A ob oc most W v0 T R0 l F more wr v)(hv0:∀b,some b=v0.ownBlock→b<W.heap.size)(hmb:mb<W.heap.size)(hWT:W.heap.size≤T)(hT:T≤wr.heap.size)(hb5:Below wr.heap.size wr W5)(hb:Below W5.heap.size W5 W6){g:FuncId}{args:Array Value}(hc:Calls Tryz.prog g args W6 (zgf mb p n c A ob oc most W6 v (zk5 most (F,more) l2))):
  Calls Tryz.prog g args W6 fun e W7=>e=.returned (.tuple #[])∧∃F2 more2 v2,MidM mb p n c A ob oc most W v0 T R0 (l++l2) F2 more2 W7 v2∧(T≤W7.heap.size∧∀b,W.heap.size≤b→b<T→W7.heap[b]? =wr.heap[b]?)∧∀b,wr.heap.size≤b→b<W5.heap.size→W7.heap[b]? =W5.heap[b]? :=by
 refine hc.mono ?_;rintro e W7 ⟨rfl,v2,hI,hbut,hsub⟩;have hb6:=za9 hb5 hb;have z1:=hb6.size;have z2:=hbut.size;have z3:=hb.size;have hfoot:∀b,MatAt.foot mb v b→b=mb∨some b=v0.ownBlock∨T≤b:=fun b hf=>hf.elim .inl fun h=>.inr (hm.sub b h)
 have hlow:∀b,MatAt.foot mb v b→b<wr.heap.size:=fun b hf=>(hm.mat.low hf).2
 refine⟨rfl,_,_,v2,⟨?_,hI,?_,?_⟩,⟨by omega,?_⟩,?_⟩
 ·rw[z74,hm.run]
 ·exact hm.but.trans ((But.of hb6).trans hbut fun _ hi=>.inl hi) fun i hi=>by
   rcases hfoot i hi with h|h|h
   ·exact .inl (.inl h)
   ·exact .inl (.inr h)
   ·exact .inr (by omega)
 ·intro b hb2
  rcases hsub b hb2 with h|h
  ·exact hm.sub b h
  ·exact .inr (by omega)
 ·intro b h1 h2
  rw[hbut.block b (by omega) (fun h=>by
   rcases hfoot b h with h|h|h
   ·omega
   ·have:=hv0 b h;omega
   ·omega),hb6.block b (by omega)]
 ·intro b h1 h2
  rw[hbut.block b (by omega) (fun h=>by have:=hlow b h;omega),hb.block b h2]
end
theorem z89(ds:List Nd)(M:Au Nat)(dead:Nat→Bool)(f:Nat)(t:List UInt8)(z:Int)(q:Nat)(ws:List (Int×Int×Int))(j:Nat):mtW ds M dead f t z q ws=mtW ds M dead f t z q (ws.take j)++mtW ds M dead f t z q (ws.drop j):=by
 conv=>lhs;rw[←List.take_append_drop j ws]
 unfold mtW;rw[List.flatMap_append]
theorem zm8(Wm W W3 W4:World)(mb p na ca ob oc most i m cw ab:Nat)(A:Option Addr)(H:List Sh)(HS:Hid (StsIn Wm mb A na ca H))(d:List St)(HD:Hid (H.map (·.d)=d))(HG:Hid (Good d))(hna:d.length=na)(ds:List Nd)(dd:Nat→Bool)(f:Nat)(t:List UInt8)(z:Int)(q:Nat)(hq:q<na)(htl:t.length+i≤1125899906842624)(HBM:Hid (Below mb Wm W))(hmW:mb<W.heap.size)(hmm:mb≤Wm.heap.size)
  (HIH:Hid (∀i':Nat,i'<i→∀(W:World) (v:Value) (F:List Ent) (more:Bool) (t:List UInt8) (z:Int) (q:Nat),MatAt W mb p na ca A ob oc most v F more→Below mb Wm W→q<na→t.length+i'≤1125899906842624→F.length+(mtE ds (auOf d) dd f i' t z q).length≤1048576→Calls Tryz.prog 29 #[.pointer (some ⟨mb,0,none⟩),.agg #[.int .i64 (i':Int),.int .i64 z,.int .i64 (q:Int),.string ⟨t.toArray⟩]] W (zgf mb p na ca A ob oc most W v (zk5 most (F,more) (mtE ds (auOf d) dd f i' t z q)))))
  (v0:Value) (HV0:Hid (∀b,some b=v0.ownBlock→mb≤b∧b<W.heap.size)) (hab:W.heap.size≤ab) (hab3:ab<W3.heap.size)
  (HAT:Hid (W3.heap[ab]? =some (.cells #[.int .i64 (i:Int),.int .i64 z,.int .i64 (q:Int),.string ⟨t.toArray⟩] 56 (0,0)))) (Aw:Option Addr) (ws:List (Int×Int×Int)) (HM:Hid (ws.length=m)) (hmc:m≤cw) (hm:m≤65536)
  (HWC:Hid (0<m→∃g,Aw=some ⟨g,0,none⟩∧W.heap.size≤g∧g<W3.heap.size∧∀k y,ws[k]? =some y→W3.cell? ⟨g,k*3,none⟩=some (.int .i64 y.1)∧W3.cell? ⟨g,k*3+1,none⟩=some (.int .i64 y.2.1)∧W3.cell? ⟨g,k*3+2,none⟩=some (.int .i64 y.2.2)))
  (HWS:Hid (∀x∈ws,(0≤x.1∧x.1≤255)∧0≤x.2.2∧x.2.2<(i:Int))) (R0:List Ent×Bool) (pre F1:List Ent) (more1:Bool) (v1:Value) (HMID:Hid (MidM mb p na ca A ob oc most W v0 W3.heap.size R0 pre F1 more1 W4 v1)) (HK:Hid (W3.heap.size≤W4.heap.size∧∀b,W.heap.size≤b→b<W3.heap.size→W4.heap[b]? =W3.heap[b]?))
  (HL:Hid (R0.1.length+(pre++mtW ds (auOf d) dd f t z q ws).length≤1048576))
  (c1 c2 c4 c5 c6 c9 c10 c11 c12 c13 c14 c15 c16 c17 c18 c19 c20 c21 c22 c23 c24 c25 c26 c27 c28 c29 c30 c31 c32 c33 c34 c35 c36 c37 c38 c39 c40 c41 c42 c43 c44 c45 c46 c47 c48 c49 c50 c51 c52 c53 c54 c55 c56 c57 c58 c59 c60 c61 c62 c63 c64 c65 c66 c67 c68 c69 c70 c71 c72 c73 c74 c75 c76 u7 u8 u80 u81 u82 u83 u84 u85 u86 u87 u88 u89 u90 u91 u92 u93 u94 u95 u96 u97 u98 u99 u100 u101 u102 u103 u104 u105 u106 u107 u108 u109 u110 u111 u112 u113 u114:Value) (Q0:Exit→Act→World→Prop) (hQ0:∀c (a a':Act) w,a.defers=a'.defers→Q0 (.panic c) a w→Q0 (.panic c) a' w)
  (hexit:∀(F2:List Ent) (more2:Bool) (v2:Value) (W':World) (x79 u7 u8 u80 u81 u82 u83 u84 u85 u86 u87 u88 u89 u90 u91 u92 u93 u94 u95 u96 u97 u98 u99 u100 u101 u102 u103 u104 u105 u106 u107 u108 u109 u110 u111 u112 u113 u114:Value),Hid (MidM mb p na ca A ob oc most W v0 W3.heap.size R0 (pre++mtW ds (auOf d) dd f t z q ws) F2 more2 W' v2)→Q0 (.exit 0) ⟨List.toArray (.pointer (some ⟨mb,0,none⟩)::c1::c2::.pointer (some ⟨ab,0,none⟩)::c4::c5::c6::u7::u8::c9::c10::c11::c12::c13::c14::c15::c16::c17::c18::c19::c20::c21::c22::c23::c24::c25::c26::c27::c28::c29::c30::c31::c32::c33::c34::c35::c36::c37::c38::c39::c40::c41::c42::c43::c44::c45::c46::c47::c48::c49::c50::c51::c52::c53::c54::c55::c56::c57::c58::c59::c60::c61::c62::c63::c64::c65::c66::c67::c68::c69::c70::c71::c72::c73::c74::c75::c76::.slice Aw m cw::.int .i64 (m:Int)::x79::u80::u81::u82::u83::u84::u85::u86::u87::u88::u89::u90::u91::u92::u93::u94::u95::u96::u97::u98::u99::u100::u101::u102::u103::u104::u105::u106::u107::u108::u109::u110::u111::u112::u113::u114::[]),[]⟩ W'):
  Code.wp Tryz.prog (.loop (zoc Tryz.f29 0)) Q0 ⟨List.toArray (.pointer (some ⟨mb,0,none⟩)::c1::c2::.pointer (some ⟨ab,0,none⟩)::c4::c5::c6::u7::u8::c9::c10::c11::c12::c13::c14::c15::c16::c17::c18::c19::c20::c21::c22::c23::c24::c25::c26::c27::c28::c29::c30::c31::c32::c33::c34::c35::c36::c37::c38::c39::c40::c41::c42::c43::c44::c45::c46::c47::c48::c49::c50::c51::c52::c53::c54::c55::c56::c57::c58::c59::c60::c61::c62::c63::c64::c65::c66::c67::c68::c69::c70::c71::c72::c73::c74::c75::c76::.slice Aw m cw::.int .i64 (m:Int)::.int .i64 (0:Int)::u80::u81::u82::u83::u84::u85::u86::u87::u88::u89::u90::u91::u92::u93::u94::u95::u96::u97::u98::u99::u100::u101::u102::u103::u104::u105::u106::u107::u108::u109::u110::u111::u112::u113::u114::[]),[]⟩ W4:=by
 conv=>arg 2;arg 1;whnf
 go_loopw [79] (fun jv wr=>∃(j:Nat) (F1:List Ent) (more1:Bool) (v1:Value),j≤m∧jv=.int .i64 (j:Int)∧Hid (MidM mb p na ca A ob oc most W v0 W3.heap.size R0 (pre++mtW ds (auOf d) dd f t z q (ws.take j)) F1 more1 wr v1)∧Hid (W3.heap.size≤wr.heap.size∧∀b,W.heap.size≤b→b<W3.heap.size→wr.heap[b]? =W3.heap[b]?)) (fun jv _=>m-(intOf jv).toNat)
 case atStart=>exact⟨0,F1,more1,v1,Nat.zero_le _,rfl,by unfold mtW;simpa using HMID,HK⟩
 case round=>
  clear HMID HK;obtain⟨j,F1,more1,v1,hj,rfl,HMID,HK⟩:=hrel;by_cases hjm:j<m
  ·obtain⟨g,hA,hg1,hg2,hcell⟩:=HWC.out (by omega);subst hA;obtain⟨⟨yc,yo,yt⟩,hy⟩:∃y,ws[j]? =some y:=⟨ws[j]'(by rw[HM.out];exact hjm),List.getElem?_eq_getElem _⟩;obtain⟨e0,e1,e2⟩:=hcell j _ hy;have hbg:=HK.out.2 g hg1 hg2;have d0:=(World.cell?_of_block (a:=⟨g,j*3,none⟩) hbg).trans e0;have d1:=(World.cell?_of_block (a:=⟨g,j*3+1,none⟩) hbg).trans e1;have d2:=(World.cell?_of_block (a:=⟨g,j*3+2,none⟩) hbg).trans e2;have hat:=(HK.out.2 ab hab hab3).trans HAT.out;have HAT4:=Lib.hid hat
   obtain⟨⟨y0,y1⟩,y4,y5⟩:=HWS.out _ (List.mem_of_getElem? hy);simp only at d0 d1 d2 y0 y1 y4 y5;obtain⟨yn,rfl⟩:=Int.eq_ofNat_of_zero_le y4;obtain⟨yk,rfl⟩:=Int.eq_ofNat_of_zero_le y0;have hyk:yk<256:=by omega
   have HW:=Lib.hid (zCk (ds:=ds) (M:=auOf d) (dead:=dd) (f:=f) (t:=t) (z:=z) (q:=q) hy);have hgw:g<wr.heap.size:=by have:=HK.out.1;omega
   have haw:ab<wr.heap.size:=by have:=HK.out.1;omega
   have hmbw:mb<wr.heap.size:=HMID.out.mat.lt;obtain⟨c0,c1,_,_,_,_⟩:=HMID.out.mat.cells;have hBW:Below mb Wm wr:=HBM.out.trans (HMID.out.but.below (by omega) fun b hb=>by
    rcases hb with rfl|hb
    ·exact Nat.le_refl _
    ·exact(HV0.out b hb).1)
   have hB1:=bnew (za0 wr) (.cells #[.int .i64 (yk:Int),.int .i64 yo,.int .i64 (yn:Int)] 107);have hn1:=heap_alloc_new wr (.cells #[.int .i64 (yk:Int),.int .i64 yo,.int .i64 (yn:Int)] 107);have ha1:=(Below.heap_alloc wr (.cells #[.int .i64 (yk:Int),.int .i64 yo,.int .i64 (yn:Int)] 107) ab haw).trans hat
   have hm1:=(HMID.out.mat.keep hB1).blk;obtain⟨S,hS⟩:∃S,zmj d (q:Int) (yk:Int)=S:=⟨_,rfl⟩;have HSI:Hid ((S= -1∧(auOf d).step q yk=none)∨∃y:Nat,S=(y:Int)∧(auOf d).step q yk=some y∧y<na):=by
    rw[←hS,←hna];exact zBk HG.out (by rw[hna];exact hq) yk
   have HSTEP:=Lib.hid (fun(W6:World) (hb:Below (wr.alloc (.cells #[.int .i64 (yk:Int),.int .i64 yo,.int .i64 (yn:Int)] 107)).heap.size (wr.alloc (.cells #[.int .i64 (yk:Int),.int .i64 yo,.int .i64 (yn:Int)] 107)) W6)=>z9g W6 mb (by have:=(za9 hB1 hb).size;omega) A na ca H (HS.out.keep (hBW.trans ((za9 hB1 hb).mono (by omega))) (Nat.le_refl _)) (q:Int) (yk:Int) ⟨by omega,by omega⟩);rw[HD.out,hS]at HSTEP;have HB1:=Lib.hid hB1;have HN1:=Lib.hid hn1;have HA1:=Lib.hid ha1;have HM1:=Lib.hid hm1;have HBW:=Lib.hid hBW;have hyk0:(yk:Int)%256=yk:=by omega
   have hyk2:IntKind.u8.wrap (yk:Int)=(yk:Int):=by
    have h1:IntKind.u8.wrap (yk:Int)=(yk:Int)%256:=by simp[IntKind.wrap_u8]
    rw[h1];exact hyk0
   clear hcell e0 e1 e2 hbg hat hy y4 c0 c1 hB1 hn1 ha1 hm1 hS hBW;go_wp2_with fail;generalize wr.alloc (.cells #[.int .i64 (yk:Int),.int .i64 yo,.int .i64 (yn:Int)] 107)=W1 at*;have HC1:Hid (W1.cell? ⟨mb,1,none⟩=some (.slice A na ca)∧W1.cell? ⟨ab,2,none⟩=some (.int .i64 (q:Int))∧W1.cell? ⟨wr.heap.size,0,none⟩=some (.int .i64 (yk:Int))):=⟨cell_of_row W1 mb 1 _ _ (0,0) HM1.out,cell_of_row W1 ab 2 _ _ (0,0) HA1.out,cell_of_row W1 _ 0 _ _ (0,0) HN1.out⟩;obtain⟨k0,k1,k2⟩:=HC1.out;go_region_held3 (fun w'=>w'.cell? ⟨mb,1,none⟩=some (.slice A na ca)∧w'.cell? ⟨ab,2,none⟩=some (.int .i64 (q:Int))∧w'.cell? ⟨wr.heap.size,0,none⟩=some (.int .i64 (yk:Int)))
    (first
     |assumption
     |exact HC1.out
     |exact HC7.out)
    (first|(go_at_call 48;refine(HSTEP.out _ (by repeat(first|exact za0 _|refine Below.drew ?_))).mono ?_;rintro e W7 ⟨rfl,hb7⟩;have HB7:=Lib.hid ((show Below W1.heap.size W1 _ by repeat(first|exact za0 _|refine Below.drew ?_)).trans (hb7.mono (by exact Nat.le_refl _)));have HC7:Hid (W7.cell? ⟨mb,1,none⟩=some (.slice A na ca)∧W7.cell? ⟨ab,2,none⟩=some (.int .i64 (q:Int))∧W7.cell? ⟨wr.heap.size,0,none⟩=some (.int .i64 (yk:Int))):=⟨(HB7.out.cell (p:=⟨mb,1,none⟩) (Array.getElem?_eq_some_iff.1 HM1.out).1).trans HC1.out.1,(HB7.out.cell (p:=⟨ab,2,none⟩) (Array.getElem?_eq_some_iff.1 HA1.out).1).trans HC1.out.2.1,(HB7.out.cell (p:=⟨wr.heap.size,0,none⟩) (Array.getElem?_eq_some_iff.1 HN1.out).1).trans HC1.out.2.2⟩;clear hb7))
   clear k0 k1 k2 HSTEP;have HB8:=Lib.hid (za9 HB1.out HB7.out);rcases HSI.out with⟨rfl,hst⟩|⟨y,rfl,hst,hyn⟩
   ·have HMN:Hid (MidM mb p na ca A ob oc most W v0 W3.heap.size R0 (pre++mtW ds (auOf d) dd f t z q (ws.take (j+1))) F1 more1 W7 v1):=by
     have e:=HW.out;rw[Int.toNat_natCast,hst]at e;simp only[List.append_nil]at e;show MidM _ _ _ _ _ _ _ _ _ _ _ _ _ _ _ _ _;rw[e];exact HMID.out.keep HB8.out
    have HKN:Hid (W3.heap.size≤W7.heap.size∧∀b,W.heap.size≤b→b<W3.heap.size→W7.heap[b]? =W3.heap[b]?):=⟨Nat.le_trans HK.out.1 HB8.out.size,fun b h1 h2=>by
     have:=HK.out.1;rw[HB8.out.block b (by omega)];exact HK.out.2 b h1 h2⟩
    clear HMID HW HSI hst;go_wp2_with fail;go_roundw;case rel=>exact⟨j+1,F1,more1,v1,by omega,by go_num,HMN,HKN⟩
    case measure=>first|(simp[intOf];done)|(simp[intOf];omega)
   ·have hn7:=(HB7.out.block _ (Array.getElem?_eq_some_iff.1 HN1.out).1).trans HN1.out;have ha7:=(HB7.out.block _ (Array.getElem?_eq_some_iff.1 HA1.out).1).trans HA1.out;have w0:=cell_of_row W7 _ 0 _ _ (0,0) hn7;have w1:=cell_of_row W7 _ 1 _ _ (0,0) hn7;have w2:=cell_of_row W7 _ 2 _ _ (0,0) hn7;have a1:=cell_of_row W7 _ 1 _ _ (0,0) ha7;have a3:=cell_of_row W7 _ 3 _ _ (0,0) ha7;simp at w0 w1 w2 a1 a3
    have l1:=(Array.getElem?_eq_some_iff.1 hn7).1;have l2:=(Array.getElem?_eq_some_iff.1 ha7).1;obtain⟨t',ht'⟩:∃t',t++[UInt8.ofNat yk]=t':=⟨_,rfl⟩;obtain⟨Z,hZ⟩:∃S,IntKind.i64.wrap (z+yo)=S:=⟨_,rfl⟩;have htl':t'.length+yn≤1125899906842624:=by rw[←ht'];simp;omega
    have hW2:mtW ds (auOf d) dd f t z q (ws.take (j+1))=mtW ds (auOf d) dd f t z q (ws.take j)++mtE ds (auOf d) dd f yn t' Z y:=by
     have e:=HW.out;rw[Int.toNat_natCast,hst]at e;simp only[Int.toNat_natCast]at e;rw[ht',hZ]at e;exact e
    have hcv:=F.conv_one W7 (yk:Int);have hcat:=F.term_cat t (yk:Int) (by omega);obtain⟨T,hT⟩:∃T,strOfNums [(yk:Int)]=T:=⟨_,rfl⟩;rw[hT]at hcat hcv;rw[Int.toNat_natCast,ht']at hcat
    have HC:=Lib.hid (HMID.out.next (W5:=W7.alloc (.cells #[.int .u8 (yk:Int)] 5)) (W6:=W7.alloc (.cells #[.int .u8 (yk:Int)] 5)) (l2:=mtE ds (auOf d) dd f yn t' Z y) (fun b hb=>(HV0.out b hb).2) hmW (by omega) HK.out.1 (bnew HB8.out _) (za0 _) (HIH.out yn (by omega) _ v1 F1 more1 t' Z y (HMID.out.mat.keep (bnew HB8.out _)) (HBW.out.trans ((bnew HB8.out _).mono (by omega))) hyn htl' (by
     have h1:=z73 most R0 (pre++mtW ds (auOf d) dd f t z q (ws.take j));rw[HMID.out.run]at h1;have h2:=HL.out;rw[z89 ds (auOf d) dd f t z q ws (j+1),hW2]at h2;simp only[List.length_append]at h1 h2⊢;omega)))
    have HW2:=Lib.hid hW2;clear hn7 ha7 hst hW2 ht' hT HMID HW HSI;go_wp2_with fail;refine HC.out.mono ?_;rintro e W9 ⟨rfl,F2,more2,v2,hm2,hk2,_⟩;have HMN:Hid (MidM mb p na ca A ob oc most W v0 W3.heap.size R0 (pre++mtW ds (auOf d) dd f t z q (ws.take (j+1))) F2 more2 W9 v2):=by
     show MidM _ _ _ _ _ _ _ _ _ _ _ _ _ _ _ _ _;rw[HW2.out,←List.append_assoc];exact hm2
    have HKN:Hid (W3.heap.size≤W9.heap.size∧∀b,W.heap.size≤b→b<W3.heap.size→W9.heap[b]? =W3.heap[b]?):=⟨hk2.1,fun b h1 h2=>(hk2.2 b h1 h2).trans (HK.out.2 b h1 h2)⟩;clear hm2 hk2 HC;go_wp2_with fail;go_roundw;case rel=>exact⟨j+1,F2,more2,v2,by omega,by go_num,HMN,HKN⟩
    case measure=>first|(simp[intOf];done)|(simp[intOf];omega)
  ·obtain rfl:j=m:=by omega
   have hall:ws.take j=ws:=List.take_of_length_le (by rw[HM.out];omega);rw[hall]at HMID;go_wp2_with fail;exact hexit F1 more1 v1 wr _ _ _ _ _ _ _ _ _ _ _ _ _ _ _ _ _ _ _ _ _ _ _ _ _ _ _ _ _ _ _ _ _ _ _ _ _ _ HMID
end
section
open Go.RowKit Go.Maps
open F (Ent Nd Nh gath gath_s Fine byteAt DictAt waysC wayC entsC entC)
theorem zsc{W w7:World}{mb p na ca ob oc most g cap:Nat}{A:Option Addr}{Av:Option Addr}{cv:Nat}{E:List Ent}{t:List UInt8}{Z:Int}(HM:MatAt W mb p na ca A ob oc most (.slice Av E.length cv) E false)(hg:W.grownBy w7 (Value.slice Av E.length cv).ownBlock)(ho:w7.ownsRow (mb+1) 29 2 (.slice (some ⟨g,0,none⟩) (E.length+1) cap) (E.length+1) (entsC E++(#[Value.string ⟨t.toArray⟩,.int .i64 Z]:Array Value).toList)){U:Nat}(hgm:(Value.slice Av E.length cv).ownBlock=some g∨U≤g)(hU:W.heap.size≤U):
  MatAt (w7.setCell ⟨mb,4,none⟩ (.slice (some ⟨g,0,none⟩) (E.length+1) cap)) mb p na ca A ob oc most (.slice (some ⟨g,0,none⟩) (E.length+1) cap) (E++[(t,Z)]) false∧But (MatAt.foot mb (.slice Av E.length cv)) W (w7.setCell ⟨mb,4,none⟩ (.slice (some ⟨g,0,none⟩) (E.length+1) cap))∧∀b,some b=(Value.slice (some ⟨g,0,none⟩) (E.length+1) cap).ownBlock→some b=(Value.slice Av E.length cv).ownBlock∨W.heap.size≤b:=by
 have hne:some mb≠(Value.slice Av E.length cv).ownBlock:=fun e=>by
  have:=(HM.own.lt _ e.symm).1;omega
 have hb7:=(hg.block mb HM.lt hne).trans HM.blk;refine⟨⟨?_,?_⟩,⟨hg.os,hg.tape,hg.output,by simpa using hg.size,fun k hk hn=>?_⟩,fun b hb=>?_⟩
 ·have:=F.blk_set (j:=4) hb7 (.slice (some ⟨g,0,none⟩) (E.length+1) cap);simpa using this
 ·have e1:entsC (E++[(t,Z)])=entsC E++(#[Value.string ⟨t.toArray⟩,.int .i64 Z]:Array Value).toList:=by
   unfold F.entsC;rw[List.flatMap_append];rfl
  rw[e1,List.length_append];exact F.own_set ho (Nat.lt_succ_self _)
 ·rw[Below.heap_setCell _ _ _ _ (by exact fun e=>hn (.inl e))];exact hg.block k hk fun e=>hn (.inr e)
 ·have e1:b=g:=by
   have:some b=some g:=hb;injection this
  subst e1;rcases hgm with h|h
  ·exact .inl h.symm
  ·exact .inr (by omega)
theorem zF4(W:World)(mb p na ca ob oc most ab nb:Nat)(A:Option Addr)(v:Value)(E:List Ent)(HM:Hid (MatAt W mb p na ca A ob oc most v E false))(hE:E.length≤1048576)(hab:ab≠mb∧some ab≠v.ownBlock)(hnb:nb≠mb∧some nb≠v.ownBlock)(t:List UInt8)(z o:Int)
  (a1:W.cell? ⟨ab,1,none⟩=some (.int .i64 z)) (a3:W.cell? ⟨ab,3,none⟩=some (.string ⟨t.toArray⟩)) (n1:W.cell? ⟨nb,1,none⟩=some (.int .i64 o))
  (c1 c2 c5 c6 c7 c8 c9 c10 c11 c12 c13 c14 c15 c16 c17 c18 c19 c20 c21 c22 c23 c24 c25 c26 c27 c28 c29 c30 c31 c32 c33 c34 c35 c36 c37 c38 c39 c40 c41 c42 c43 c44 c45 c46 c47 c48 c49 c50 c51 c52 c53 c54 c55 c56 c57 c58 c76 c77 c78 c79 c80 c81 c82 c83 c84 c85 c86 c87 c88 c89 c90 c91 c92 c93 c94 c95 c96 c97 c98 c99 c100 c101 c102 c103 c104 c105 c106 c107 c108 c109 c110 c111 c112 c113 c114 u59 u60 u61 u62 u63 u64 u65 u66 u67 u68 u69 u70 u71 u72 u73 u74 u75:Value) (Q0:Exit→Act→World→Prop) (hQ0:∀c (a a':Act) w,a.defers=a'.defers→Q0 (.panic c) a w→Q0 (.panic c) a' w)
  (hnext:∀(v':Value) (W':World) (u59 u60 u61 u62 u63 u64 u65 u66 u67 u68 u69 u70 u71 u72 u73 u74 u75:Value),Hid (MatAt W' mb p na ca A ob oc most v' (E++[(t,IntKind.i64.wrap (z+o))]) false)→Hid (But (MatAt.foot mb v) W W')→Hid (∀b,some b=v'.ownBlock→some b=v.ownBlock∨W.heap.size≤b)→Q0 .normal ⟨List.toArray (.pointer (some ⟨mb,0,none⟩)::c1::c2::.pointer (some ⟨ab,0,none⟩)::.pointer (some ⟨nb,0,none⟩)::c5::c6::c7::c8::c9::c10::c11::c12::c13::c14::c15::c16::c17::c18::c19::c20::c21::c22::c23::c24::c25::c26::c27::c28::c29::c30::c31::c32::c33::c34::c35::c36::c37::c38::c39::c40::c41::c42::c43::c44::c45::c46::c47::c48::c49::c50::c51::c52::c53::c54::c55::c56::c57::c58::u59::u60::u61::u62::u63::u64::u65::u66::u67::u68::u69::u70::u71::u72::u73::u74::u75::c76::c77::c78::c79::c80::c81::c82::c83::c84::c85::c86::c87::c88::c89::c90::c91::c92::c93::c94::c95::c96::c97::c98::c99::c100::c101::c102::c103::c104::c105::c106::c107::c108::c109::c110::c111::c112::c113::c114::[]),[]⟩ W'):
  Code.wp Tryz.prog (zHc Tryz.f29 6) Q0 ⟨List.toArray (.pointer (some ⟨mb,0,none⟩)::c1::c2::.pointer (some ⟨ab,0,none⟩)::.pointer (some ⟨nb,0,none⟩)::c5::c6::c7::c8::c9::c10::c11::c12::c13::c14::c15::c16::c17::c18::c19::c20::c21::c22::c23::c24::c25::c26::c27::c28::c29::c30::c31::c32::c33::c34::c35::c36::c37::c38::c39::c40::c41::c42::c43::c44::c45::c46::c47::c48::c49::c50::c51::c52::c53::c54::c55::c56::c57::c58::u59::u60::u61::u62::u63::u64::u65::u66::u67::u68::u69::u70::u71::u72::u73::u74::u75::c76::c77::c78::c79::c80::c81::c82::c83::c84::c85::c86::c87::c88::c89::c90::c91::c92::c93::c94::c95::c96::c97::c98::c99::c100::c101::c102::c103::c104::c105::c106::c107::c108::c109::c110::c111::c112::c113::c114::[]),[]⟩ W:=by
 obtain⟨Av,cv,rfl,hEc⟩:=za1 HM.out.own;have r4:=cell_of_row W mb 4 _ _ (0,0) HM.out.blk;simp at r4
 obtain⟨Z,hZ⟩:∃Z,IntKind.i64.wrap (z+o)=Z:=⟨_,rfl⟩;rw[hZ]at hnext;have HNE:Hid (some mb≠(Value.slice Av E.length cv).ownBlock):=fun e=>by
  have:=(HM.out.own.lt _ e.symm).1;omega
 have hpW:mb<W.heap.size:=HM.out.lt;have l1:=(lt_of_cell a1).1;have l3:=(lt_of_cell n1).1;simp only at l1 l3;have HNX:=Lib.hid hnext;have HC0:=Lib.hid (And.intro a1 (And.intro a3 n1));have HKP:Hid (∀W',Below W.heap.size W W'→W'.cell? ⟨ab,1,none⟩=some (.int .i64 z)∧W'.cell? ⟨ab,3,none⟩=some (.string ⟨t.toArray⟩)∧W'.cell? ⟨nb,1,none⟩=some (.int .i64 o)):=fun W' hb=>⟨(hb.cell (p:=⟨ab,1,none⟩) l1).trans a1,(hb.cell (p:=⟨ab,3,none⟩) l1).trans a3,(hb.cell (p:=⟨nb,1,none⟩) l3).trans n1⟩
 have HKG:Hid (∀W',W.grownBy W' (Value.slice Av E.length cv).ownBlock→W'.cell? ⟨ab,1,none⟩=some (.int .i64 z)∧W'.cell? ⟨ab,3,none⟩=some (.string ⟨t.toArray⟩)∧W'.cell? ⟨nb,1,none⟩=some (.int .i64 o)):=fun W' hg=>⟨hg.cell a1 hab.2,hg.cell a3 hab.2,hg.cell n1 hnb.2⟩
 have HKS:Hid (∀(W':World) (u:Value),(W'.cell? ⟨ab,1,none⟩=some (.int .i64 z)∧W'.cell? ⟨ab,3,none⟩=some (.string ⟨t.toArray⟩)∧W'.cell? ⟨nb,1,none⟩=some (.int .i64 o))→(W'.setCell ⟨mb,4,none⟩ u).cell? ⟨ab,1,none⟩=some (.int .i64 z)∧(W'.setCell ⟨mb,4,none⟩ u).cell? ⟨ab,3,none⟩=some (.string ⟨t.toArray⟩)∧(W'.setCell ⟨mb,4,none⟩ u).cell? ⟨nb,1,none⟩=some (.int .i64 o)):=fun W' u h=>⟨(World.cell?_of_block (a:=⟨ab,1,none⟩) (Below.heap_setCell W' ⟨mb,4,none⟩ u ab hab.1)).trans h.1,(World.cell?_of_block (a:=⟨ab,3,none⟩) (Below.heap_setCell W' ⟨mb,4,none⟩ u ab hab.1)).trans h.2.1,(World.cell?_of_block (a:=⟨nb,1,none⟩) (Below.heap_setCell W' ⟨mb,4,none⟩ u nb hnb.1)).trans h.2.2⟩
 clear hnext hab hnb;conv=>arg 2;whnf
 refine wp_region_held_drew (S:=(fun w'=>w'.cell? ⟨ab,1,none⟩=some (.int .i64 z)∧w'.cell? ⟨ab,3,none⟩=some (.string ⟨t.toArray⟩)∧w'.cell? ⟨nb,1,none⟩=some (.int .i64 o))) (by kernel_rfl) ?_ (fun hHeld=>?_)
 ·(try dsimp only);first|assumption|exact HC0.out|exact HC7.out|exact HC8.out|(refine HKP.out _ ?_;(repeat(first|exact za0 _|refine Below.drew ?_|refine bnew ?_ _));done)
 refine wpAnyH_take (i:=0) (v:=?_) rfl (by kernel_rfl) (by kernel_rfl) (by kernel_rfl) (fun c _ w h=>hQ0 c _ _ w (by rfl) h) (Or.inl ⟨by rfl,?_⟩) (by assumption) ?_;rotate_left
 ·intro w hSw;(try dsimp only at hSw);go_simp;(try with_reducible rfl)
 try simp only[Act.put,List.setIfInBounds_toArray]
 refine wpAnyH_take (i:=1) (v:=?_) rfl (by kernel_rfl) (by kernel_rfl) (by kernel_rfl) (fun c _ w h=>hQ0 c _ _ w (by rfl) h) (Or.inl ⟨by rfl,?_⟩) (by assumption) ?_;rotate_left
 ·intro w hSw;(try dsimp only at hSw);go_simp;(try with_reducible rfl)
 try simp only[Act.put]
 refine wpAnyH_take (i:=2) (v:=?_) rfl (by kernel_rfl) (by kernel_rfl) (by kernel_rfl) (fun c _ w h=>hQ0 c _ _ w (by rfl) h) (Or.inl ⟨by rfl,?_⟩) (by assumption) ?_;rotate_left
 ·intro w hSw;(try dsimp only at hSw);go_simp;(try with_reducible rfl)
 try simp only[Act.put]
 refine wpAnyH_take (i:=3) (v:=?_) rfl (by kernel_rfl) (by kernel_rfl) (by kernel_rfl) (fun c _ w h=>hQ0 c _ _ w (by rfl) h) (Or.inl ⟨by rfl,?_⟩) (by assumption) ?_;rotate_left
 ·intro w hSw;(try dsimp only at hSw);go_simp;(try with_reducible rfl)
 try simp only[Act.put]
 refine wpAnyH_take (i:=5) (v:=?_) rfl (by kernel_rfl) (by kernel_rfl) (by kernel_rfl) (fun c _ w h=>hQ0 c _ _ w (by rfl) h) (Or.inl ⟨by rfl,?_⟩) (by assumption) ?_;rotate_left
 ·intro w hSw;(try dsimp only at hSw);go_simp;(try with_reducible rfl)
 try simp only[Act.put]
 refine wpAnyH_take (i:=6) (v:=?_) rfl (by kernel_rfl) (by kernel_rfl) (by kernel_rfl) (fun c _ w h=>hQ0 c _ _ w (by rfl) h) (Or.inl ⟨by rfl,?_⟩) (by assumption) ?_;rotate_left
 ·intro w hSw;(try dsimp only at hSw);go_simp;(try with_reducible rfl)
 try simp only[Act.put]
 refine wpAnyH_take (i:=7) (v:=?_) rfl (by kernel_rfl) (by kernel_rfl) (by kernel_rfl) (fun c _ w h=>hQ0 c _ _ w (by rfl) h) (Or.inl ⟨by rfl,?_⟩) (by assumption) ?_;rotate_left
 ·intro w hSw;(try dsimp only at hSw);go_simp;(try with_reducible rfl)
 try simp only[Act.put]
 refine wpAnyH_take (i:=8) (v:=?_) rfl (by kernel_rfl) (by kernel_rfl) (by kernel_rfl) (fun c _ w h=>hQ0 c _ _ w (by rfl) h) (Or.inl ⟨by rfl,?_⟩) (by assumption) ?_;rotate_left
 ·intro w hSw;(try dsimp only at hSw);go_simp;(try with_reducible rfl)
 try simp only[Act.put]
 refine wpAnyH_take (i:=9) (v:=?_) rfl (by kernel_rfl) (by kernel_rfl) (by kernel_rfl) (fun c _ w h=>hQ0 c _ _ w (by rfl) h) (Or.inl ⟨by rfl,?_⟩) (by assumption) ?_;rotate_left
 ·intro w hSw;(try dsimp only at hSw);go_simp;(try with_reducible rfl)
 try simp only[Act.put]
 refine wpAnyH_take (i:=10) (v:=?_) rfl (by kernel_rfl) (by kernel_rfl) (by kernel_rfl) (fun c _ w h=>hQ0 c _ _ w (by rfl) h) (Or.inl ⟨by rfl,?_⟩) (by assumption) ?_;rotate_left
 ·intro w hSw;(try dsimp only at hSw);go_simp;(try with_reducible rfl)
 try simp only[Act.put]
 refine wpAnyH_take (i:=11) (v:=?_) rfl (by kernel_rfl) (by kernel_rfl) (by kernel_rfl) (fun c _ w h=>hQ0 c _ _ w (by rfl) h) (Or.inl ⟨by rfl,?_⟩) (by assumption) ?_;rotate_left
 ·intro w hSw;(try dsimp only at hSw);go_simp;(try with_reducible rfl)
 try simp only[Act.put]
 refine wpAnyH_take (i:=12) (v:=?_) rfl (by kernel_rfl) (by kernel_rfl) (by kernel_rfl) (fun c _ w h=>hQ0 c _ _ w (by rfl) h) (Or.inl ⟨by rfl,?_⟩) (by assumption) ?_;rotate_left
 ·intro w hSw;(try dsimp only at hSw);go_simp;(try with_reducible rfl)
 try simp only[Act.put]
 refine wpAnyH_ready (rs:=[4,13]) (by kernel_rfl) (by simp) ?_;refine AllReadyH.cons rfl (fun K hK=>?_) (AllReadyH.cons rfl (fun K hK=>?_) (AllReadyH.nil))
 ·skip
  go_simp
  refine hK.out _ _ ?_ (fun hHeld=>?_)
  ·(try dsimp only);first|assumption|exact HC0.out|exact HC7.out|exact HC8.out|(refine HKP.out _ ?_;(repeat(first|exact za0 _|refine Below.drew ?_|refine bnew ?_ _));done)
  clear hK K;try simp only[Act.put,List.setIfInBounds_toArray,List.set_cons_zero,List.set_cons_succ]
  refine wpAnyH_ready (rs:=[13]) (by kernel_rfl) (by simp) ?_;refine AllReadyH.cons rfl (fun K hK=>?_) (AllReadyH.nil);go_simp
  refine hK.out _ _ ?_ (fun hHeld=>?_)
  ·(try dsimp only);first|assumption|exact HC0.out|exact HC7.out|exact HC8.out|(refine HKP.out _ ?_;(repeat(first|exact za0 _|refine Below.drew ?_|refine bnew ?_ _));done)
  clear hK K;try simp only[Act.put,List.setIfInBounds_toArray,List.set_cons_zero,List.set_cons_succ]
  refine wpAnyH_ready (rs:=[14]) (by kernel_rfl) (by simp) ?_;refine AllReadyH.cons rfl (fun K hK=>?_) (AllReadyH.nil);refine zc4 (base:=mb+1) _ #[.string ⟨t.toArray⟩,.int .i64 Z] (by rfl) (.tmp 63) (.tmp 72) 22 (by rfl) F.el_ent (.slice Av E.length cv) E.length (entsC E) (by rfl) (za2 HM.out.own (by repeat(first|exact za0 _|refine Below.drew ?_|refine bnew ?_ _))) (nb:=W.heap.size) (m:=1) (by rfl) (by first|exact heap_alloc_new _ _|(simp;done)) (by rfl) (by simp[Value.oneCell']) (by omega) (by unfold maxLen;omega) (by omega) (Nat.le_trans hpW (Below.size (B:=W.heap.size) (by repeat(first|exact za0 _|refine Below.drew ?_|refine bnew ?_ _)))) ?_;intro g cap w7 hown7 hg7 hgm
  have HG7:=Lib.hid (F.grown_through (a:=W) (by repeat(first|exact za0 _|refine Below.drew ?_|refine bnew ?_ _)) hg7);have hb7:=(HG7.out.block mb hpW HNE.out).trans HM.out.blk;have f0:=cell_of_row w7 mb 4 _ _ (0,0) hb7;have fz:w7.frozen? ⟨mb,4,none⟩=false:=by simp[World.frozen?,hb7]
  simp at f0
  have HC7:=Lib.hid (HKG.out w7 HG7.out);have HC8:=Lib.hid (HKS.out _ (.slice (some ⟨g,0,none⟩) (E.length+1) cap) HC7.out);have HE:=Lib.hid (zsc (t:=t) (Z:=Z) HM.out HG7.out hown7 hgm (Below.size (B:=W.heap.size) (by repeat(first|exact za0 _|refine Below.drew ?_|refine bnew ?_ _))));clear hb7 hg7 hgm hown7;refine hK.out _ _ ?_ (fun hHeld=>?_)
  ·(try dsimp only);first|assumption|exact HC0.out|exact HC7.out|exact HC8.out|(refine HKP.out _ ?_;(repeat(first|exact za0 _|refine Below.drew ?_|refine bnew ?_ _));done)
  clear hK K;try simp only[Act.put,List.setIfInBounds_toArray]
  refine wpAnyH_take (i:=15) (v:=?_) rfl (by kernel_rfl) (by kernel_rfl) (by kernel_rfl) (fun c _ w h=>hQ0 c _ _ w (by rfl) h) (Or.inl ⟨by rfl,?_⟩) (by assumption) ?_;rotate_left
  ·intro w hSw;(try dsimp only at hSw);go_simp;(try with_reducible rfl)
  try simp only[Act.put]
  refine wpAnyH_take (i:=16) (v:=?_) rfl (by kernel_rfl) (by kernel_rfl) (by kernel_rfl) (fun c _ w h=>hQ0 c _ _ w (by rfl) h) (Or.inl ⟨by rfl,?_⟩) (by assumption) ?_;rotate_left
  ·intro w hSw;(try dsimp only at hSw);go_simp;(try with_reducible rfl)
  try simp only[Act.put]
  refine wpAnyH_ready (rs:=[17]) (by kernel_rfl) (by simp) ?_;refine AllReadyH.cons rfl (fun K hK=>?_) (AllReadyH.nil);go_simp
  refine hK.out _ _ ?_ (fun hHeld=>?_)
  ·(try dsimp only);first|assumption|exact HC0.out|exact HC7.out|exact HC8.out|(refine HKP.out _ ?_;(repeat(first|exact za0 _|refine Below.drew ?_|refine bnew ?_ _));done)
  clear hK K;try simp only[Act.put,List.setIfInBounds_toArray,List.set_cons_zero,List.set_cons_succ]
  refine wpAnyH_done (by kernel_rfl) ?_ _;exact HNX.out _ _ _ _ _ _ _ _ _ _ _ _ _ _ _ _ _ _ _ HE.out.1 HE.out.2.1 HE.out.2.2
 ·skip
  go_simp
  refine hK.out _ _ ?_ (fun hHeld=>?_)
  ·(try dsimp only);first|assumption|exact HC0.out|exact HC7.out|exact HC8.out|(refine HKP.out _ ?_;(repeat(first|exact za0 _|refine Below.drew ?_|refine bnew ?_ _));done)
  clear hK K;try simp only[Act.put,List.setIfInBounds_toArray,List.set_cons_zero,List.set_cons_succ]
  refine wpAnyH_ready (rs:=[4]) (by kernel_rfl) (by simp) ?_;refine AllReadyH.cons rfl (fun K hK=>?_) (AllReadyH.nil);go_simp
  refine hK.out _ _ ?_ (fun hHeld=>?_)
  ·(try dsimp only);first|assumption|exact HC0.out|exact HC7.out|exact HC8.out|(refine HKP.out _ ?_;(repeat(first|exact za0 _|refine Below.drew ?_|refine bnew ?_ _));done)
  clear hK K;try simp only[Act.put,List.setIfInBounds_toArray,List.set_cons_zero,List.set_cons_succ]
  refine wpAnyH_ready (rs:=[14]) (by kernel_rfl) (by simp) ?_;refine AllReadyH.cons rfl (fun K hK=>?_) (AllReadyH.nil);refine zc4 (base:=mb+1) _ #[.string ⟨t.toArray⟩,.int .i64 Z] (by rfl) (.tmp 63) (.tmp 72) 22 (by rfl) F.el_ent (.slice Av E.length cv) E.length (entsC E) (by rfl) (za2 HM.out.own (by repeat(first|exact za0 _|refine Below.drew ?_|refine bnew ?_ _))) (nb:=W.heap.size) (m:=1) (by rfl) (by first|exact heap_alloc_new _ _|(simp;done)) (by rfl) (by simp[Value.oneCell']) (by omega) (by unfold maxLen;omega) (by omega) (Nat.le_trans hpW (Below.size (B:=W.heap.size) (by repeat(first|exact za0 _|refine Below.drew ?_|refine bnew ?_ _)))) ?_;intro g cap w7 hown7 hg7 hgm
  have HG7:=Lib.hid (F.grown_through (a:=W) (by repeat(first|exact za0 _|refine Below.drew ?_|refine bnew ?_ _)) hg7);have hb7:=(HG7.out.block mb hpW HNE.out).trans HM.out.blk;have f0:=cell_of_row w7 mb 4 _ _ (0,0) hb7;have fz:w7.frozen? ⟨mb,4,none⟩=false:=by simp[World.frozen?,hb7]
  simp at f0
  have HC7:=Lib.hid (HKG.out w7 HG7.out);have HC8:=Lib.hid (HKS.out _ (.slice (some ⟨g,0,none⟩) (E.length+1) cap) HC7.out);have HE:=Lib.hid (zsc (t:=t) (Z:=Z) HM.out HG7.out hown7 hgm (Below.size (B:=W.heap.size) (by repeat(first|exact za0 _|refine Below.drew ?_|refine bnew ?_ _))));clear hb7 hg7 hgm hown7;refine hK.out _ _ ?_ (fun hHeld=>?_)
  ·(try dsimp only);first|assumption|exact HC0.out|exact HC7.out|exact HC8.out|(refine HKP.out _ ?_;(repeat(first|exact za0 _|refine Below.drew ?_|refine bnew ?_ _));done)
  clear hK K;try simp only[Act.put,List.setIfInBounds_toArray]
  refine wpAnyH_take (i:=15) (v:=?_) rfl (by kernel_rfl) (by kernel_rfl) (by kernel_rfl) (fun c _ w h=>hQ0 c _ _ w (by rfl) h) (Or.inl ⟨by rfl,?_⟩) (by assumption) ?_;rotate_left
  ·intro w hSw;(try dsimp only at hSw);go_simp;(try with_reducible rfl)
  try simp only[Act.put]
  refine wpAnyH_take (i:=16) (v:=?_) rfl (by kernel_rfl) (by kernel_rfl) (by kernel_rfl) (fun c _ w h=>hQ0 c _ _ w (by rfl) h) (Or.inl ⟨by rfl,?_⟩) (by assumption) ?_;rotate_left
  ·intro w hSw;(try dsimp only at hSw);go_simp;(try with_reducible rfl)
  try simp only[Act.put]
  refine wpAnyH_ready (rs:=[17]) (by kernel_rfl) (by simp) ?_;refine AllReadyH.cons rfl (fun K hK=>?_) (AllReadyH.nil);go_simp
  refine hK.out _ _ ?_ (fun hHeld=>?_)
  ·(try dsimp only);first|assumption|exact HC0.out|exact HC7.out|exact HC8.out|(refine HKP.out _ ?_;(repeat(first|exact za0 _|refine Below.drew ?_|refine bnew ?_ _));done)
  clear hK K;try simp only[Act.put,List.setIfInBounds_toArray,List.set_cons_zero,List.set_cons_succ]
  refine wpAnyH_done (by kernel_rfl) ?_ _;exact HNX.out _ _ _ _ _ _ _ _ _ _ _ _ _ _ _ _ _ _ _ HE.out.1 HE.out.2.1 HE.out.2.2
end
end Go.Proofs.YtaociahafamncaaGreatDoor
