/- Folded. -/
import Derived.Test.YtaociahafamncaaGreatDoorHM16
set_option maxRecDepth 100000
set_option maxHeartbeats 40000000
set_option linter.unusedVariables false
namespace Go.Proofs.YtaociahafamncaaGreatDoor
section
open Go.RowKit Go.Maps
open F (Ent Nd Nh gath gath_s Fine byteAt DictAt waysC wayC)
structure Mid(k:List Ent→Bool)(I:List Ent→World→(Nat→Prop)→Prop)(W:World)(S:Nat→Prop)(T:Nat)(h0 l:List Ent)(h:List Ent)(go:Bool)(W':World)(S':Nat→Prop):Prop where
 run:runY k h0 l=(h,go)
 inv:I h W' S'
 but:But S W W'
 sub:∀b,S' b→S b∨T≤b
theorem Mid.keep{N:Nat}{fn:FuncId}{P1 P2:Addr}{k:List Ent→Bool}{I:List Ent→World→(Nat→Prop)→Prop}(HY:Yield N fn P1 P2 k I){W W1 W2:World}{S S1:Nat→Prop}{T:Nat}{h0 l h:List Ent}{go:Bool}(hm:Mid k I W S T h0 l h go W1 S1)(hb:Below W1.heap.size W1 W2):Mid k I W S T h0 l h go W2 S1:=
 ⟨hm.run,HY.keep _ _ _ _ hm.inv hb,hm.but.trans (S':=S) (But.of hb) fun _ hi=>.inl hi,hm.sub⟩
theorem Mid.next{k:List Ent→Bool}{I:List Ent→World→(Nat→Prop)→Prop}{W wr W5 W6:World}{S S1:Nat→Prop}{T:Nat}{h0 l h1 L:List Ent}(hm:Mid k I W S T h0 l h1 true wr S1)(hS0:∀b,S b→b<W.heap.size)(hS1:∀b,S1 b→b<wr.heap.size)(hWT:W.heap.size≤T)(hT:T≤wr.heap.size)(hb5:Below wr.heap.size wr W5)(hb:Below W5.heap.size W5 W6){g:FuncId}{args:Array Value}(hc:Calls Tryz.prog g args W6 (Handed k I W6 S1 (runY k h1 L))):
  Calls Tryz.prog g args W6 fun e W7=>∃h2 go S2,e=.returned (.bool go)∧Mid k I W S T h0 (l++L) h2 go W7 S2∧(T≤W7.heap.size∧∀b,W.heap.size≤b→b<T→W7.heap[b]? =wr.heap[b]?)∧∀b,wr.heap.size≤b→b<W5.heap.size→W7.heap[b]? =W5.heap[b]? :=by
 refine hc.mono ?_;rintro e W7 ⟨rfl,S2,hI,hbut,hsub⟩;have hb6:=za9 hb5 hb;have z1:=hb6.size;have z2:=hbut.size;have z3:=hb.size;refine⟨_,_,S2,rfl,⟨?_,hI,?_,?_⟩,⟨by omega,?_⟩,?_⟩
 ·rw[ztc,hm.run];rfl
 ·exact hm.but.trans ((But.of hb6).trans hbut fun _ hi=>.inl hi) fun i hi=>(hm.sub i hi).elim .inl fun h=>.inr (by omega)
 ·intro b hb2
  rcases hsub b hb2 with h|h
  ·exact hm.sub b h
  ·exact .inr (by omega)
 ·intro b h1 h2
  rw[hbut.block b (by omega) (fun h=>by
   rcases hm.sub b h with h|h
   ·have:=hS0 b h;omega
   ·omega),hb6.block b (by omega)]
 ·intro b h1 h2
  rw[hbut.block b (by omega) (fun h=>by have:=hS1 b h;omega),hb.block b h2]
theorem step_cells{W:World}{a b:Nat}{v0 v1 v2 v3 u0 u1 u2:Value}{e e':TypeId}(h:W.heap[a]? =some (.cells #[v0,v1,v2,v3] e (0,0)))(h':W.heap[b]? =some (.cells #[u0,u1,u2] e' (0,0))):W.cell? ⟨a,0,none⟩=some v0∧W.cell? ⟨a,1,none⟩=some v1∧W.cell? ⟨a,2,none⟩=some v2∧W.cell? ⟨a,3,none⟩=some v3∧W.cell? ⟨b,0,none⟩=some u0:=
 ⟨cell_of_row W a 0 _ _ (0,0) h,cell_of_row W a 1 _ _ (0,0) h,cell_of_row W a 2 _ _ (0,0) h,cell_of_row W a 3 _ _ (0,0) h,cell_of_row W b 0 _ _ (0,0) h'⟩
theorem znj{W:World}{a:Nat}{v0 v1 v2 v3:Value}{e:TypeId}(h:W.heap[a]? =some (.cells #[v0,v1,v2,v3] e (0,0))):W.cell? ⟨a,0,none⟩=some v0∧W.cell? ⟨a,1,none⟩=some v1∧W.cell? ⟨a,2,none⟩=some v2∧W.cell? ⟨a,3,none⟩=some v3:=
 ⟨cell_of_row W a 0 _ _ (0,0) h,cell_of_row W a 1 _ _ (0,0) h,cell_of_row W a 2 _ _ (0,0) h,cell_of_row W a 3 _ _ (0,0) h⟩
theorem zp4(ds:List Nd)(s:List UInt8)(f:Nat)(t:List UInt8)(z:Int)(still:Bool)(ws:List (Int×Int×Int))(j:Nat):frW ds s f t z still ws=frW ds s f t z still (ws.take j)++frW ds s f t z still (ws.drop j):=by
 conv=>lhs;rw[←List.take_append_drop j ws]
 unfold frW;rw[List.flatMap_append]
theorem Mid.all{k:List Ent→Bool}{I:List Ent→World→(Nat→Prop)→Prop}{W W1:World}{S S1:Nat→Prop}{T:Nat}{h0 l h:List Ent}(hm:Mid k I W S T h0 l h false W1 S1)(r:List Ent):Mid k I W S T h0 (l++r) h false W1 S1:=
 ⟨by rw[ztc,hm.run];rfl,hm.inv,hm.but,hm.sub⟩
theorem zp3(w0 W W3 W4:World)(p N i m cw ab:Nat)(ds:List Nd)(f:Nat)(s t:List UInt8)(z:Int)(tight still:Bool)(fn:FuncId)(P1 P2:Addr)(k:List Ent→Bool)(I:List Ent→World→(Nat→Prop)→Prop)(HY:Hid (Yield N fn P1 P2 k I))(hsl:s.length≤1125899906842624)(htl:t.length+i≤1125899906842624)(hst:(tight&&decide (t.length<s.length))=still)(HN:Hid (w0.heap.size=N))(HB0:Hid (Below N w0 W))(hNW:N≤W.heap.size)
  (HIH:Hid (∀i':Nat,i'<i→∀(W:World) (S:Nat→Prop) (h:List Ent) (t:List UInt8) (z:Int) (tight:Bool),I h W S→Below N w0 W→t.length+i'≤1125899906842624→(h++frE ds s f i' t z tight).length≤1048576→Calls Tryz.prog 24 #[.pointer (some ⟨p,0,none⟩),.agg #[.int .i64 (i':Int),.int .i64 z,.int .i64 0,.string ⟨t.toArray⟩],.string ⟨s.toArray⟩,.bool tight,.func (.func fn) #[] #[.pointer (some P1),.pointer (some P2)]] W (Handed k I W S (runY k h (frE ds s f i' t z tight)))))
  (S:Nat→Prop) (HS0:Hid (∀b,S b→N≤b∧b<W.heap.size)) (hab:W.heap.size≤ab) (hab3:ab<W3.heap.size)
  (HAT:Hid (W3.heap[ab]? =some (.cells #[.int .i64 (i:Int),.int .i64 z,.int .i64 0,.string ⟨t.toArray⟩] 56 (0,0)))) (Aw:Option Addr) (ws:List (Int×Int×Int)) (HM:Hid (ws.length=m)) (hmc:m≤cw) (hm:m≤65536)
  (HWC:Hid (0<m→∃g,Aw=some ⟨g,0,none⟩∧W.heap.size≤g∧g<W3.heap.size∧∀k y,ws[k]? =some y→W3.cell? ⟨g,k*3,none⟩=some (.int .i64 y.1)∧W3.cell? ⟨g,k*3+1,none⟩=some (.int .i64 y.2.1)∧W3.cell? ⟨g,k*3+2,none⟩=some (.int .i64 y.2.2)))
  (HWS:Hid (∀x∈ws,(0≤x.1∧x.1≤255)∧0≤x.2.2∧x.2.2<(i:Int))) (h0 pre h1:List Ent) (S1:Nat→Prop) (HMID:Hid (Mid k I W S W3.heap.size h0 pre h1 true W4 S1)) (HK:Hid (W3.heap.size≤W4.heap.size∧∀b,W.heap.size≤b→b<W3.heap.size→W4.heap[b]? =W3.heap[b]?))
  (HL:Hid ((h0++(pre++frW ds s f t z still ws)).length≤1048576))
  (c1 c5 c7 c8 c9 c11 c12 c14 c18 c19 c20 c21 c22 c23 c24 c25 c26 c27 c28 c29 c30 c31 c32 c33 c34 c35 c36 c37 c38 c39 c40 c41 c42 c43 c44 c45 c46 c47 c48 c49 c50 c51 c52 c53 u10 u15 u16 u17 u57 u58 u59 u60 u61 u62 u63 u64 u65 u66 u67 u68 u69 u70 u71 u72 u73 u74 u75 u76 u77 u78 u79 u80 u81 u82 u83 u84 u85 u86 u87 u88 u89 u90 u91 u92 u93 u94 u95 u96 u97 u98 u99 u100 u101 u102 u103 u104 u105 u106 u107 u108 u109:Value) (Q0:Exit→Act→World→Prop) (hQ0:∀c (a a':Act) w,a.defers=a'.defers→Q0 (.panic c) a w→Q0 (.panic c) a' w)
  (hexit:∀(h2:List Ent) (S2:Nat→Prop) (W':World) (x56 u10 u15 u16 u17 u57 u58 u59 u60 u61 u62 u63 u64 u65 u66 u67 u68 u69 u70 u71 u72 u73 u74 u75 u76 u77 u78 u79 u80 u81 u82 u83 u84 u85 u86 u87 u88 u89 u90 u91 u92 u93 u94 u95 u96 u97 u98 u99 u100 u101 u102 u103 u104 u105 u106 u107 u108 u109:Value),Hid (Mid k I W S W3.heap.size h0 (pre++frW ds s f t z still ws) h2 true W' S2)→Q0 (.exit 0) ⟨List.toArray (.pointer (some ⟨p,0,none⟩)::c1::.string ⟨s.toArray⟩::.bool tight::.func (.func fn) #[] #[.pointer (some P1),.pointer (some P2)]::c5::.pointer (some ⟨ab,0,none⟩)::c7::c8::c9::u10::c11::c12::.int .i64 (t.length:Int)::c14::u15::u16::u17::c18::c19::c20::c21::c22::c23::c24::c25::c26::c27::c28::c29::c30::c31::c32::c33::c34::c35::c36::c37::c38::c39::c40::c41::c42::c43::c44::c45::c46::c47::c48::c49::c50::c51::c52::c53::.slice Aw m cw::.int .i64 (m:Int)::x56::u57::u58::u59::u60::u61::u62::u63::u64::u65::u66::u67::u68::u69::u70::u71::u72::u73::u74::u75::u76::u77::u78::u79::u80::u81::u82::u83::u84::u85::u86::u87::u88::u89::u90::u91::u92::u93::u94::u95::u96::u97::u98::u99::u100::u101::u102::u103::u104::u105::u106::u107::u108::u109::[]),[]⟩ W')
  (hret:∀(h2:List Ent) (S2:Nat→Prop) (W':World) (x56 u15 u16 u17 u57 u58 u59 u60 u61 u62 u63 u64 u65 u66 u67 u68 u69 u70 u71 u72 u73 u74 u75 u76 u77 u78 u79 u80 u81 u82 u83 u84 u85 u86 u87 u88 u89 u90 u91 u92 u93 u94 u95 u96 u97 u98 u99 u100 u101 u102 u103 u104 u105 u106 u107 u108 u109:Value),Hid (Mid k I W S W3.heap.size h0 (pre++frW ds s f t z still ws) h2 false W' S2)→Q0 .ret ⟨List.toArray (.pointer (some ⟨p,0,none⟩)::c1::.string ⟨s.toArray⟩::.bool tight::.func (.func fn) #[] #[.pointer (some P1),.pointer (some P2)]::c5::.pointer (some ⟨ab,0,none⟩)::c7::c8::c9::.bool false::c11::c12::.int .i64 (t.length:Int)::c14::u15::u16::u17::c18::c19::c20::c21::c22::c23::c24::c25::c26::c27::c28::c29::c30::c31::c32::c33::c34::c35::c36::c37::c38::c39::c40::c41::c42::c43::c44::c45::c46::c47::c48::c49::c50::c51::c52::c53::.slice Aw m cw::.int .i64 (m:Int)::x56::u57::u58::u59::u60::u61::u62::u63::u64::u65::u66::u67::u68::u69::u70::u71::u72::u73::u74::u75::u76::u77::u78::u79::u80::u81::u82::u83::u84::u85::u86::u87::u88::u89::u90::u91::u92::u93::u94::u95::u96::u97::u98::u99::u100::u101::u102::u103::u104::u105::u106::u107::u108::u109::[]),[]⟩ W'):
  Code.wp Tryz.prog (.loop (zoc Tryz.f24 0)) Q0 ⟨List.toArray (.pointer (some ⟨p,0,none⟩)::c1::.string ⟨s.toArray⟩::.bool tight::.func (.func fn) #[] #[.pointer (some P1),.pointer (some P2)]::c5::.pointer (some ⟨ab,0,none⟩)::c7::c8::c9::u10::c11::c12::.int .i64 (t.length:Int)::c14::u15::u16::u17::c18::c19::c20::c21::c22::c23::c24::c25::c26::c27::c28::c29::c30::c31::c32::c33::c34::c35::c36::c37::c38::c39::c40::c41::c42::c43::c44::c45::c46::c47::c48::c49::c50::c51::c52::c53::.slice Aw m cw::.int .i64 (m:Int)::.int .i64 (0:Int)::u57::u58::u59::u60::u61::u62::u63::u64::u65::u66::u67::u68::u69::u70::u71::u72::u73::u74::u75::u76::u77::u78::u79::u80::u81::u82::u83::u84::u85::u86::u87::u88::u89::u90::u91::u92::u93::u94::u95::u96::u97::u98::u99::u100::u101::u102::u103::u104::u105::u106::u107::u108::u109::[]),[]⟩ W4:=by
 conv=>arg 2;arg 1;whnf
 go_loopw [56] (fun jv wr=>∃(j:Nat) (h1:List Ent) (S1:Nat→Prop),j≤m∧jv=.int .i64 (j:Int)∧Hid (Mid k I W S W3.heap.size h0 (pre++frW ds s f t z still (ws.take j)) h1 true wr S1)∧Hid (W3.heap.size≤wr.heap.size∧∀b,W.heap.size≤b→b<W3.heap.size→wr.heap[b]? =W3.heap[b]?)) (fun jv _=>m-(intOf jv).toNat)
 case atStart=>exact⟨0,h1,S1,Nat.zero_le _,rfl,by unfold frW;simpa using HMID,HK⟩
 case round=>
  clear HMID HK;obtain⟨j,h1,S1,hj,rfl,HMID,HK⟩:=hrel;by_cases hjm:j<m
  ·obtain⟨g,hA,hg1,hg2,hcell⟩:=HWC.out (by omega);subst hA;obtain⟨⟨yc,yo,yt⟩,hy⟩:∃y,ws[j]? =some y:=⟨ws[j]'(by rw[HM.out];exact hjm),List.getElem?_eq_getElem _⟩;obtain⟨e0,e1,e2⟩:=hcell j _ hy;have hbg:=HK.out.2 g hg1 hg2;have d0:=(World.cell?_of_block (a:=⟨g,j*3,none⟩) hbg).trans e0;have d1:=(World.cell?_of_block (a:=⟨g,j*3+1,none⟩) hbg).trans e1;have d2:=(World.cell?_of_block (a:=⟨g,j*3+2,none⟩) hbg).trans e2;have hat:=(HK.out.2 ab hab hab3).trans HAT.out;have a1:=cell_of_row wr ab 1 _ _ (0,0) hat
   have a3:=cell_of_row wr ab 3 _ _ (0,0) hat
   obtain⟨⟨y0,y1⟩,y4,y5⟩:=HWS.out _ (List.mem_of_getElem? hy);simp only at d0 d1 d2 y0 y1 y4 y5;simp at a1 a3
   obtain⟨yn,rfl⟩:=Int.eq_ofNat_of_zero_le y4;have HW:=Lib.hid (zDc (ds:=ds) (s:=s) (f:=f) (t:=t) (z:=z) (still:=still) hy);have hgw:g<wr.heap.size:=by have:=HK.out.1;omega
   have haw:ab<wr.heap.size:=by have:=HK.out.1;omega
   clear hcell e0 e1 e2 hbg hat hy y4;obtain⟨bs,hbs⟩:∃b:Nat,(s.getD t.length 0).toNat=b:=⟨_,rfl⟩;have hb256:bs<256:=by rw[←hbs];exact UInt8.toNat_lt _
   have hwb:IntKind.i64.wrap (bs:Int)=(bs:Int):=IntWalk.i64_in _ (by omega);clear hb256;have hbA:byteAt s t.length=(bs:Int):=by unfold F.byteAt;rw[hbs]
   rw[hbA,Int.toNat_natCast]at HW;obtain⟨t',ht'⟩:∃t',t++[UInt8.ofNat yc.toNat]=t':=⟨_,rfl⟩;obtain⟨Z,hZ⟩:∃S,IntKind.i64.wrap (z+yo)=S:=⟨_,rfl⟩;have htl':t'.length+yn≤1125899906842624:=by rw[←ht'];simp;omega
   simp only[]at HW;rw[ht',hZ]at HW;have HC:=Lib.hid (fun(tn:Bool) (hW:frW ds s f t z still (ws.take (j+1))=frW ds s f t z still (ws.take j)++frE ds s f yn t' Z tn) (W5 W6:World) (hb5:Below wr.heap.size wr W5) (hb:Below W5.heap.size W5 W6)=>HMID.out.next (W5:=W5) (W6:=W6) (L:=frE ds s f yn t' Z tn) (fun b hb=>(HS0.out b hb).2) (fun b hb=>(HY.out.low _ _ _ HMID.out.inv b hb).2) (by omega) HK.out.1 hb5 hb (HIH.out yn (by omega) W6 S1 h1 t' Z tn (HY.out.keep _ _ _ _ HMID.out.inv (za9 hb5 hb)) ((HB0.out.trans (HMID.out.but.below hNW fun b hb=>(HS0.out b hb).1)).trans ((za9 hb5 hb).mono (by have:=HK.out.1;omega))) htl' (by
    have h1:=zzk k (pre++frW ds s f t z still (ws.take j)) h0;rw[HMID.out.run]at h1;have h2:=HL.out;rw[zp4 ds s f t z still ws (j+1),hW]at h2;simp only[List.length_append]at h1 h2⊢;omega)))
   have hcv:∀nq,(convert 108 9 (.slice (some ⟨wr.heap.size+1,0,none⟩) 1 1)).run Tryz.prog (((wr.alloc (.cells #[.int .i64 yc,.int .i64 yo,.int .i64 yn] 107)).drewN nq).alloc (.cells #[.int .u8 yc] 5))=.ok (.string (strOfNums [yc])) (((wr.alloc (.cells #[.int .i64 yc,.int .i64 yo,.int .i64 yn] 107)).drewN nq).alloc (.cells #[.int .u8 yc] 5)):=by
    intro nq
    have:=F.conv_one ((wr.alloc (.cells #[.int .i64 yc,.int .i64 yo,.int .i64 yn] 107)).drewN nq) yc;simpa using this
   have hcat:=F.term_cat t yc (by omega);have hw1:yc%256=yc:=by omega
   obtain⟨T,hT⟩:∃T,strOfNums [yc]=T:=⟨_,rfl⟩;rw[hT]at hcat hcv;rw[ht']at hcat
   by_cases hlt:tight=true∧t.length<s.length
   ·obtain⟨hti,hln⟩:=hlt;subst hti;have q1:decide (t.length<s.length)=true:=decide_eq_true hln;have q1':decide ((t.length:Int)<(s.length:Int))=true:=decide_eq_true (by omega);obtain rfl:true=still:=by rw[←hst,q1];rfl
    have hz:=byte_at s t.length (by show t.length<s.toArray.size;simpa using hln);rw[hbs]at hz;rcases(show yc<(bs:Int)∨(bs:Int)≤yc by omega)with hc|hc
    ·have q2:decide (yc<(bs:Int))=true:=decide_eq_true hc;have HS:=Lib.hid (fun(W2:World) (hb:Below wr.heap.size wr W2)=>show Mid k I W S W3.heap.size h0 (pre++frW ds s f t z true (ws.take (j+1))) h1 true W2 S1∧W3.heap.size≤W2.heap.size∧∀b,W.heap.size≤b→b<W3.heap.size→W2.heap[b]? =W3.heap[b]? from⟨by
      have e:=HW.out;rw[if_pos (by simpa using hc),List.append_nil]at e;rw[e];exact HMID.out.keep HY.out hb,Nat.le_trans HK.out.1 hb.size,fun b h1 h2=>by
      have:=HK.out.1;rw[hb.block b (by omega)];exact HK.out.2 b h1 h2⟩)
     clear HC hcv hcat HMID HW;go_wp2_with fail;go_quiet (fail)
     have HN2:=HS.out _ (below_drewN (bnew (za0 wr) (.cells #[.int .i64 yc,.int .i64 yo,.int .i64 yn] 107)) nq);have HN3:=Lib.hid HN2.1;have HN4:=Lib.hid HN2.2;clear HN2 HS;go_wp2_with fail;go_roundw;case rel=>exact⟨j+1,h1,S1,by omega,by go_num,HN3,HN4⟩
     case measure=>first|(simp[intOf];done)|(simp[intOf];omega)
    ·have q2:decide (yc<(bs:Int))=false:=decide_eq_false (by omega);have HW2:Hid (frW ds s f t z true (ws.take (j+1))=frW ds s f t z true (ws.take j)++frE ds s f yn t' Z (yc==(bs:Int))):=by
      show _=_;rw[HW.out,if_neg (by simp;omega)];rfl
     have HC1:=Lib.hid (HC.out (yc==(bs:Int)) HW2.out);clear HC HMID HW hc;go_wp2_with fail;go_quiet (fail)
     go_wp2_with fail;have hB5:Below wr.heap.size wr ((((wr.alloc (.cells #[.int .i64 yc,.int .i64 yo,.int .i64 yn] 107)).drewN nq).alloc (.cells #[.int .u8 yc] 5)).alloc (.cells #[.int .i64 yn,.int .i64 Z,.int .i64 0,.string ⟨t'.toArray⟩] 56)):=bnew (bnew (below_drewN (bnew (za0 wr) _) nq) _) _;have hn5:((((wr.alloc (.cells #[.int .i64 yc,.int .i64 yo,.int .i64 yn] 107)).drewN nq).alloc (.cells #[.int .u8 yc] 5)).alloc (.cells #[.int .i64 yn,.int .i64 Z,.int .i64 0,.string ⟨t'.toArray⟩] 56)).heap[wr.heap.size+1+1]? =some (.cells #[.int .i64 yn,.int .i64 Z,.int .i64 0,.string ⟨t'.toArray⟩] 56 (0,0)):=by
      have:=heap_alloc_new (((wr.alloc (.cells #[.int .i64 yc,.int .i64 yo,.int .i64 yn] 107)).drewN nq).alloc (.cells #[.int .u8 yc] 5)) (.cells #[.int .i64 yn,.int .i64 Z,.int .i64 0,.string ⟨t'.toArray⟩] 56);simpa using this
     have hy5:((((wr.alloc (.cells #[.int .i64 yc,.int .i64 yo,.int .i64 yn] 107)).drewN nq).alloc (.cells #[.int .u8 yc] 5)).alloc (.cells #[.int .i64 yn,.int .i64 Z,.int .i64 0,.string ⟨t'.toArray⟩] 56)).heap[wr.heap.size]? =some (.cells #[.int .i64 yc,.int .i64 yo,.int .i64 yn] 107 (0,0)):=by
      rw[Below.heap_alloc _ _ _ (by simp;omega),Below.heap_alloc _ _ _ (by simp)];exact heap_alloc_new wr _
     generalize(((wr.alloc (.cells #[.int .i64 yc,.int .i64 yo,.int .i64 yn] 107)).drewN nq).alloc (.cells #[.int .u8 yc] 5)).alloc (.cells #[.int .i64 yn,.int .i64 Z,.int .i64 0,.string ⟨t'.toArray⟩] 56)=W5 at*;have HL5:=Lib.hid (Array.getElem?_eq_some_iff.1 hn5).1;have HB5:=Lib.hid hB5;have HN5:=Lib.hid hn5;have HY5:=Lib.hid hy5;obtain⟨e0,e1,e2,e3,e4⟩:=step_cells hn5 hy5;have HE5:=Lib.hid (step_cells hn5 hy5);clear hB5 hn5 hy5;have HCC:=Lib.hid (fun W6 hb=>HC1.out W5 W6 HB5.out hb);clear HC1;go_region_held3 (fun w'=>w'.cell? ⟨wr.heap.size+1+1,0,none⟩=some (.int .i64 (yn:Int))∧w'.cell? ⟨wr.heap.size+1+1,1,none⟩=some (.int .i64 Z)∧w'.cell? ⟨wr.heap.size+1+1,2,none⟩=some (.int .i64 0)∧w'.cell? ⟨wr.heap.size+1+1,3,none⟩=some (.string ⟨t'.toArray⟩)∧w'.cell? ⟨wr.heap.size,0,none⟩=some (.int .i64 yc))
      (first
       |assumption
       |exact HE5.out
       |exact HE7.out)
      (first|(go_at_call 24;refine(HCC.out _ (by repeat(first|exact za0 _|refine Below.drew ?_))).mono ?_;rintro e W7 ⟨h2,go,S2,rfl,hm2,hk2,hq2⟩;have HM2:=Lib.hid hm2;have HK2:=Lib.hid hk2;have HE7:=Lib.hid (step_cells ((hq2 _ (by omega) HL5.out).trans HN5.out) ((hq2 _ (Nat.le_refl _) (Nat.lt_of_le_of_lt (by omega) HL5.out)).trans HY5.out));clear hm2 hk2 hq2))
     clear HCC HE5 HE7 HN5 HY5 HB5 HL5 e0 e1 e2 e3 e4;cases go
     ·have HMA:=HM2.out.all (frW ds s f t z true (ws.drop (j+1)));rw[List.append_assoc pre,←HW2.out,List.append_assoc pre,←zp4]at HMA;go_wp2_with fail;exact hret h2 S2 W7 _ _ _ _ _ _ _ _ _ _ _ _ _ _ _ _ _ _ _ _ _ _ _ _ _ _ _ _ _ _ _ _ _ _ _ _ _ _ _ _ _ _ _ _ _ _ _ _ _ _ _ _ _ _ _ _ _ HMA
     ·have HMA:=HM2.out;rw[List.append_assoc,←HW2.out]at HMA;have HMB:=Lib.hid HMA;have HK3:Hid (W3.heap.size≤W7.heap.size∧∀b,W.heap.size≤b→b<W3.heap.size→W7.heap[b]? =W3.heap[b]?):=⟨HK2.out.1,fun b h1 h2=>(HK2.out.2 b h1 h2).trans (HK.out.2 b h1 h2)⟩;clear HMA HM2 HK2;go_wp2_with fail;go_roundw;case rel=>exact⟨j+1,h2,S2,by omega,by go_num,HMB,HK3⟩
      case measure=>first|(simp[intOf];done)|(simp[intOf];omega)
   ·have hstl:still=false:=by
     rw[←hst];cases tight
     ·rfl
     ·simp at hlt
      simpa using hlt
    subst hstl;have HW2:Hid (frW ds s f t z false (ws.take (j+1))=frW ds s f t z false (ws.take j)++frE ds s f yn t' Z false):=by
     show _=_;rw[HW.out];rfl
    have HC1:=Lib.hid (HC.out false HW2.out);clear HC HMID HW;have hq:(tight=true∧decide (t.length<s.length)=false∧decide ((t.length:Int)<(s.length:Int))=false)∨tight=false:=by
     cases tight
     ·exact .inr rfl
     ·refine .inl ⟨rfl,?_,?_⟩
      ·simp at hlt⊢;omega
      ·simp at hlt⊢;omega
    rcases hq with⟨rfl,q1,q2⟩|rfl
    all_goals
     clear hlt hst;go_wp2_with fail;go_quiet (fail)
     go_wp2_with fail;have hB5:Below wr.heap.size wr ((((wr.alloc (.cells #[.int .i64 yc,.int .i64 yo,.int .i64 yn] 107)).drewN nq).alloc (.cells #[.int .u8 yc] 5)).alloc (.cells #[.int .i64 yn,.int .i64 Z,.int .i64 0,.string ⟨t'.toArray⟩] 56)):=bnew (bnew (below_drewN (bnew (za0 wr) _) nq) _) _;have hn5:((((wr.alloc (.cells #[.int .i64 yc,.int .i64 yo,.int .i64 yn] 107)).drewN nq).alloc (.cells #[.int .u8 yc] 5)).alloc (.cells #[.int .i64 yn,.int .i64 Z,.int .i64 0,.string ⟨t'.toArray⟩] 56)).heap[wr.heap.size+1+1]? =some (.cells #[.int .i64 yn,.int .i64 Z,.int .i64 0,.string ⟨t'.toArray⟩] 56 (0,0)):=by
      have:=heap_alloc_new (((wr.alloc (.cells #[.int .i64 yc,.int .i64 yo,.int .i64 yn] 107)).drewN nq).alloc (.cells #[.int .u8 yc] 5)) (.cells #[.int .i64 yn,.int .i64 Z,.int .i64 0,.string ⟨t'.toArray⟩] 56);simpa using this
     have hy5:((((wr.alloc (.cells #[.int .i64 yc,.int .i64 yo,.int .i64 yn] 107)).drewN nq).alloc (.cells #[.int .u8 yc] 5)).alloc (.cells #[.int .i64 yn,.int .i64 Z,.int .i64 0,.string ⟨t'.toArray⟩] 56)).heap[wr.heap.size]? =some (.cells #[.int .i64 yc,.int .i64 yo,.int .i64 yn] 107 (0,0)):=by
      rw[Below.heap_alloc _ _ _ (by simp;omega),Below.heap_alloc _ _ _ (by simp)];exact heap_alloc_new wr _
     generalize(((wr.alloc (.cells #[.int .i64 yc,.int .i64 yo,.int .i64 yn] 107)).drewN nq).alloc (.cells #[.int .u8 yc] 5)).alloc (.cells #[.int .i64 yn,.int .i64 Z,.int .i64 0,.string ⟨t'.toArray⟩] 56)=W5 at*;have HL5:=Lib.hid (Array.getElem?_eq_some_iff.1 hn5).1;have HB5:=Lib.hid hB5;have HN5:=Lib.hid hn5;have HY5:=Lib.hid hy5;obtain⟨e0,e1,e2,e3⟩:=znj hn5;have HE5:=Lib.hid (znj hn5);clear hB5 hn5 hy5;have HCC:=Lib.hid (fun W6 hb=>HC1.out W5 W6 HB5.out hb);clear HC1;refine wp_region_held_drew (S:=(fun w'=>w'.cell? ⟨wr.heap.size+1+1,0,none⟩=some (.int .i64 (yn:Int))∧w'.cell? ⟨wr.heap.size+1+1,1,none⟩=some (.int .i64 Z)∧w'.cell? ⟨wr.heap.size+1+1,2,none⟩=some (.int .i64 0)∧w'.cell? ⟨wr.heap.size+1+1,3,none⟩=some (.string ⟨t'.toArray⟩))) (by kernel_rfl) ?_ (fun hHeld=>?_)
     ·(try dsimp only);first|assumption|exact HE5.out|exact HE7.out
     refine wpAnyH_take (i:=0) (v:=?_) rfl (by kernel_rfl) (by kernel_rfl) (by kernel_rfl) (fun c _ w h=>hQ0 c _ _ w (by rfl) h) (Or.inl ⟨by rfl,?_⟩) (by assumption) ?_;rotate_left
     ·intro w hSw;(try dsimp only at hSw);go_simp;(try with_reducible rfl)
     try simp only[Act.put,List.setIfInBounds_toArray]
     refine wpAnyH_take (i:=1) (v:=?_) rfl (by kernel_rfl) (by kernel_rfl) (by kernel_rfl) (fun c _ w h=>hQ0 c _ _ w (by rfl) h) (Or.inl ⟨by rfl,?_⟩) (by assumption) ?_;rotate_left
     ·intro w hSw;(try dsimp only at hSw);go_simp;(try with_reducible rfl)
     try simp only[Act.put]
     refine wpAnyH_take (i:=2) (v:=?_) rfl (by kernel_rfl) (by kernel_rfl) (by kernel_rfl) (fun c _ w h=>hQ0 c _ _ w (by rfl) h) (Or.inl ⟨by rfl,?_⟩) (by assumption) ?_;rotate_left
     ·intro w hSw;(try dsimp only at hSw);go_simp;(try with_reducible rfl)
     try simp only[Act.put]
     refine wpAnyH_take (i:=3) (v:=?_) rfl (by kernel_rfl) (by kernel_rfl) (by kernel_rfl) (fun c _ w h=>hQ0 c _ _ w (by rfl) h) (Or.inl ⟨by rfl,?_⟩) (by assumption) ?_;rotate_left
     ·intro w hSw;(try dsimp only at hSw);go_simp;(try with_reducible rfl)
     try simp only[Act.put]
     refine wpAnyH_take (i:=4) (v:=?_) rfl (by kernel_rfl) (by kernel_rfl) (by kernel_rfl) (fun c _ w h=>hQ0 c _ _ w (by rfl) h) (Or.inl ⟨by rfl,?_⟩) (by assumption) ?_;rotate_left
     ·intro w hSw;(try dsimp only at hSw);go_simp;(try with_reducible rfl)
     try simp only[Act.put]
     refine wpAnyH_take (i:=5) (v:=undef) rfl (by kernel_rfl) (by kernel_rfl) (by kernel_rfl) (fun c _ w h=>hQ0 c _ _ w (by rfl) h) (Or.inr ⟨by kernel_rfl,rfl⟩) (by assumption) ?_;try simp only[Act.put]
     refine wpAnyH_take (i:=6) (v:=undef) rfl (by kernel_rfl) (by kernel_rfl) (by kernel_rfl) (fun c _ w h=>hQ0 c _ _ w (by rfl) h) (Or.inr ⟨by kernel_rfl,rfl⟩) (by assumption) ?_;try simp only[Act.put]
     refine wpAnyH_take (i:=7) (v:=undef) rfl (by kernel_rfl) (by kernel_rfl) (by kernel_rfl) (fun c _ w h=>hQ0 c _ _ w (by rfl) h) (Or.inr ⟨by kernel_rfl,rfl⟩) (by assumption) ?_;try simp only[Act.put]
     refine wpAnyH_take (i:=8) (v:=undef) rfl (by kernel_rfl) (by kernel_rfl) (by kernel_rfl) (fun c _ w h=>hQ0 c _ _ w (by rfl) h) (Or.inr ⟨by kernel_rfl,rfl⟩) (by assumption) ?_;try simp only[Act.put]
     refine wpAnyH_take (i:=9) (v:=undef) rfl (by kernel_rfl) (by kernel_rfl) (by kernel_rfl) (fun c _ w h=>hQ0 c _ _ w (by rfl) h) (Or.inr ⟨by kernel_rfl,rfl⟩) (by assumption) ?_;try simp only[Act.put]
     refine wpAnyH_take (i:=10) (v:=undef) rfl (by kernel_rfl) (by kernel_rfl) (by kernel_rfl) (fun c _ w h=>hQ0 c _ _ w (by rfl) h) (Or.inr ⟨by kernel_rfl,rfl⟩) (by assumption) ?_;try simp only[Act.put]
     refine wpAnyH_take (i:=11) (v:=undef) rfl (by kernel_rfl) (by kernel_rfl) (by kernel_rfl) (fun c _ w h=>hQ0 c _ _ w (by rfl) h) (Or.inr ⟨by kernel_rfl,rfl⟩) (by assumption) ?_;try simp only[Act.put]
     refine wpAnyH_take (i:=12) (v:=?_) rfl (by kernel_rfl) (by kernel_rfl) (by kernel_rfl) (fun c _ w h=>hQ0 c _ _ w (by rfl) h) (Or.inl ⟨by rfl,?_⟩) (by assumption) ?_;rotate_left
     ·intro w hSw;(try dsimp only at hSw);go_simp;(try with_reducible rfl)
     try simp only[Act.put]
     refine wpAnyH_take (i:=13) (v:=?_) rfl (by kernel_rfl) (by kernel_rfl) (by kernel_rfl) (fun c _ w h=>hQ0 c _ _ w (by rfl) h) (Or.inl ⟨by rfl,?_⟩) (by assumption) ?_;rotate_left
     ·intro w hSw;(try dsimp only at hSw);go_simp;(try with_reducible rfl)
     try simp only[Act.put]
     refine wpAnyH_ready (rs:=[14]) (by kernel_rfl) (by simp) ?_;refine AllReadyH.cons rfl (fun K hK=>?_) AllReadyH.nil;go_simp
     go_at_call 24
     refine(HCC.out _ (by repeat(first|exact za0 _|refine Below.drew ?_))).mono ?_;rintro e W7 ⟨h2,go,S2,rfl,hm2,hk2,hq2⟩;have HM2:=Lib.hid hm2;have HK2:=Lib.hid hk2;have HE7:=Lib.hid (znj ((hq2 _ (by omega) HL5.out).trans HN5.out));clear hm2 hk2 hq2;refine hK.out _ _ ?_ (fun hHeld=>?_)
     ·(try dsimp only);first|assumption|exact HE5.out|exact HE7.out
     clear hK K;try simp only[Act.put,List.setIfInBounds_toArray,List.set_cons_zero,List.set_cons_succ]
     refine wpAnyH_take (i:=15) (v:=?_) rfl (by kernel_rfl) (by kernel_rfl) (by kernel_rfl) (fun c _ w h=>hQ0 c _ _ w (by rfl) h) (Or.inl ⟨by rfl,?_⟩) (by assumption) ?_;rotate_left
     ·intro w hSw;(try dsimp only at hSw);go_simp;(try with_reducible rfl)
     try simp only[Act.put,List.setIfInBounds_toArray]
     refine wpAnyH_done (by kernel_rfl) ?_ _;try simp only[List.set_cons_zero,List.set_cons_succ,List.getElem_toArray,List.getElem_cons_zero,List.getElem_cons_succ]
     clear HCC HN5 HY5 HB5 HL5 e0 e1 e2 e3;cases go
     ·have HMA:=HM2.out.all (frW ds s f t z false (ws.drop (j+1)));rw[List.append_assoc pre,←HW2.out,List.append_assoc pre,←zp4]at HMA;go_wp2_with fail;exact hret h2 S2 W7 _ _ _ _ _ _ _ _ _ _ _ _ _ _ _ _ _ _ _ _ _ _ _ _ _ _ _ _ _ _ _ _ _ _ _ _ _ _ _ _ _ _ _ _ _ _ _ _ _ _ _ _ _ _ _ _ _ HMA
     ·have HMA:=HM2.out;rw[List.append_assoc,←HW2.out]at HMA;have HMB:=Lib.hid HMA;have HK3:Hid (W3.heap.size≤W7.heap.size∧∀b,W.heap.size≤b→b<W3.heap.size→W7.heap[b]? =W3.heap[b]?):=⟨HK2.out.1,fun b h1 h2=>(HK2.out.2 b h1 h2).trans (HK.out.2 b h1 h2)⟩;clear HMA HM2 HK2;go_wp2_with fail;go_roundw;case rel=>exact⟨j+1,h2,S2,by omega,by go_num,HMB,HK3⟩
      case measure=>first|(simp[intOf];done)|(simp[intOf];omega)
  ·obtain rfl:j=m:=by omega
   have hall:ws.take j=ws:=List.take_of_length_le (by rw[HM.out];omega);rw[hall]at HMID;go_wp2_with fail;exact hexit h1 S1 wr _ _ _ _ _ _ _ _ _ _ _ _ _ _ _ _ _ _ _ _ _ _ _ _ _ _ _ _ _ _ _ _ _ _ _ _ _ _ _ _ _ _ _ _ _ _ _ _ _ _ _ _ _ _ _ _ _ _ HMID
end
section
open Go.RowKit Go.Maps
open F (Ent Nd Nh gath gath_s Fine byteAt DictAt waysC wayC)
theorem zLa{ds:List Nd}{i:Nat}{d:Nd}(h:ds[i]? =some d)(s:List UInt8)(f:Nat)(t:List UInt8)(z:Int)(tight:Bool):frE ds s (f+1) i t z tight=(if d.fin&&(!tight||decide (s.length≤t.length))then[(t,IntKind.i64.wrap (z+d.out))]else[])++frW ds s f t z (tight&&decide (t.length<s.length)) d.ways:=zIf h s f t z tight
theorem Mid.done{k:List Ent→Bool}{I:List Ent→World→(Nat→Prop)→Prop}{W W1:World}{S S1:Nat→Prop}{T:Nat}{h0 l h:List Ent}{go:Bool}(hm:Mid k I W S T h0 l h go W1 S1)(hT:W.heap.size≤T):Handed k I W S (runY k h0 l) (.returned (.bool go)) W1:=
 ⟨by rw[hm.run],S1,by rw[hm.run];exact hm.inv,hm.but,fun b hb=>(hm.sub b hb).elim .inl fun h=>.inr (by omega)⟩
theorem z1d(w0:World)(p B n c:Nat)(A:Option Addr)(base cnt:Int)(hs:List Nh)(hd:DictAt w0 p B A n c base cnt hs)(hf:Fine (hs.map (·.d)))(hwl:∀x∈hs,x.d.ways.length≤65536)(N:Nat)(hN:w0.heap.size=N)(fn:FuncId)(P1 P2:Addr)(k:List Ent→Bool)(I:List Ent→World→(Nat→Prop)→Prop)(hY:Yield N fn P1 P2 k I)(hE:∀(args:Array Value) (w:World),(callFunc fn args).run Tryz.prog w=.ok (.enter fn args) w)(s:List UInt8)(hsl:s.length≤1125899906842624):
  ∀(f i:Nat),i<f→i<n→∀(W:World) (S:Nat→Prop) (h:List Ent) (t:List UInt8) (z:Int) (tight:Bool),I h W S→Below N w0 W→t.length+i≤1125899906842624→(h++frE (hs.map (·.d)) s f i t z tight).length≤1048576→
   Calls Tryz.prog 24 #[.pointer (some ⟨p,0,none⟩),.agg #[.int .i64 (i:Int),.int .i64 z,.int .i64 0,.string ⟨t.toArray⟩],.string ⟨s.toArray⟩,.bool tight,.func (.func fn) #[] #[.pointer (some P1),.pointer (some P2)]] W (Handed k I W S (runY k h (frE (hs.map (·.d)) s f i t z tight)))
 |0,i,hi,_,W,S,h,t,z,tight,hI,hb,ht,hl=>absurd hi (by omega)
 |
  f+1,i,hi,hin,W,S,h,t,z,tight,hI,hb,ht,hl=>by
  have IH0:=z1d w0 p B n c A base cnt hs hd hf hwl N hN fn P1 P2 k I hY hE s hsl f;have hlen:=hd.len;obtain⟨x,hx⟩:∃x,hs[i]? =some x:=⟨hs[i]'(by omega),List.getElem?_eq_getElem _⟩;have hxm:(hs.map (·.d))[i]? =some x.d:=by rw[List.getElem?_map,hx];rfl
  have hfi:=hf i x.d hxm;have hwx:=hwl x (List.mem_of_getElem? hx);have hNW:N≤W.heap.size:=by rw[←hN];exact hb.size
  rw[zLa hxm]at hl⊢;obtain⟨ds,hds⟩:∃ds,hs.map (·.d)=ds:=⟨_,rfl⟩;rw[hds]at IH0 hl⊢;have HIH:=Lib.hid (fun(i':Nat) (hi':i'<i)=>IH0 i' (by omega) (by omega));have hb1:=bnew (za0 W) (.cells #[.int .i64 (i:Int),.int .i64 z,.int .i64 0,.string ⟨t.toArray⟩] 56);have HAT1:=Lib.hid (heap_alloc_new W (.cells #[.int .i64 (i:Int),.int .i64 z,.int .i64 0,.string ⟨t.toArray⟩] 56));have HNODE:=Lib.hid (F.gnode_any (W.alloc (.cells #[.int .i64 (i:Int),.int .i64 z,.int .i64 0,.string ⟨t.toArray⟩] 56)) p B n c A base cnt hs (hd.keep (by rw[hN];exact hb.trans (hb1.mono hNW))) i x hx hwx);have HB1:=Lib.hid hb1;have HY:=Lib.hid hY;have HI:=Lib.hid hI;have HB:=Lib.hid hb;have HNN:=Lib.hid hN;have HLL:=Lib.hid hl;have HWS:Hid (∀x_1∈x.d.ways,(0≤x_1.1∧x_1.1≤255)∧0≤x_1.2.2∧x_1.2.2<(i:Int)):=fun y hy=>⟨(hfi.2 y hy).1,(hfi.2 y hy).2.2⟩
  obtain⟨ws,hws⟩:∃ws,x.d.ways=ws:=⟨_,rfl⟩;obtain⟨fi,hfi2⟩:∃b,x.d.fin=b:=⟨_,rfl⟩;obtain⟨o,ho⟩:∃z,x.d.out=z:=⟨_,rfl⟩;obtain⟨m,hm⟩:∃m,ws.length=m:=⟨_,rfl⟩;rw[hws]at HNODE HWS HLL hwx⊢;rw[hfi2,ho]at HNODE;rw[hfi2,ho]at HLL⊢;rw[hm]at HNODE hwx;have HM:=Lib.hid hm;obtain⟨Z,hZ⟩:∃Z,IntKind.i64.wrap (z+o)=Z:=⟨_,rfl⟩;rw[hZ]at HLL⊢;obtain⟨pre,hpre⟩:∃pre,(if fi&&(!tight||decide (s.length≤t.length))then[(t,Z)]else[])=pre:=⟨_,rfl⟩;rw[hpre]at HLL⊢;have HPRE:=Lib.hid hpre;obtain⟨still,hstill⟩:∃b,(tight&&decide (t.length<s.length))=b:=⟨_,rfl⟩;rw[hstill]at HLL⊢;have HST:=Lib.hid hstill;clear hpre hstill IH0 hlen hx hxm hfi hds hb1 hl hws hfi2 ho hm hd hf hwl hN hY hI hb;go_enter Tryz.func24,Tryz.ntmps24
  go_wp2_with fail;refine HNODE.out.mono ?_;rintro e W2 ⟨v,rfl,hown,hb2⟩;obtain⟨Aw,cw,rfl,hmc⟩:=za1 hown;have hat2:=(hb2.block W.heap.size (by simp)).trans HAT1.out;have hsz2:W.heap.size+1≤W2.heap.size:=by simpa using hb2.size
  have HB2:=Lib.hid (za9 HB1.out hb2);have HAT2:=Lib.hid hat2;have HOW:=Lib.hid hown;have a1:=cell_of_row W2 _ 1 _ _ (0,0) hat2;have a3:=cell_of_row W2 _ 3 _ _ (0,0) hat2;simp at a1 a3
  have hw2:W.heap.size<W2.heap.size:=by omega
  clear hb2 hat2 hown HNODE HB1 HAT1;have hnd3:=heap_alloc_new W2 (.cells #[.bool fi,.int .i64 o,.slice Aw m cw] 88);have HB3:=Lib.hid (bnew HB2.out (.cells #[.bool fi,.int .i64 o,.slice Aw m cw] 88));have HAT3:Hid ((W2.alloc (.cells #[.bool fi,.int .i64 o,.slice Aw m cw] 88)).heap[W.heap.size]? =_):=(Below.heap_alloc _ _ _ hw2).trans HAT2.out;have HOW3:=Lib.hid (za2 HOW.out (bnew (za0 W2) (.cells #[.bool fi,.int .i64 o,.slice Aw m cw] 88)));have HSZ3:Hid (W.heap.size<(W2.alloc (.cells #[.bool fi,.int .i64 o,.slice Aw m cw] 88)).heap.size):=by show _<_;simp;omega
  have HND3:=Lib.hid hnd3;clear HAT2 HB2 HOW hnd3;have hS0:=HY.out.low _ _ _ HI.out;have HS0:=Lib.hid hS0;clear hS0;have hq:(fi=true∧((tight=true∧decide (s.length≤t.length)=true)∨tight=false))∨fi=false∨(fi=true∧tight=true∧decide (s.length≤t.length)=false):=by
   cases fi<;>cases tight<;>cases decide (s.length≤t.length)<;>simp
  rcases hq with⟨rfl,hq⟩|hq
  ·have HP:Hid (pre=[(t,Z)]):=by
    show _=_;rw[←HPRE.out];rcases hq with⟨rfl,q1⟩|rfl
    ·rw[q1];rfl
    ·rfl
   rcases hq with⟨rfl,q1⟩|rfl
   all_goals
    go_wp2_with (go_at_fn fn;refine Hid.out ?_)
    generalize W2.alloc (.cells #[.bool true,.int .i64 o,.slice Aw m cw] 88)=W3 at*;refine(HY.out.call h W3 S (t,Z) (HY.out.keep _ _ _ _ HI.out HB3.out) (by
     have h1:=HLL.out;rw[HP.out]at h1;simp only[List.length_append,List.length_cons,List.length_nil]at h1;omega)).mono ?_
    rintro e W4 ⟨rfl,S4,hI4,hbut4,hs4⟩;have HWC:Hid (0<m→∃g,Aw=some ⟨g,0,none⟩∧W.heap.size≤g∧g<W3.heap.size∧∀k y,ws[k]? =some y→W3.cell? ⟨g,k*3,none⟩=some (.int .i64 y.1)∧W3.cell? ⟨g,k*3+1,none⟩=some (.int .i64 y.2.1)∧W3.cell? ⟨g,k*3+2,none⟩=some (.int .i64 y.2.2)):=by
     intro h0
     obtain⟨g,h1,h2,h3,h4⟩:=zt0 HOW3.out h0;exact⟨g,h1,by simp at h2;omega,h3,h4⟩
    have hbut:But S W W4:=(But.of HB3.out).trans hbut4 fun _ hi=>.inl hi
    have hk4:W3.heap.size≤W4.heap.size∧∀b,W.heap.size≤b→b<W3.heap.size→W4.heap[b]? =W3.heap[b]? :=⟨hbut4.size,fun b h1 h2=>hbut4.block b h2 fun hs=>by have:=(HS0.out b hs).2;omega⟩;have HK:=Lib.hid hk4;have k2:=cell_of_row W4 _ 2 _ _ (0,0) ((hk4.2 W2.heap.size (by omega) (Array.getElem?_eq_some_iff.1 HND3.out).1).trans HND3.out);simp at k2
    obtain⟨kb,hkb⟩:∃b,k (h++[(t,Z)])=b:=⟨_,rfl⟩;rw[hkb];have HMG:Hid (Mid k I W S W3.heap.size h pre (h++[(t,Z)]) kb W4 S4):=⟨by
     rw[HP.out];have e:runY k h [(t,Z)]=if k (h++[(t,Z)])then(h++[(t,Z)],true)else(h++[(t,Z)],false):=rfl
     rw[e,hkb];cases kb<;>rfl,hI4,hbut,hs4⟩
    clear hI4 hbut4 hs4 hbut hk4 hkb HOW3 HND3;cases kb
    ·have HMA:=Lib.hid (HMG.out.all (frW ds s f t z still ws));go_wp2_with fail;go_ret;exact HMA.out.done (by have:=HSZ3.out;omega)
    ·have HMID:=HMG;go_wp2_with fail;refine zp3 w0 W W3 W4 p N i m cw W.heap.size ds f s t z _ still fn P1 P2 k I HY hsl ht HST.out HNN HB hNW HIH S HS0 (Nat.le_refl _) HSZ3.out HAT3 Aw ws HM hmc hwx HWC HWS h pre (h++[(t,Z)]) S4 HMID HK HLL _ _ _ _ _ _ _ _ _ _ _ _ _ _ _ _ _ _ _ _ _ _ _ _ _ _ _ _ _ _ _ _ _ _ _ _ _ _ _ _ _ _ _ _ _ _ _ _ _ _ _ _ _ _ _ _ _ _ _ _ _ _ _ _ _ _ _ _ _ _ _ _ _ _ _ _ _ _ _ _ _ _ _ _ _ _ _ _ _ _ _ _ _ _ _ _ _ _ _ _ _ _ ?_ ?_ ?_
     ·intro c a a' w hd h
      cases a;cases a';cases hd;exact h
     ·intro h2 S2 W' x56 u10 u15 u16 u17 u57 u58 u59 u60 u61 u62 u63 u64 u65 u66 u67 u68 u69 u70 u71 u72 u73 u74 u75 u76 u77 u78 u79 u80 u81 u82 u83 u84 u85 u86 u87 u88 u89 u90 u91 u92 u93 u94 u95 u96 u97 u98 u99 u100 u101 u102 u103 u104 u105 u106 u107 u108 u109 HM2
      go_wp2_with fail;go_ret;exact HM2.out.done (by have:=HSZ3.out;omega)
     ·intro h2 S2 W' x56 u15 u16 u17 u57 u58 u59 u60 u61 u62 u63 u64 u65 u66 u67 u68 u69 u70 u71 u72 u73 u74 u75 u76 u77 u78 u79 u80 u81 u82 u83 u84 u85 u86 u87 u88 u89 u90 u91 u92 u93 u94 u95 u96 u97 u98 u99 u100 u101 u102 u103 u104 u105 u106 u107 u108 u109 HM2
      go_wp2_with fail;go_ret;exact HM2.out.done (by have:=HSZ3.out;omega)
  ·have HP:Hid (pre=[]):=by
    show _=_;rw[←HPRE.out];rcases hq with rfl|⟨rfl,rfl,q1⟩
    ·rfl
    ·rw[q1];rfl
   have HMI:=Lib.hid (fun(W3:World) (hb:Below W.heap.size W W3)=>show Mid k I W S W3.heap.size h pre h true W3 S from⟨by rw[HP.out];rfl,HY.out.keep _ _ _ _ HI.out hb,But.of hb,fun b hb=>.inl hb⟩);have hq2:(∃b,fi=b∧b=false)∨(fi=true∧tight=true∧decide (s.length≤t.length)=false):=by
    rcases hq with h|h
    ·exact .inl ⟨fi,rfl,h⟩
    ·exact .inr h
   clear hq;rcases hq2 with⟨_,rfl,rfl⟩|⟨rfl,rfl,q1⟩
   ·go_wp2_with fail;generalize W2.alloc (.cells #[.bool false,.int .i64 o,.slice Aw m cw] 88)=W3 at*;have HWC:Hid (0<m→∃g,Aw=some ⟨g,0,none⟩∧W.heap.size≤g∧g<W3.heap.size∧∀k y,ws[k]? =some y→W3.cell? ⟨g,k*3,none⟩=some (.int .i64 y.1)∧W3.cell? ⟨g,k*3+1,none⟩=some (.int .i64 y.2.1)∧W3.cell? ⟨g,k*3+2,none⟩=some (.int .i64 y.2.2)):=by
     intro h0
     obtain⟨g,h1,h2,h3,h4⟩:=zt0 HOW3.out h0;exact⟨g,h1,by simp at h2;omega,h3,h4⟩
    have HMID:=Lib.hid (HMI.out W3 HB3.out);have HK:Hid (W3.heap.size≤W3.heap.size∧∀b,W.heap.size≤b→b<W3.heap.size→W3.heap[b]? =W3.heap[b]?):=⟨Nat.le_refl _,fun _ _ _=>rfl⟩;refine zp3 w0 W W3 W3 p N i m cw W.heap.size ds f s t z _ still fn P1 P2 k I HY hsl ht HST.out HNN HB hNW HIH S HS0 (Nat.le_refl _) HSZ3.out HAT3 Aw ws HM hmc hwx HWC HWS h pre h S HMID HK HLL _ _ _ _ _ _ _ _ _ _ _ _ _ _ _ _ _ _ _ _ _ _ _ _ _ _ _ _ _ _ _ _ _ _ _ _ _ _ _ _ _ _ _ _ _ _ _ _ _ _ _ _ _ _ _ _ _ _ _ _ _ _ _ _ _ _ _ _ _ _ _ _ _ _ _ _ _ _ _ _ _ _ _ _ _ _ _ _ _ _ _ _ _ _ _ _ _ _ _ _ _ _ ?_ ?_ ?_
    ·intro c a a' w hd h
     cases a;cases a';cases hd;exact h
    ·intro h2 S2 W' x56 u10 u15 u16 u17 u57 u58 u59 u60 u61 u62 u63 u64 u65 u66 u67 u68 u69 u70 u71 u72 u73 u74 u75 u76 u77 u78 u79 u80 u81 u82 u83 u84 u85 u86 u87 u88 u89 u90 u91 u92 u93 u94 u95 u96 u97 u98 u99 u100 u101 u102 u103 u104 u105 u106 u107 u108 u109 HM2
     go_wp2_with fail;go_ret;exact HM2.out.done (by have:=HSZ3.out;omega)
    ·intro h2 S2 W' x56 u15 u16 u17 u57 u58 u59 u60 u61 u62 u63 u64 u65 u66 u67 u68 u69 u70 u71 u72 u73 u74 u75 u76 u77 u78 u79 u80 u81 u82 u83 u84 u85 u86 u87 u88 u89 u90 u91 u92 u93 u94 u95 u96 u97 u98 u99 u100 u101 u102 u103 u104 u105 u106 u107 u108 u109 HM2
     go_wp2_with fail;go_ret;exact HM2.out.done (by have:=HSZ3.out;omega)
   ·go_wp2_with fail;generalize W2.alloc (.cells #[.bool true,.int .i64 o,.slice Aw m cw] 88)=W3 at*;have HWC:Hid (0<m→∃g,Aw=some ⟨g,0,none⟩∧W.heap.size≤g∧g<W3.heap.size∧∀k y,ws[k]? =some y→W3.cell? ⟨g,k*3,none⟩=some (.int .i64 y.1)∧W3.cell? ⟨g,k*3+1,none⟩=some (.int .i64 y.2.1)∧W3.cell? ⟨g,k*3+2,none⟩=some (.int .i64 y.2.2)):=by
     intro h0
     obtain⟨g,h1,h2,h3,h4⟩:=zt0 HOW3.out h0;exact⟨g,h1,by simp at h2;omega,h3,h4⟩
    have HMID:=Lib.hid (HMI.out W3 HB3.out);have HK:Hid (W3.heap.size≤W3.heap.size∧∀b,W.heap.size≤b→b<W3.heap.size→W3.heap[b]? =W3.heap[b]?):=⟨Nat.le_refl _,fun _ _ _=>rfl⟩;refine zp3 w0 W W3 W3 p N i m cw W.heap.size ds f s t z _ still fn P1 P2 k I HY hsl ht HST.out HNN HB hNW HIH S HS0 (Nat.le_refl _) HSZ3.out HAT3 Aw ws HM hmc hwx HWC HWS h pre h S HMID HK HLL _ _ _ _ _ _ _ _ _ _ _ _ _ _ _ _ _ _ _ _ _ _ _ _ _ _ _ _ _ _ _ _ _ _ _ _ _ _ _ _ _ _ _ _ _ _ _ _ _ _ _ _ _ _ _ _ _ _ _ _ _ _ _ _ _ _ _ _ _ _ _ _ _ _ _ _ _ _ _ _ _ _ _ _ _ _ _ _ _ _ _ _ _ _ _ _ _ _ _ _ _ _ ?_ ?_ ?_
    ·intro c a a' w hd h
     cases a;cases a';cases hd;exact h
    ·intro h2 S2 W' x56 u10 u15 u16 u17 u57 u58 u59 u60 u61 u62 u63 u64 u65 u66 u67 u68 u69 u70 u71 u72 u73 u74 u75 u76 u77 u78 u79 u80 u81 u82 u83 u84 u85 u86 u87 u88 u89 u90 u91 u92 u93 u94 u95 u96 u97 u98 u99 u100 u101 u102 u103 u104 u105 u106 u107 u108 u109 HM2
     go_wp2_with fail;go_ret;exact HM2.out.done (by have:=HSZ3.out;omega)
    ·intro h2 S2 W' x56 u15 u16 u17 u57 u58 u59 u60 u61 u62 u63 u64 u65 u66 u67 u68 u69 u70 u71 u72 u73 u74 u75 u76 u77 u78 u79 u80 u81 u82 u83 u84 u85 u86 u87 u88 u89 u90 u91 u92 u93 u94 u95 u96 u97 u98 u99 u100 u101 u102 u103 u104 u105 u106 u107 u108 u109 HM2
     go_wp2_with fail;go_ret;exact HM2.out.done (by have:=HSZ3.out;omega)
end
end Go.Proofs.YtaociahafamncaaGreatDoor
