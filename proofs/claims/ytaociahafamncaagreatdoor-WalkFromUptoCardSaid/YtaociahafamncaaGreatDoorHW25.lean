/- Folded. -/
import Derived.Test.YtaociahafamncaaGreatDoorHW24
import Derived.WalkArith
set_option maxRecDepth 100000
set_option maxHeartbeats 40000000
namespace Go.Proofs.YtaociahafamncaaGreatDoor
section
open Go.RowKit
theorem asc_len{l:List Arc3}:∀n:Nat,Asc l n→l.length≤n:=by
 induction l using rev_ind with
 |h0=>intro n _;exact Nat.zero_le _
 |
  h1 l a ih=>
  intro n h
  have ha:=h.ok a (by simp);obtain⟨k,hk⟩:=Int.eq_ofNat_of_zero_le ha.1;have:=ih k ⟨h.pre.lt,fun b hb=>⟨(h.pre.ok b hb).1,(h.pre.ok b hb).2.1,by rw[←hk];exact(List.pairwise_append.1 h.lt).2.2 b hb a (by simp)⟩⟩;rw[List.length_append,List.length_singleton];omega
theorem asc_few{l:List Arc3}(h:Asc l 256):l.length≤256:=asc_len 256 h
def arcT(a:Arc3):List UInt8:=44::(Lib.itoa a.1++45::(Lib.itoa a.2.1++58::Lib.itoa a.2.2))
def sigT(cls:Int)(fin:Bool)(l:List Arc3):List UInt8:=Lib.itoa cls++(if fin then[33]else[])++l.flatMap arcT
theorem SgR.writeb{w W:World}{b:Nat}{l:List UInt8}(h:SgR w W b l)(hb0:0<b)(c:UInt8)(hl:l.length+1≤1407374883553):
  Calls Tryz.prog 52 #[.pointer (some ⟨b,0,none⟩),.int .u8 (c.toNat:Nat)] W fun e w'=>e=.returned .nilIface∧SgR w w' b (l++[c])∧Below b W w'∧OthersStand b W w':=by
 refine(writeb_any b b (Lib.byteCells l) (c.toNat:Nat) W h.sb (by rw[Lib.byteCells_length];exact hl) (Nat.le_of_lt h.lt)).mono ?_;rintro e w' ⟨rfl,h1,h2,h3⟩;refine⟨rfl,⟨?_,h.tab.keep hb0 h2,h.bel.trans (h2.mono h.le),h.le,Nat.lt_of_lt_of_le h.lt h2.size⟩,h2,h3⟩;have e1:Lib.byteCells l++[.int .u8 (c.toNat:Nat)]=Lib.byteCells (l++[c]):=by
  simp[Lib.byteCells]
 unfold Sb;rw[←e1];exact h1
structure SgM(w W:World)(b:Nat)(l:List UInt8)(v:Value)(p:Nat)(L:List Arc3):Prop where
 r:SgR w W b l
 own:W.ownsRow w.heap.size 76 3 v p (arcsC L)
theorem SgM.keep{w W W':World}{b:Nat}{l:List UInt8}{v:Value}{p:Nat}{L:List Arc3}(h:SgM w W b l v p L)(hb:Below W.heap.size W W'):SgM w W' b l v p L:=⟨h.r.keep hb,own_kept h.own hb⟩
theorem sb_block{w:World}{B b:Nat}{l:List UInt8}(h:Sb w B b l):∃cs,w.heap[b]? =some (.cells cs 113 (0,0)):=by
 rcases h with⟨_,v,h2,_⟩|⟨_,v,h2,_⟩
 ·exact⟨_,h2⟩
 ·exact⟨_,h2⟩
theorem SgM.stand{w W W':World}{b:Nat}{l l':List UInt8}{v:Value}{p:Nat}{L:List Arc3}(h:SgM w W b l v p L)(hr:SgR w W' b l')(ho:OthersStand b W W'):SgM w W' b l' v p L:=by
 refine⟨hr,h.own.1,?_⟩;rcases h.own.2 with hn|⟨g,cap,cur,rfl,hg,hh,rest⟩
 ·exact .inl hn
 ·refine .inr ⟨g,cap,cur,rfl,hg,ho g _ _ _ ?_ (by decide) hh,rest⟩;intro e
  subst e;obtain⟨cs,h2⟩:=sb_block h.r.sb;rw[hh]at h2;injection h2 with h2
  injection h2 with _ h2 _
  exact absurd h2 (by decide)
structure SgY(w W:World)(b:Nat)(l:List UInt8)(v:Value)(p:Nat)(L:List Arc3)(n:Nat)(a:Arc3):Prop where
 m:SgM w W b l v p L
 blk:W.heap[n]? =some (.cells #[.int .i64 a.1,.int .i64 a.2.1,.int .i64 a.2.2] 76 (0,0))
section
variable {w W W':World}{b n p:Nat}{l:List UInt8}{v:Value}{L:List Arc3}{a:Arc3}
theorem SgY.keep(h:SgY w W b l v p L n a)(hb:Below W.heap.size W W'):SgY w W' b l v p L n a:=⟨h.m.keep hb,(hb.block n (Array.getElem?_eq_some_iff.1 h.blk).1).trans h.blk⟩
theorem SgY.cells(h:SgY w W b l v p L n a):W.cell? ⟨n,0,none⟩=some (.int .i64 a.1)∧W.cell? ⟨n,1,none⟩=some (.int .i64 a.2.1)∧W.cell? ⟨n,2,none⟩=some (.int .i64 a.2.2):=
 ⟨cell_of_row _ n 0 _ _ (0,0) h.blk,cell_of_row _ n 1 _ _ (0,0) h.blk,cell_of_row _ n 2 _ _ (0,0) h.blk⟩
theorem SgY.write(h:SgY w W b l v p L n a)(hn:n≠b)(hb0:0<b)(s:List UInt8)(S:ByteArray)(hS:S=⟨s.toArray⟩)(hl:l.length+s.length≤4611686018427):
  Calls Tryz.prog 50 #[.pointer (some ⟨b,0,none⟩),.string S] W fun e w'=>e=.returned (.tuple #[.int .i64 S.size,.nilIface])∧SgY w w' b (l++s) v p L n a:=by
 subst hS;refine(h.m.r.write hb0 s hl).mono ?_;rintro e w' ⟨rfl,h1,_,h3⟩;exact⟨rfl,h.m.stand h1 h3,h3 n _ _ _ hn (by decide) h.blk⟩
end
theorem arcT_len{a:Arc3}(h:(0≤a.1∧a.1≤1000000)∧(0≤a.2.1∧a.2.1≤1000000)∧(0≤a.2.2∧a.2.2≤1000000)):(arcT a).length≤66:=by
 have l1:=Lib.itoa_length_le a.1 (by omega) (by omega);have l2:=Lib.itoa_length_le a.2.1 (by omega) (by omega);have l3:=Lib.itoa_length_le a.2.2 (by omega) (by omega);simp[arcT]
 omega
theorem arcsT_len{l:List Arc3}(h:∀a∈l,(0≤a.1∧a.1≤1000000)∧(0≤a.2.1∧a.2.1≤1000000)∧(0≤a.2.2∧a.2.2≤1000000)):(l.flatMap arcT).length≤66*l.length:=by
 induction l with
 |nil=>simp
 |
  cons x r ih=>
  have h1:=arcT_len (h x (List.mem_cons_self ..));have h2:=ih fun y hy=>h y (List.mem_cons_of_mem _ hy)
  rw[List.flatMap_cons,List.length_append,List.length_cons];omega
theorem led_in{L:List Bool}{C:List Int}{l:List Arc3}(hasc:Asc l 256)(hcp:∀x∈C,0≤x∧x≤1000000):∀a∈ledA (ledF L C) l,(0≤a.1∧a.1≤1000000)∧(0≤a.2.1∧a.2.1≤1000000)∧(0≤a.2.2∧a.2.2≤1000000):=by
 intro a ha
 have he:=ledA_runs (ledF L C) l 256 hasc;rw[he]at ha;have h1:=(runs_asc (fun c:Nat=>(lookA l c).bind (ledF L C)) 256).1.ok a ha;obtain⟨c,k,_,hg,hk⟩:=runs_mem _ 256 a ha;have hk2:0≤a.2.2∧a.2.2≤1000000:=by
  obtain⟨t,_,h2⟩:=Option.bind_eq_some_iff.1 hg;unfold ledF at h2;split at h2
  ·injection h2 with h2
   rw[hk,←h2];have:0≤C.getD t.toNat 0∧C.getD t.toNat 0≤1000000:=by
    rw[List.getD_eq_getElem?_getD];cases hx:C[t.toNat]? with
    |none=>exact⟨by simp,by simp⟩
    |some x=>exact hcp x (List.mem_of_getElem? hx)
   omega
  ·cases h2
 have h256:a.2.1<256:=h1.2.2;exact⟨by omega,by omega,hk2⟩
theorem dsign_any(w:World)(B:Nat)(hB:B≤w.heap.size)(A:Option Addr)(n c:Nat)(H:List Sh)(h:StsIn w B A n c H)(hn:n≤1000000)
  (Al:Option Addr) (cl:Nat) (L:List Bool) (hL:Bools w B Al n L) (Ac:Option Addr) (cc:Nat) (C:List Int) (hC:Ints w B Ac n C) (hcp:∀x∈C,0≤x∧x≤1000000)
  (i:Nat) (x:Sh) (hx:H[i]? =some x) (hasc:Asc x.d.2 256) (hto:∀a∈x.d.2,0≤a.2.2∧a.2.2<(n:Int)) (ht:Tab w) (cv:Int) (hcv:C[i]? =some cv) (lv:Bool) (hlv:L[i]? =some lv):
  Calls Tryz.prog 55 #[.slice A n c,.slice Al n cl,.slice Ac n cc,.int .i64 i] w fun e w'=>e=.returned (.string ⟨(if lv then sigT cv x.d.1 (ledA (ledF L C) x.d.2)else[]).toArray⟩)∧Below w.heap.size w w':=by
 have HS:=Lib.hid h;have HL:=Lib.hid hL;have HC:=Lib.hid hC;have HT:=Lib.hid ht;have hin:i<n:=by rw[←h.len];exact(List.getElem?_eq_some_iff.1 hx).1
 obtain⟨lb,loff,rfl,hlb,hlc⟩:=hL.at_ (by omega);obtain⟨cb,coff,rfl,hcb,hcc⟩:=hC.at_ (by omega);have l0:=hlc i lv hlv;have c0:=hcc i cv hcv;have hcvb:=hcp cv (List.mem_of_getElem? hcv);have i0:(0:Int)≤(i:Int):=by omega
 have i1:(i:Int)<(n:Int):=by omega
 have hcbw:cb<w.heap.size:=Nat.lt_of_lt_of_le hcb hB;have hlbw:lb<w.heap.size:=Nat.lt_of_lt_of_le hlb hB;have HASC:=Lib.hid hasc;have HTO:=Lib.hid hto;have HCP:=Lib.hid hcp;have HX:=Lib.hid hx;clear hasc hto hcp;cases lv with
 |
  false=>
  clear h hL hC ht hlc hcc hcv hlv hx;go_enter Tryz.func55,Tryz.ntmps55
  go_wp2_with fail;go_ret;exact⟨rfl,brefl w⟩
 |
  true=>
  have HI:=Lib.hid (itoa_any cv (by omega) (by omega));have li:=Lib.itoa_length_le cv (by omega) (by omega);have hb0:=ht.lt;have HB0:=Lib.hid hb0;have HST:=Lib.hid (SgR.start w HT.out (brefl w) rfl);obtain⟨b0,off0,hA0,hbB,hcell⟩:=h.at_ (by omega);obtain⟨x0,x1⟩:=hcell i x hx;subst hA0;obtain⟨hcv0,hcv1⟩:=hcvb;clear h hL hC ht hlc hcc hcv hlv hcell hx;go_enter Tryz.func55,Tryz.ntmps55
  go_wp2_with fail;refine(HI.out _ HST.out.tab).mono ?_;rintro e w1 ⟨rfl,hb1⟩;have H1:=Lib.hid (HST.out.keep hb1);clear hb1 HST HI l0 c0;obtain⟨N,hN⟩:∃N,w.heap.size=N:=⟨_,rfl⟩;rw[hN]at H1 HB0;have HN:=Lib.hid hN;rw[hN];clear hN;go_wp2_with fail;refine(SgR.write H1.out HB0.out _ (by simp;omega)).mono ?_;rintro e w2 ⟨rfl,h2,hb2,ho2⟩;rw[List.nil_append]at h2;have H2:=Lib.hid h2;clear h2 hb2 ho2 H1;have hd0:=(H2.out.bel.cell (p:=⟨b0,off0+i*2,none⟩) (Nat.lt_of_lt_of_le hbB hB)).trans x0;have hd1:=(H2.out.bel.cell (p:=⟨b0,off0+i*2+1,none⟩) (Nat.lt_of_lt_of_le hbB hB)).trans x1;clear x0 x1;obtain⟨fin,hfin⟩:∃f,x.d.1=f:=⟨_,rfl⟩;rw[hfin]at hd0;have HFIN:=Lib.hid hfin;clear hfin;obtain⟨hd,hhd⟩:∃l:List UInt8,Lib.itoa cv++(if fin then[33]else[])=l:=⟨_,rfl⟩;have HHD:=Lib.hid hhd;clear hhd;have hmx:=(HS.out.ar x (List.mem_of_getElem? HX.out)).2;obtain⟨m,hm⟩:∃m,x.d.2.length=m:=⟨_,rfl⟩;have HM:=Lib.hid hm;rw[hm]at hd1 hmx;have hm256:m≤256:=by rw[←hm];exact asc_few HASC.out
  clear hm;by_cases hf:fin=true
  focus
   subst hf;go_wp2_with fail;refine(SgR.writeb H2.out HB0.out 33 (by omega)).mono ?_;rintro e w3 ⟨rfl,h3,hb3,ho3⟩;have H3:Hid (SgR w w3 N hd):=by rw[←HHD.out];exact h3
   have hd1:=(H3.out.bel.cell (p:=⟨b0,off0+i*2+1,none⟩) (Nat.lt_of_lt_of_le hbB hB)).trans ((H2.out.bel.cell (p:=⟨b0,off0+i*2+1,none⟩) (Nat.lt_of_lt_of_le hbB hB)).symm.trans hd1);clear h3 hb3 ho3 H2 hd0;go_wp2_with fail
  rotate_left
  focus
   rw[Bool.not_eq_true]at hf;subst hf;have H3:Hid (SgR w w2 N hd):=by rw[←HHD.out];simpa using H2
   clear H2;go_wp2_with fail
  rotate_left
  all_goals
   have HLK:=Lib.hid (HL.out.keep (H3.out.bel.mono hB) (Nat.le_refl _));have HCK:=Lib.hid (HC.out.keep (H3.out.bel.mono hB) (Nat.le_refl _));have HAK:Hid (ArcsIn _ B x.A m x.c x.d.2):=⟨HM.out,by rw[←HM.out];exact((HS.out.ar x (List.mem_of_getElem? HX.out)).1.below (H3.out.bel.mono hB)),by omega⟩;refine(merged_any _ B (Nat.le_trans hB H3.out.bel.size) x.A m x.c x.d.2 HAK.out HASC.out (by omega) _ n cl L HLK.out _ cc C HCK.out HTO.out (fun y hy=>(HCP.out y hy).1)).mono ?_;rintro e w4 ⟨v4,rfl,hown4,hb4⟩;have HO4:=Lib.hid (own_lower hown4 H3.out.bel.size);have HN4:=Lib.hid (ledA_len (ledF L C) x.d.2);have HSM:Hid (SgM w w4 N hd v4 (ledA (ledF L C) x.d.2).length (ledA (ledF L C) x.d.2)):=⟨H3.out.keep hb4,HO4.out⟩;obtain⟨A4,c4,rfl,_⟩:=own_shape hown4;clear hown4 hb4 H3 HO4 HLK HCK HAK hd1;have HIN:=Lib.hid (led_in (L:=L) (C:=C) HASC.out HCP.out);have HRES:Hid (sigT cv x.d.1 (ledA (ledF L C) x.d.2)=hd++(ledA (ledF L C) x.d.2).flatMap arcT):=by
    show _=_;rw[←HHD.out,HFIN.out];rfl
   have hlhd:hd.length≤22:=by
    rw[←HHD.out,List.length_append];refine Nat.le_trans (Nat.add_le_add li (?_:_≤1)) (by decide:21+1≤22);first|(simp;done)|(split<;>simp)
   go_wp2_with fail;obtain⟨LL,hLL⟩:∃l,ledA (ledF L C) x.d.2=l:=⟨_,rfl⟩;rw[hLL]at HSM HIN HN4 HRES⊢;obtain⟨p,hp⟩:∃p,LL.length=p:=⟨_,rfl⟩;rw[hp]at HSM HN4⊢;have hp256:p≤256:=Nat.le_trans HN4.out (by rw[HM.out];exact hm256);have HRL:=Lib.hid hLL;clear hLL;have H00:Hid (SgM w w4 N (hd++(LL.take 0).flatMap arcT) (.slice A4 p c4) p LL):=by simpa using HSM
   go_loopw [38] (fun iv wr=>∃k:Nat,k≤p∧iv=.int .i64 k∧Hid (SgM w wr N (hd++(LL.take k).flatMap arcT) (.slice A4 p c4) p LL)) (fun iv _=>p-(intOf iv).toNat)
   case atStart=>exact⟨0,Nat.zero_le _,rfl,H00⟩
   case round=>
    clear H00 HSM;obtain⟨k,hk,rfl,HR⟩:=hrel;by_cases hlt:k<p
    ·obtain⟨y,hy⟩:∃y,LL[k]? =some y:=⟨LL[k]'(by omega),List.getElem?_eq_getElem _⟩;obtain⟨g,rfl,hbg,hgl⟩:=own_head HR.out.own (by omega);have gg:∀j u,(arcC y)[j]? =some u→j<3→wr.cell? ⟨g,k*3+j,none⟩=some u:=fun j u hu hj=>by
      have:=HR.out.own.cells (g:=g) rfl (k*3+j) u (by unfold arcsC;rw[flat_at arcC 3 (fun _=>rfl) LL k j y hy hj];exact hu);rwa[Addr.add_lit,Nat.zero_add]at this
     have g0:=gg 0 _ rfl (by omega);have g1:=gg 1 _ rfl (by omega);have g2:=gg 2 _ rfl (by omega);rw[Nat.add_zero]at g0;obtain⟨⟨o1,o2⟩,⟨o3,o4⟩,⟨o5,o6⟩⟩:=HIN.out y (List.mem_of_getElem? hy);have hlw:(arcT y).length≤66:=arcT_len ⟨⟨o1,o2⟩,⟨o3,o4⟩,⟨o5,o6⟩⟩;have HNX:Hid (hd++(LL.take (k+1)).flatMap arcT=(hd++(LL.take k).flatMap arcT)++arcT y):=by
      show _=_;rw[List.take_add_one,hy,List.flatMap_append];simp
     have hlen:(hd++(LL.take k).flatMap arcT).length≤300000000000:=by
      have:=arcsT_len (l:=LL.take k) (fun z hz=>HIN.out z (List.mem_of_mem_take hz));rw[List.length_take]at this;rw[List.length_append];omega
     obtain⟨x1,x2,x3⟩:=y;simp only at o1 o2 o3 o4 o5 o6 g0 g1 g2;have l1:=Lib.itoa_length_le x1 (by omega) (by omega);have l2:=Lib.itoa_length_le x2 (by omega) (by omega);have l3:=Lib.itoa_length_le x3 (by omega) (by omega);obtain⟨S1,hj1⟩:∃S:ByteArray,⟨(Lib.itoa x1).toArray⟩=S:=⟨_,rfl⟩;obtain⟨S2,hj2⟩:∃S:ByteArray,⟨(Lib.itoa x2).toArray⟩=S:=⟨_,rfl⟩;obtain⟨S3,hj3⟩:∃S:ByteArray,⟨(Lib.itoa x3).toArray⟩=S:=⟨_,rfl⟩;have z1:S1.size≤21:=by rw[←hj1,size_mk];exact l1
     have z2:S2.size≤21:=by rw[←hj2,size_mk];exact l2
     have z3:S3.size≤21:=by rw[←hj3,size_mk];exact l3
     obtain⟨T1,t1⟩:∃T:ByteArray,(⟨#[44]⟩:ByteArray)++S1=T:=⟨_,rfl⟩;obtain⟨T2,t2⟩:∃T:ByteArray,T1++(⟨#[45]⟩:ByteArray)=T:=⟨_,rfl⟩;obtain⟨T3,t3⟩:∃T:ByteArray,T2++S2=T:=⟨_,rfl⟩;obtain⟨T4,t4⟩:∃T:ByteArray,T3++(⟨#[58]⟩:ByteArray)=T:=⟨_,rfl⟩;obtain⟨T5,t5⟩:∃T:ByteArray,T4++S3=T:=⟨_,rfl⟩;have y1:T1.size≤22:=by rw[←t1,ByteArray.size_append];show 1+_≤_;omega
     have y2:T2.size≤23:=by rw[←t2,ByteArray.size_append];show _+1≤_;omega
     have y3:T3.size≤44:=by rw[←t3,ByteArray.size_append];omega
     have y4:T4.size≤45:=by rw[←t4,ByteArray.size_append];show _+1≤_;omega
     have HW:Hid (T5=⟨(arcT (x1,x2,x3)).toArray⟩):=by
      show _=_;rw[←t5,←t4,←t3,←t2,←t1,←hj1,←hj2,←hj3];apply ByteArray.ext
      simp[arcT]
     have d1:∀w:World,(Op.stringOp .add (⟨#[44]⟩:ByteArray) S1).run Tryz.prog w=.ok (.string T1) w:=fun w=>by rw[←t1];exact run_string_add_sum w _ _ (by show 1+_≤_;omega)
     have d2:∀w:World,(Op.stringOp .add T1 (⟨#[45]⟩:ByteArray)).run Tryz.prog w=.ok (.string T2) w:=fun w=>by rw[←t2];exact run_string_add_sum w _ _ (by show _+1≤_;omega)
     have d3:∀w:World,(Op.stringOp .add T2 S2).run Tryz.prog w=.ok (.string T3) w:=fun w=>by rw[←t3];exact run_string_add_sum w _ _ (by omega)
     have d4:∀w:World,(Op.stringOp .add T3 (⟨#[58]⟩:ByteArray)).run Tryz.prog w=.ok (.string T4) w:=fun w=>by rw[←t4];exact run_string_add_sum w _ _ (by show _+1≤_;omega)
     have d5:∀w:World,(Op.stringOp .add T4 S3).run Tryz.prog w=.ok (.string T5) w:=fun w=>by rw[←t5];exact run_string_add_sum w _ _ (by omega)
     have HJ1:=Lib.hid hj1;have HJ2:=Lib.hid hj2;have HJ3:=Lib.hid hj3;have HO1:Hid (x1≤1000000∧x2≤1000000∧x3≤1000000∧0≤x1∧0≤x2∧0≤x3):=⟨o2,o4,o6,o1,o3,o5⟩;clear t1 t2 t3 t4 t5 y1 y2 y3 y4 z1 z2 z3 l1 l2 l3 hj1 hj2 hj3 o1 o2 o3 o4 o5 o6;generalize arcT (x1,x2,x3)=wt at*;clear gg hy;go_wp2_with fail;have H0:Hid (SgY w (wr.alloc (.cells #[.int .i64 x1,.int .i64 x2,.int .i64 x3] 76)) N (hd++(LL.take k).flatMap arcT) (.slice (some ⟨g,0,none⟩) p c4) p LL wr.heap.size (x1,x2,x3)):=⟨HR.out.keep (bnew (brefl wr) _),heap_alloc_new wr _⟩;have hnew:wr.heap.size≠N:=by have:=HR.out.r.lt;omega
     have k0:=H0.out.cells;have K0:=Lib.hid k0;simp only at k0 K0;generalize wr.alloc (.cells #[.int .i64 x1,.int .i64 x2,.int .i64 x3] 76)=W1 at*;generalize wr.heap.size=n5 at*;obtain⟨k1,k2,k3⟩:=k0;generalize hd++(LL.take k).flatMap arcT=acc at*;go_region_held3 (fun w'=>w'.cell? ⟨n5,0,none⟩=some (.int .i64 x1)∧w'.cell? ⟨n5,1,none⟩=some (.int .i64 x2)∧w'.cell? ⟨n5,2,none⟩=some (.int .i64 x3))
      (first
       |assumption
       |exact K0.out
       |(refine(SgY.keep H0.out ?_).cells;first|exact brefl _|exact(brefl _).drew|exact(brefl _).drew.drew|exact(brefl _).drew.drew.drew)
       |(refine(SgY.keep H1.out ?_).cells;first|exact brefl _|exact(brefl _).drew|exact(brefl _).drew.drew|exact(brefl _).drew.drew.drew)
       |(refine(SgY.keep H2'.out ?_).cells;first|exact brefl _|exact(brefl _).drew|exact(brefl _).drew.drew|exact(brefl _).drew.drew.drew)
       |(refine(SgY.keep H3.out ?_).cells;first|exact brefl _|exact(brefl _).drew|exact(brefl _).drew.drew|exact(brefl _).drew.drew.drew)
       |exact H4.out.cells)
      (first
       |(go_at_call 51;refine(itoa_any x1 (by have:=HO1.out;omega) (by have:=HO1.out;omega) _ (SgY.keep H0.out (by repeat(first|exact brefl _|refine Below.drew ?_))).m.r.tab).mono ?_;rw[HJ1.out];rintro e wI ⟨rfl,hbI⟩;have H1:=Lib.hid ((SgY.keep H0.out (by repeat(first|exact brefl _|refine Below.drew ?_))).keep hbI))
       |(go_at_call 51;refine(itoa_any x2 (by have:=HO1.out;omega) (by have:=HO1.out;omega) _ (SgY.keep H1.out (by repeat(first|exact brefl _|refine Below.drew ?_))).m.r.tab).mono ?_;rw[HJ2.out];rintro e wJ ⟨rfl,hbJ⟩;have H2':=Lib.hid ((SgY.keep H1.out (by repeat(first|exact brefl _|refine Below.drew ?_))).keep hbJ))
       |(go_at_call 51;refine(itoa_any x3 (by have:=HO1.out;omega) (by have:=HO1.out;omega) _ (SgY.keep H2'.out (by repeat(first|exact brefl _|refine Below.drew ?_))).m.r.tab).mono ?_;rw[HJ3.out];rintro e wK ⟨rfl,hbK⟩;have H3:=Lib.hid ((SgY.keep H2'.out (by repeat(first|exact brefl _|refine Below.drew ?_))).keep hbK))
       |(go_at_call 50;refine(SgY.write (SgY.keep H3.out (by repeat(first|exact brefl _|refine Below.drew ?_))) hnew HB0.out wt T5 HW.out (by omega)).mono ?_;rintro e wS ⟨rfl,hS⟩;have H4:=Lib.hid hS))
     all_goals
      go_wp2_with fail;go_roundw;case rel=>exact⟨k+1,by omega,by go_num,by rw[HNX.out];exact Lib.hid H4.out.m⟩
      case measure=>simp[intOf];omega
    ·obtain rfl:k=p:=by omega
     have hall:LL.take k=LL:=List.take_of_length_le (by omega);rw[hall]at HR;go_wp2_with fail;refine(Tryz.Builder_String_any _ _ _ _ HR.out.r.sb (Nat.le_of_lt HR.out.r.lt)).mono ?_;rintro e w5 ⟨rfl,hb5⟩;go_wp2_with fail;go_ret;refine⟨?_,HR.out.r.bel.trans (hb5.mono HR.out.r.le)⟩;have hE:(⟨(sigT cv x.d.1 (ledA (ledF L C) x.d.2)).toArray⟩:ByteArray)=⟨(hd++LL.flatMap arcT).toArray⟩:=by rw[HRL.out,HRES.out]
     exact congrArg (fun z=>Ending.returned (Value.string z)) hE.symm
end
section
open Go.RowKit Go.Maps
theorem lawI:Keyed Tryz.prog 3:=int_keyed Tryz.underlying3
abbrev iiMap{H:Type}(w:World)(b n:Nat)(N:DataW H):Prop:=w.ownsMap Tryz.prog 3 (plainElem Tryz.prog 3) b n N
def numI{H:Type}(N:DataW H)(k:Int):Int:=intOfD (N.atKey (.int .i64 k) (.lit (.int .i64 0)))
def hasI{H:Type}(N:DataW H)(k:Int):Bool:=Maps.has N (.int .i64 k)
theorem look_ii{H:Type}{w:World}{b n:Nat}{N:DataW H}(h:iiMap w b n N)(k:Int)(h0: -9223372036854775808≤k)(h1:k≤9223372036854775807):
  (Instr.lookup 139 (.map (some b)) (.int .i64 k) true).run Tryz.prog w=.ok (.tuple #[.int .i64 (numI N k),.bool (hasI N k)]) w:=by
 obtain⟨v,ps,hrun,hR⟩:=h.look_ok lawI Tryz.underlying139 (zeroI w) (plainElem_int Tryz.underlying3 (a:=0) (by decide)) (keyOf_int_mk Tryz.underlying3 (WalkArith.wf_i64 ⟨h0,h1⟩));obtain⟨c,rfl,hc,hw⟩:=plainElem_int_inv Tryz.underlying3 hR;injection hc with hc _
 have e:numI N k=c:=by
  unfold numI;rw[hc];rfl
 rw[e];exact hrun
theorem look_ii1{H:Type}{w:World}{b n:Nat}{N:DataW H}(h:iiMap w b n N)(k:Int)(h0: -9223372036854775808≤k)(h1:k≤9223372036854775807):
  (Instr.lookup 139 (.map (some b)) (.int .i64 k) false).run Tryz.prog w=.ok (.int .i64 (numI N k)) w:=by
 obtain⟨c,hrun,hc,_⟩:=h.lookup_int lawI Tryz.underlying139 Tryz.underlying3 (zeroI w) (keyOf_int_mk Tryz.underlying3 (WalkArith.wf_i64 ⟨h0,h1⟩));have e:numI N k=c:=by
  unfold numI;rw[hc];rfl
 rw[e];exact hrun
theorem numI_put{N:DataW Unit}(h:IsMap N)(k z j:Int):numI (N.put (.int .i64 k) (.lit (.int .i64 z))) j=if j=k then z else numI N j:=by
 unfold numI;by_cases e:j=k
 ·rw[if_pos e,e,atKey_put_same h (by simp[Go.WideAt.IsKeyLit])];rfl
 ·rw[if_neg e,atKey_put_other (by simpa using e)]
theorem hasI_put{N:DataW Unit}(h:IsMap N)(k z j:Int):hasI (N.put (.int .i64 k) (.lit (.int .i64 z))) j=(decide (j=k)||hasI N j):=by
 unfold hasI;by_cases e:j=k
 ·rw[e,has_put_same h (by simp[Go.WideAt.IsKeyLit])];simp
 ·rw[has_put_other (by simpa using e)];simp[e]
theorem mapI_keep{w w':World}{b n:Nat}{N:DataW Unit}(h:iiMap w b n N)(hb:Below w.heap.size w w'):iiMap w' b n N:=h.kept (grown_below hb) (by simp)
end
section
open Go.RowKit
structure GRow where
 v:Value
 n:Nat
 xs:List Value
def GRow.nil:GRow:=⟨.slice none 0 0,0,[]⟩
def GRow.own(W:World)(base e s:Nat)(x:GRow):Prop:=W.ownsRow base e s x.v x.n x.xs
theorem GRow.own_nil(W:World)(base e s:Nat):GRow.nil.own W base e s:=⟨by simp[GRow.nil],.inl ⟨rfl,rfl⟩⟩
def GAp(x y:GRow):Prop:=x.v.ownBlock=none∨y.v.ownBlock=none∨x.v.ownBlock≠y.v.ownBlock
theorem GAp.symm{x y:GRow}(h:GAp x y):GAp y x:=by
 rcases h with h|h|h
 ·exact .inr (.inl h)
 ·exact .inl h
 ·exact .inr (.inr fun e=>h e.symm)
structure GFam(W:World)(base e s:Nat)(F:List GRow):Prop where
 own:∀x∈F,x.own W base e s
 ap:F.Pairwise GAp
section
variable {W W2:World}{base e s:Nat}{F a b:List GRow}{x y:GRow}
theorem GFam.below(h:GFam W base e s F)(hb:Below W.heap.size W W2):GFam W2 base e s F:=⟨fun x hx=>own_kept (h.own x hx) hb,h.ap⟩
theorem GAp.kept{x z:GRow}(h:GAp z x):z.v.ownBlock=none∨z.v.ownBlock≠x.v.ownBlock:=by
 rcases h with h|h|h
 ·exact .inl h
 ·cases hz:z.v.ownBlock with
  |none=>exact .inl rfl
  |some g=>exact .inr (by rw[h];simp)
 ·exact .inr h
theorem GFam.grow(h:GFam W base e s (a++x::b))(hg:W.grownBy W2 x.v.ownBlock)(hy:y.own W2 base e s)(hm:y.v.ownBlock=x.v.ownBlock∨∃g,y.v.ownBlock=some g∧W.heap.size≤g):GFam W2 base e s (a++y::b):=by
 obtain⟨p1,p2,p3⟩:=List.pairwise_append.1 h.ap;obtain⟨p4,p5⟩:=List.pairwise_cons.1 p2;have hzx:∀z,z∈a∨z∈b→GAp z x:=fun z hz=>by
  rcases hz with hz|hz
  ·exact p3 z hz x (List.mem_cons_self ..)
  ·exact(p4 z hz).symm
 have hown:∀z,z∈a∨z∈b→z.own W base e s:=fun z hz=>h.own z (by
  rcases hz with hz|hz
  ·exact List.mem_append_left _ hz
  ·exact List.mem_append_right _ (List.mem_cons_of_mem _ hz))
 have hzy:∀z,z∈a∨z∈b→GAp z y:=fun z hz=>by
  rcases hm with hm|⟨g,hm,hgs⟩
  ·have:=hzx z hz;unfold GAp at this⊢;rw[hm];exact this
  ·cases hzb:z.v.ownBlock with
   |none=>exact .inl hzb
   |
    some k=>
    refine .inr (.inr ?_);rw[hzb,hm];intro e
    injection e with e
    have:=(World.ownsRow.lt (hown z hz) k hzb).2;omega
 refine⟨fun z hz=>?_,List.pairwise_append.2 ⟨p1,List.pairwise_cons.2 ⟨fun z hz=>(hzy z (.inr hz)).symm,p5⟩,fun z hz u hu=>?_⟩⟩
 ·rcases List.mem_append.1 hz with hz|hz
  ·exact World.ownsRow.kept (hown z (.inl hz)) hg (hzx z (.inl hz)).kept
  ·rcases List.mem_cons.1 hz with rfl|hz
   ·exact hy
   ·exact World.ownsRow.kept (hown z (.inr hz)) hg (hzx z (.inr hz)).kept
 ·rcases List.mem_cons.1 hu with rfl|hu
  ·exact hzy z (.inl hz)
  ·exact p3 z hz u (List.mem_cons_of_mem _ hu)
theorem GFam.head(h:GFam W base e s (x::F))(hg:W.grownBy W2 x.v.ownBlock)(hy:y.own W2 base e s)(hm:y.v.ownBlock=x.v.ownBlock∨∃g,y.v.ownBlock=some g∧W.heap.size≤g):GFam W2 base e s (y::F):=GFam.grow (a:=[]) h hg hy hm
theorem GFam.kept{row:Option Nat}(h:GFam W base e s F)(hg:W.grownBy W2 row)(hn:∀x∈F,x.v.ownBlock=none∨x.v.ownBlock≠row):GFam W2 base e s F:=⟨fun x hx=>World.ownsRow.kept (h.own x hx) hg (hn x hx),h.ap⟩
theorem GFam.nil(W:World)(base e s:Nat):GFam W base e s []:=⟨fun _ hx=>absurd hx List.not_mem_nil,List.Pairwise.nil⟩
theorem GFam.cons_nil(h:GFam W base e s F):GFam W base e s (GRow.nil::F):=⟨fun x hx=>by
 rcases List.mem_cons.1 hx with rfl|hx
 ·exact GRow.own_nil _ _ _ _
 ·exact h.own x hx,List.pairwise_cons.2 ⟨fun z _=>.inl rfl,h.ap⟩⟩
theorem GFam.turn(h:GFam W base e s (x::F)):GFam W base e s (F++[x]):=by
 obtain⟨h1,h2⟩:=List.pairwise_cons.1 h.ap;refine⟨fun z hz=>h.own z ?_,List.pairwise_append.2 ⟨h2,List.pairwise_singleton _ _,fun z hz u hu=>?_⟩⟩
 ·rcases List.mem_append.1 hz with hz|hz
  ·exact List.mem_cons_of_mem _ hz
  ·rw[List.mem_singleton.1 hz];exact List.mem_cons_self ..
 ·rw[List.mem_singleton.1 hu];exact(h1 z hz).symm
theorem GFam.tail(h:GFam W base e s (x::F)):GFam W base e s F:=⟨fun z hz=>h.own z (List.mem_cons_of_mem _ hz),(List.pairwise_cons.1 h.ap).2⟩
end
theorem GFam.fresh{W W2:World}{base e s:Nat}{F:List GRow}{y:GRow}(h:GFam W base e s F)(hb:Below W.heap.size W W2)(hbase:base≤W.heap.size)(hy:y.own W2 W.heap.size e s):GFam W2 base e s (y::F):=by
 refine⟨fun z hz=>?_,List.pairwise_cons.2 ⟨fun z hz=>?_,h.ap⟩⟩
 ·rcases List.mem_cons.1 hz with rfl|hz
  ·exact own_lower hy hbase
  ·exact own_kept (h.own z hz) hb
 ·have:=own_apart (h.own z hz) hy (Nat.le_refl _);rcases this with h1|h1
  ·exact .inl h1
  ·exact .inr (.inr h1)
theorem GFam.swap{W:World}{base e s:Nat}{F:List GRow}{x y:GRow}(h:GFam W base e s (x::y::F)):GFam W base e s (y::x::F):=by
 obtain⟨h1,h2⟩:=List.pairwise_cons.1 h.ap;obtain⟨h3,h4⟩:=List.pairwise_cons.1 h2;refine⟨fun z hz=>h.own z (by simp only[List.mem_cons]at hz⊢;rcases hz with h|h|h<;>simp[h]),List.pairwise_cons.2 ⟨fun z hz=>?_,List.pairwise_cons.2 ⟨fun z hz=>h1 z (List.mem_cons_of_mem _ hz),h4⟩⟩⟩;rcases List.mem_cons.1 hz with rfl|hz
 ·exact(h1 y (List.mem_cons_self ..)).symm
 ·exact h3 z hz
theorem map_not_cells{H:Type}{W:World}{kb m k t:Nat}{f:Nat×Nat}{cs:Array Value}{kt:TypeId}{R:Value→Option (DataW H×List MemPlace)}{N:DataW H}(hm:W.ownsMap Tryz.prog kt R kb m N)(hk:W.heap[k]? =some (.cells cs t f)):k≠kb:=by
 intro e
 subst e;obtain⟨es,clock,hb,_⟩:=hm;rw[hk]at hb;cases hb
theorem row_not_map'{H:Type}{W:World}{b e s n kb m:Nat}{x:Value}{xs:List Value}{kt:TypeId}{R:Value→Option (DataW H×List MemPlace)}{N:DataW H}(h:W.ownsRow b e s x n xs)(hm:W.ownsMap Tryz.prog kt R kb m N):x.ownBlock=none∨x.ownBlock≠some kb:=by
 rcases h.2 with⟨rfl,_⟩|⟨g,cap,cur,rfl,_,hg,_⟩
 ·exact .inl rfl
 ·refine .inr fun e=>?_
  simp only[Value.ownBlock,Option.some.injEq]at e;exact map_not_cells hm hg e
end
section
open Go.RowKit
theorem el_state:Elem Tryz.prog 35 74 2 32:=Elem.mk_ Tryz.underlying35 (z:=.agg #[.bool false,.slice none 0 0]) (by kernel_rfl) rfl (by omega)
def Sh.row(x:Sh):GRow:=⟨.slice x.A x.d.2.length x.c,x.d.2.length,arcsC x.d.2⟩
structure OwnSts(W:World)(base:Nat)(v:Value)(hs:List Sh):Prop where
 out:W.ownsRow base 74 2 v hs.length (hs.flatMap Sh.hdr)
 fam:GFam W base 76 3 (hs.map Sh.row)
theorem OwnSts.keep{W W':World}{base:Nat}{v:Value}{hs:List Sh}(h:OwnSts W base v hs)(hb:Below W.heap.size W W'):OwnSts W' base v hs:=⟨own_kept h.out hb,h.fam.below hb⟩
theorem OwnSts.sts{W:World}{base n c:Nat}{A:Option Addr}{hs:List Sh}(h:OwnSts W base (.slice A n c) hs)(hn:hs.length=n)(hm:n≤140737488355328)(hs2:∀x∈hs,x.d.2.length≤140737488355328):StsIn W W.heap.size A n c hs:=by
 subst hn;obtain⟨A1,c1,e1,h1⟩:=own_shape h.out;injection e1 with _ _ e1
 refine⟨rfl,Sl.of_own h.out,by omega,hm,fun x hx=>?_⟩;have ho:W.ownsRow base 76 3 (.slice x.A x.d.2.length x.c) x.d.2.length (arcsC x.d.2):=h.fam.own x.row (List.mem_map.2 ⟨x,hx,rfl⟩);obtain⟨A2,c2,e2,h2⟩:=own_shape ho;injection e2 with _ _ e2
 exact⟨Sl.of_own ho,by omega,hs2 x hx⟩
structure NuR(w W:World)(nb nn mb mn:Nat)(N1 N2:DataW Unit)(Af:Option Addr)(p cf:Nat)(met:List Nat)(Ao:Option Addr)(q co:Nat)(cur:GRow)(ex:List GRow)(hs:List Sh):Prop where
 bel:Below w.heap.size w W
 num:iiMap W nb nn N1
 mem:iiMap W mb mn N2
 ne:nb≠mb
 nlo:w.heap.size≤nb
 mlo:w.heap.size≤mb
 fst:W.ownsRow w.heap.size 3 1 (.slice Af p cf) p (met.map fun z:Nat=>Value.int .i64 (z:Int))
 out:W.ownsRow w.heap.size 74 2 (.slice Ao q co) q (hs.flatMap Sh.hdr)
 fam:GFam W w.heap.size 76 3 (cur::(ex++hs.map Sh.row))
section
variable {w W W':World}{nb nn mb mn:Nat}{N1 N2:DataW Unit}{Af:Option Addr}{p cf:Nat}{met:List Nat}{Ao:Option Addr}{q co:Nat}{cur:GRow}{ex:List GRow}{hs:List Sh}
theorem NuR.keep(h:NuR w W nb nn mb mn N1 N2 Af p cf met Ao q co cur ex hs)(hb:Below W.heap.size W W'):NuR w W' nb nn mb mn N1 N2 Af p cf met Ao q co cur ex hs:=
 ⟨bcall h.bel hb,mapI_keep h.num hb,mapI_keep h.mem hb,h.ne,h.nlo,h.mlo,own_kept h.fst hb,own_kept h.out hb,h.fam.below hb⟩
theorem NuR.putN(h:NuR w W nb nn mb mn N1 N2 Af p cf met Ao q co cur ex hs){N3:DataW Unit}(hm:iiMap W' nb (nn+1) N3)(hg:W.grownBy W' (some nb)):
  NuR w W' nb (nn+1) mb mn N3 N2 Af p cf met Ao q co cur ex hs∧∀(k:Nat) (cs:Array Value) (e:TypeId) (z:Nat×Nat),W.heap[k]? =some (.cells cs e z)→W'.heap[k]? =some (.cells cs e z):=by
 refine⟨⟨h.bel.grown hg h.bel.size (fun r hr=>by injection hr with hr;have:=h.nlo;omega),hm,h.mem.kept hg (fun e=>h.ne (by injection e with e;exact e.symm)),h.ne,h.nlo,h.mlo,h.fst.kept hg (row_not_map' h.fst h.num),h.out.kept hg (row_not_map' h.out h.num),h.fam.kept hg fun x hx=>row_not_map' (h.fam.own x hx) h.num⟩,fun k cs e z hk=>?_⟩;exact(hg.block k (Array.getElem?_eq_some_iff.1 hk).1 (fun e=>map_not_cells h.num hk (by injection e))).trans hk
theorem NuR.putM(h:NuR w W nb nn mb mn N1 N2 Af p cf met Ao q co cur ex hs){N3:DataW Unit}(hm:iiMap W' mb (mn+1) N3)(hg:W.grownBy W' (some mb)):
  NuR w W' nb nn mb (mn+1) N1 N3 Af p cf met Ao q co cur ex hs∧∀(k:Nat) (cs:Array Value) (e:TypeId) (z:Nat×Nat),W.heap[k]? =some (.cells cs e z)→W'.heap[k]? =some (.cells cs e z):=by
 refine⟨⟨h.bel.grown hg h.bel.size (fun r hr=>by injection hr with hr;have:=h.mlo;omega),h.num.kept hg (fun e=>h.ne (by injection e with e)),hm,h.ne,h.nlo,h.mlo,h.fst.kept hg (row_not_map' h.fst h.mem),h.out.kept hg (row_not_map' h.out h.mem),h.fam.kept hg fun x hx=>row_not_map' (h.fam.own x hx) h.mem⟩,fun k cs e z hk=>?_⟩;exact(hg.block k (Array.getElem?_eq_some_iff.1 hk).1 (fun e=>map_not_cells h.mem hk (by injection e))).trans hk
theorem map_by_row{b e s n kb m:Nat}{x:Value}{xs:List Value}{N:DataW Unit}(h:W.ownsRow b e s x n xs)(hm:iiMap W kb m N)(hg:W.grownBy W' x.ownBlock):iiMap W' kb m N:=by
 refine hm.kept hg fun e'=>?_
 rcases row_not_map' h hm with h1|h1
 ·rw[h1]at e';cases e'
 ·exact h1 e'.symm
theorem NuR.growF(h:NuR w W nb nn mb mn N1 N2 Af p cf met Ao q co cur ex hs){A9:Option Addr}{c9 z:Nat}(hg:W.grownBy W' (Value.slice Af p cf).ownBlock)(hy:W'.ownsRow w.heap.size 3 1 (.slice A9 (p+1) c9) (p+1) ((met.map fun z:Nat=>Value.int .i64 (z:Int))++[.int .i64 (z:Int)])):
  NuR w W' nb nn mb mn N1 N2 A9 (p+1) c9 (met++[z]) Ao q co cur ex hs∧∀(k:Nat) (cs:Array Value) (e:TypeId) (z:Nat×Nat),e≠3→W.heap[k]? =some (.cells cs e z)→W'.heap[k]? =some (.cells cs e z):=by
 refine⟨⟨h.bel.grown hg h.bel.size (fun r hr=>(h.fst.lt r hr).1),map_by_row h.fst h.num hg,map_by_row h.fst h.mem hg,h.ne,h.nlo,h.mlo,?_,h.out.kept hg (own_types h.fst h.out (by decide)),h.fam.kept hg fun x hx=>own_types h.fst (h.fam.own x hx) (by decide)⟩,fun k cs e z he hk=>blk_kept h.fst hg hk he⟩;rw[List.map_append];exact hy
theorem NuR.growC(h:NuR w W nb nn mb mn N1 N2 Af p cf met Ao q co cur ex hs){y:GRow}(hg:W.grownBy W' cur.v.ownBlock)(hy:y.own W' w.heap.size 76 3)(hm:y.v.ownBlock=cur.v.ownBlock∨∃g,y.v.ownBlock=some g∧W.heap.size≤g):
  NuR w W' nb nn mb mn N1 N2 Af p cf met Ao q co y ex hs∧∀(k:Nat) (cs:Array Value) (e:TypeId) (z:Nat×Nat),e≠76→W.heap[k]? =some (.cells cs e z)→W'.heap[k]? =some (.cells cs e z):=by
 have hr:W.ownsRow w.heap.size 76 3 cur.v cur.n cur.xs:=h.fam.own cur (List.mem_cons_self ..);refine⟨⟨h.bel.grown hg h.bel.size (fun r hq=>(hr.lt r hq).1),map_by_row hr h.num hg,map_by_row hr h.mem hg,h.ne,h.nlo,h.mlo,h.fst.kept hg (own_types hr h.fst (by decide)),h.out.kept hg (own_types hr h.out (by decide)),h.fam.head hg hy hm⟩,fun k cs e z he hk=>blk_kept hr hg hk he⟩
theorem NuR.growO{x:Sh}(h:NuR w W nb nn mb mn N1 N2 Af p cf met Ao q co x.row [] hs){A9:Option Addr}{c9:Nat}(hg:W.grownBy W' (Value.slice Ao q co).ownBlock)(hy:W'.ownsRow w.heap.size 74 2 (.slice A9 (q+1) c9) (q+1) (hs.flatMap Sh.hdr++x.hdr)):
  NuR w W' nb nn mb mn N1 N2 Af p cf met A9 (q+1) c9 GRow.nil [] (hs++[x]):=by
 refine⟨h.bel.grown hg h.bel.size (fun r hr=>(h.out.lt r hr).1),map_by_row h.out h.num hg,map_by_row h.out h.mem hg,h.ne,h.nlo,h.mlo,h.fst.kept hg (own_types h.out h.fst (by decide)),?_,?_⟩
 ·rw[List.flatMap_append];simpa using hy
 ·have h1:=(h.fam.turn.kept hg fun z hz=>own_types h.out (h.fam.turn.own z hz) (by decide)).cons_nil;rw[List.nil_append]at h1⊢;rw[List.map_append];exact h1
end
structure NumIs(N:DataW Unit)(cls:Nat→Nat)(met:List Nat):Prop where
 map:Maps.IsMap N
 has:∀k:Nat,hasI N k=(findI (fun z=>decide (cls z=k)) met).isSome
 num:∀k i:Nat,findI (fun z=>decide (cls z=k)) met=some i→numI N k=(i:Int)
theorem NumIs.put{N:DataW Unit}{cls:Nat→Nat}{met:List Nat}(h:NumIs N cls met){k z:Nat}(hk:findI (fun z=>decide (cls z=k)) met=none)(hz:cls z=k):NumIs (N.put (.int .i64 (k:Int)) (.lit (.int .i64 (met.length:Nat)))) cls (met++[z]):=by
 refine⟨h.map.put _ _,fun j=>?_,fun j i hj=>?_⟩
 ·rw[hasI_put h.map,h.has j,findI_append];by_cases e:j=k
  ·subst e;rw[hk];simp[findI,hz]
  ·have:¬(j:Int)=(k:Int):=by omega
   rw[decide_eq_false this,Bool.false_or];cases hf:findI (fun z=>decide (cls z=j)) met with
   |some i=>rfl
   |none=>simp[findI,hz,show¬k=j from fun e'=>e e'.symm]
 ·rw[numI_put h.map];rw[findI_append]at hj;by_cases e:j=k
  ·subst e;rw[hk]at hj;simp[findI,hz]at hj
   rw[if_pos rfl,hj]
  ·rw[if_neg (by omega)];cases hf:findI (fun z=>decide (cls z=j)) met with
   |some q=>rw[hf]at hj;injection hj with hj;subst hj;exact h.num j q hf
   |
    none=>
    rw[hf]at hj;simp[findI,hz,show¬k=j from fun e'=>e e'.symm]at hj
theorem own_cell3{W:World}{b n g c j q:Nat}{l:List Arc3}{a:Arc3}{u:Value}(h:W.ownsRow b 76 3 (.slice (some ⟨g,0,none⟩) n c) n (arcsC l))(ha:l[j]? =some a)(hu:(arcC a)[q]? =some u)(hq:q<3):W.cell? ⟨g,j*3+q,none⟩=some u:=by
 have:=h.cells (g:=g) rfl (j*3+q) u (by unfold arcsC;rw[flat_at arcC 3 (fun _=>rfl) l j q a ha hq];exact hu);rwa[Addr.add_lit,Nat.zero_add]at this
theorem led_gOf{d:List St}{L:List Bool}{C:List Int}(hg:Good d)(hl:∀(x:Nat) b,L[x]? =some b→(b=true↔(auOf d).live x))(hL:L.length=d.length){x:Nat}{s:St}(hs:d[x]? =some s):ledA (ledF L C) s.2=runs (gOf d (fun x=>(C.getD x 0).toNat) x) 256:=by
 have hsm:=List.mem_of_getElem? hs;rw[ledA_runs (ledF L C) s.2 256 (hg.asc s hsm)];refine runs_congr 256 fun c _=>?_
 have hst:(auOf d).step x c=(lookA s.2 c).map Int.toNat:=by
  show(d[x]?).bind (fun s=>(lookA s.2 c).map Int.toNat)=_;rw[hs];rfl
 unfold gOf Au.stepL;rw[hst];cases hk:lookA s.2 (c:Int)with
 |none=>rfl
 |
  some k=>
  obtain⟨a,ha,hak,_⟩:=lookA_some hk;have hkb:=hg.to_ s hsm a ha;rw[hak]at hkb;have hkn:k.toNat<d.length:=by omega
  obtain⟨b,hb⟩:∃b,L[k.toNat]? =some b:=⟨L[k.toNat]'(by omega),List.getElem?_eq_getElem _⟩;have hlb:=hl _ b hb;simp only[Option.map_some,Option.bind_some];unfold ledF;rw[List.getD_eq_getElem?_getD,hb];cases b with
  |
   true=>
   rw[if_pos (hlb.1 rfl)];simp
  |
   false=>
   have hn:¬(auOf d).live k.toNat:=fun h=>by have:=hlb.2 h;cases this
   simp[hn]
theorem NuR.enter{w W W':World}{nb nn mb mn:Nat}{N1 N2:DataW Unit}{Af:Option Addr}{p cf:Nat}{met:List Nat}{Ao:Option Addr}{q co:Nat}{cur y:GRow}{hs:List Sh}(h:NuR w W nb nn mb mn N1 N2 Af p cf met Ao q co cur [] hs)(hb:Below W.heap.size W W')(hy:y.own W' W.heap.size 76 3):NuR w W' nb nn mb mn N1 N2 Af p cf met Ao q co cur [y] hs:=by
 have h1:=h.keep hb;exact⟨h1.bel,h1.num,h1.mem,h1.ne,h1.nlo,h1.mlo,h1.fst,h1.out,(h.fam.fresh hb h.bel.size hy).swap⟩
theorem NuR.leave{w W:World}{nb nn mb mn:Nat}{N1 N2:DataW Unit}{Af:Option Addr}{p cf:Nat}{met:List Nat}{Ao:Option Addr}{q co:Nat}{cur y:GRow}{hs:List Sh}(h:NuR w W nb nn mb mn N1 N2 Af p cf met Ao q co cur [y] hs):NuR w W nb nn mb mn N1 N2 Af p cf met Ao q co cur [] hs:=
 ⟨h.bel,h.num,h.mem,h.ne,h.nlo,h.mlo,h.fst,h.out,h.fam.swap.tail⟩
theorem numA_snoc(cls:Nat→Nat)(met:List Nat)(A:List Arc3)(a:Arc3):numA cls met (A++[a])=numA cls met A++[(a.1,a.2.1,(numK cls met a.2.2.toNat:Int))]:=by
 unfold numA;rw[List.map_append];rfl
theorem next_some{cls rep:Nat→Nat}{met:List Nat}{T:List Arc3}{lo hi:Int}{k q:Nat}(hf:findI (fun z=>decide (cls z=k)) met=some q):addC cls rep met k=met∧numA cls met (T++[(lo,hi,(k:Int))])=numA cls met T++[(lo,hi,(q:Int))]:=by
 refine⟨addC_again hf,?_⟩;rw[numA_snoc];simp only[Int.toNat_natCast];unfold numK;rw[hf];rfl
theorem next_none{cls rep:Nat→Nat}{met:List Nat}{T:List Arc3}{lo hi:Int}{k:Nat}(hf:findI (fun z=>decide (cls z=k)) met=none)(hr:cls (rep k)=k)(hall:∀b∈T,∃i,findI (fun z=>decide (cls z=b.2.2.toNat)) met=some i):addC cls rep met k=met++[rep k]∧numA cls (met++[rep k]) (T++[(lo,hi,(k:Int))])=numA cls met T++[(lo,hi,(met.length:Int))]:=by
 constructor
 ·unfold addC;rw[hf];rfl
 ·rw[numA_snoc,numA_more hall];simp only[Int.toNat_natCast];unfold numK;rw[findI_append,hf];simp[findI,hr]
end
section
open Go.RowKit
def Cp(w:World)(e size:Nat)(A:Option Addr)(m c:Nat)(news:List Value):Prop:=(m=0∧news=[])∨w.ownsRow 0 e size (.slice A m c) m news
theorem Cp.sl{w:World}{e size m c:Nat}{A:Option Addr}{news:List Value}(h:Cp w e size A m c news):Sl w w.heap.size size A m news:=by
 rcases h with⟨rfl,rfl⟩|h
 ·exact Sl.empty
 ·exact Sl.of_own h
theorem Cp.below{w w':World}{e size m c:Nat}{A:Option Addr}{news:List Value}(h:Cp w e size A m c news)(hb:Below w.heap.size w w'):Cp w' e size A m c news:=by
 rcases h with h|h
 ·exact .inl h
 ·exact .inr (own_kept h hb)
theorem Cp.grown{w w':World}{e size m c:Nat}{A:Option Addr}{news:List Value}(h:Cp w e size A m c news){b1 e1 s1 n1:Nat}{v1:Value}{x1:List Value}(h1:w.ownsRow b1 e1 s1 v1 n1 x1)(hg:w.grownBy w' v1.ownBlock)(he:e1≠e):Cp w' e size A m c news:=by
 rcases h with h|h
 ·exact .inl h
 ·exact .inr (h.kept hg (own_types h1 h he))
theorem step_pushw{P:Program}{ops:Array Oper}{o:Oper}{a:Act}{K:Act→World→Prop}{Q:Exit→Act→World→Prop}{E:Prop}(w0 wx:World)(cs:Array Value)(hgd:o.guard=none)(s x:Operand)(t:TypeId)
  (ho:o.op=.call {callee:=.builtin .append,args:= #[s,x],argTypes:= #[t,t]})
  {base e size bytes:Nat} (he:Elem P t e size bytes) (v:Value) (n:Nat) (xs:List Value) (hs:a.eval s=v) (hown:wx.ownsRow base e size v n xs)
  {nb m:Nat} (hx:a.eval x=.slice (some ⟨nb,0,none⟩) m m) (hxc:wx.heap[nb]? =some (.cells cs e (0,0)))
  (hl:cs.size=m*size) (h1:∀u∈cs.toList,u.oneCell'=true) (hm:0<m)
  (h63:n+m≤maxLen) (hbytes:(n+m)*bytes≤140737488355328) (hbase:base≤wx.heap.size) (hb:Below base w0 wx)
  (h:∀g cap w',w'.ownsRow base e size (.slice (some ⟨g,0,none⟩) (n+m) cap) (n+m) (xs++cs.toList)→Below base w0 w'→wx.grownBy w' v.ownBlock→K (a.put o.dst (.slice (some ⟨g,0,none⟩) (n+m) cap)) w'):
  if Region.wanted o (yielded ops a.tmps)=true then Oper.wp P o a wx K Q else E:=by
 obtain⟨ht,i,z,hi,hz,hsz,hby,hzs,hpos⟩:=he;refine step_append_lies wx hgd s x t ho base e i z size bytes ht hi hz hsz hby hzs hpos v n xs hs hown ⟨nb,0,none⟩ m m cs.toList hx (by simpa using hl) ?_ h1 hm h63 hbytes hbase _ rfl ?_
 ·intro j u hu
  rw[Addr.add_lit,Nat.zero_add,cell_of_row _ nb j cs e (0,0) hxc];simpa using hu
 ·intro g cap w' h2 h3 _ _
  exact h g cap w' h2 (hb.grown h3 hbase (fun k hk=>(hown.lt k hk).1)) h3
end
end Go.Proofs.YtaociahafamncaaGreatDoor
