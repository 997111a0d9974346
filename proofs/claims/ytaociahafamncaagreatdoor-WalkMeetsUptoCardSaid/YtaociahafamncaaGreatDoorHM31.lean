/- Folded. -/
import Derived.Test.YtaociahafamncaaGreatDoorHM30
set_option maxRecDepth 100000
set_option maxHeartbeats 40000000
namespace Go.Proofs.YtaociahafamncaaGreatDoor
section
open Go.RowKit Go.Maps
theorem zJ3:Elem Tryz.prog 67 71 1 24:=Elem.mk_ Tryz.underlying67 (z:=.slice none 0 0) (by kernel_rfl) rfl (by omega)
def setT(l:List Int):List UInt8:=l.flatMap fun x=>Lib.itoa x++[32]
theorem zzh:∀{l m:List Int},(∀x∈l,0≤x)→(∀x∈m,0≤x)→setT l=setT m→l=m
 |[],[],_,_,_=>rfl
 |
  [],y::m,_,_,h=>by
  unfold setT at h;rw[List.flatMap_cons]at h;have:=congrArg List.length h;simp at this
 |
  x::l,[],_,_,h=>by
  unfold setT at h;rw[List.flatMap_cons]at h;have:=congrArg List.length h;simp at this
 |
  x::l,y::m,hl,hm,h=>by
  unfold setT at h;rw[List.flatMap_cons,List.flatMap_cons,List.append_assoc,List.append_assoc]at h;obtain⟨h1,h2⟩:=zo9 (hl x (List.mem_cons_self ..)) (hm y (List.mem_cons_self ..)) (zef (c:=32) (by decide)) (zef (c:=32) (by decide)) h;injection h2 with _ h2
  rw[h1,zzh (fun z hz=>hl z (List.mem_cons_of_mem _ hz)) (fun z hz=>hm z (List.mem_cons_of_mem _ hz)) h2]
theorem zzg{l:List Int}(h:∀x∈l,0≤x∧x≤1000000):(setT l).length≤22*l.length:=by
 induction l with
 |nil=>exact Nat.zero_le _
 |
  cons x r ih=>
  have h1:=ih fun y hy=>h y (List.mem_cons_of_mem _ hy)
  have h2:=h x (List.mem_cons_self ..);have h3:=Lib.itoa_length_le x (by omega) (by omega);unfold setT at h1⊢;rw[List.flatMap_cons,List.length_append,List.length_append,List.length_cons];simp only[List.length_cons,List.length_nil];omega
theorem zIe{M:List (List Int)}{l:List Int}(hM:∀m∈M,∀x∈m,0≤x)(hl:∀x∈l,0≤x):idx (M.map setT) (setT l)=zai (fun z=>decide (z=l)) M:=by
 induction M with
 |nil=>rfl
 |
  cons m r ih=>
  rw[List.map_cons,idx,zai,ih fun z hz=>hM z (List.mem_cons_of_mem _ hz)];by_cases e:m=l
  ·rw[if_pos (by rw[e]),if_pos (by simpa using e)]
  ·rw[if_neg fun e'=>e (zzh (hM m (List.mem_cons_self ..)) hl e'),if_neg (by simpa using e)]
theorem GFam.snoc_nil{W:World}{base e s:Nat}{F:List GRow}(h:GFam W base e s F):GFam W base e s (F++[GRow.nil]):=h.cons_nil.turn
structure MkKeep(base:Nat)(W W':World):Prop where
 bel:Below base W W'
 size:W.heap.size≤W'.heap.size
 other:∀(k:Nat) (cs:Array Value) (t:TypeId) (z:Nat×Nat),t≠74→t≠71→t≠69→W.heap[k]? =some (.cells cs t z)→W'.heap[k]? =some (.cells cs t z)
theorem MkKeep.of_below{W W':World}{base:Nat}(h:Below W.heap.size W W')(hb:base≤W.heap.size):MkKeep base W W':=⟨h.mono hb,h.size,fun k _ _ _ _ _ _ hk=>(h.block k (Array.getElem?_eq_some_iff.1 hk).1).trans hk⟩
theorem MkKeep.trans{a b c:World}{base:Nat}(h:MkKeep base a b)(h':MkKeep base b c):MkKeep base a c:=⟨h.bel.trans h'.bel,Nat.le_trans h.size h'.size,fun k cs t z h1 h2 h3 hk=>h'.other k cs t z h1 h2 h3 (h.other k cs t z h1 h2 h3 hk)⟩
theorem MkKeep.row{W W':World}{base b e s n:Nat}{v:Value}{xs:List Value}(h:MkKeep base W W')(ho:W.ownsRow b e s v n xs)(h1:e≠74)(h2:e≠71)(h3:e≠69):W'.ownsRow b e s v n xs:=by
 refine⟨ho.1,?_⟩;rcases ho.2 with hn|⟨g,cap,cur,rfl,hg,hh,rest⟩
 ·exact .inl hn
 ·exact .inr ⟨g,cap,cur,rfl,hg,h.other g _ _ _ h1 h2 h3 hh,rest⟩
theorem MkKeep.fam{W W':World}{base b:Nat}{F:List Rw}(h:MkKeep base W W')(ho:Fam W b F):Fam W' b F:=⟨fun x hx=>h.row (ho.own x hx) (by decide) (by decide) (by decide),ho.ap⟩
structure MkG(W:World)(base p:Nat)(As:Option Addr)(n1 cs:Nat)(hs:List Sh)(At:Option Addr)(n2 ct:Nat)(S:List Rw)(kb nk:Nat)(N:DataW Unit)(cur:GRow)(F:List Rw):Prop where
 blk:W.heap[p]? =some (.cells #[.slice As n1 cs,.map (some kb),.slice At n2 ct,.int .i64 0] 69 (0,0))
 plo:base≤p
 bsz:base≤W.heap.size
 st:W.ownsRow base 74 2 (.slice As n1 cs) n1 (hs.flatMap Sh.hdr)
 se:W.ownsRow base 71 1 (.slice At n2 ct) n2 (S.map Rw.val)
 kn:zg7 W kb nk N
 klo:base≤kb
 fam:Fam W base F
 arcs:GFam W base 76 3 (cur::hs.map Sh.row)
section
variable {W W':World}{base p:Nat}{As:Option Addr}{n1 cs:Nat}{hs:List Sh}{At:Option Addr}{n2 ct:Nat}{S:List Rw}{kb nk:Nat}{N:DataW Unit}{cur:GRow}{F:List Rw}
theorem MkG.keep(h:MkG W base p As n1 cs hs At n2 ct S kb nk N cur F)(hb:Below W.heap.size W W'):MkG W' base p As n1 cs hs At n2 ct S kb nk N cur F:=
 ⟨(hb.block _ (Array.getElem?_eq_some_iff.1 h.blk).1).trans h.blk,h.plo,Nat.le_trans h.bsz hb.size,za2 h.st hb,za2 h.se hb,zn3 h.kn hb,h.klo,h.fam.below hb,h.arcs.below hb⟩
theorem MkG.cells(h:MkG W base p As n1 cs hs At n2 ct S kb nk N cur F):W.cell? ⟨p,0,none⟩=some (.slice As n1 cs)∧W.cell? ⟨p,1,none⟩=some (.map (some kb))∧W.cell? ⟨p,2,none⟩=some (.slice At n2 ct):=
 ⟨cell_of_row W p 0 _ _ (0,0) h.blk,cell_of_row W p 1 _ _ (0,0) h.blk,cell_of_row W p 2 _ _ (0,0) h.blk⟩
theorem MkG.lt(h:MkG W base p As n1 cs hs At n2 ct S kb nk N cur F):p<W.heap.size:=(Array.getElem?_eq_some_iff.1 h.blk).1
theorem MkG.free(h:MkG W base p As n1 cs hs At n2 ct S kb nk N cur F)(j:Nat):W.frozen? ⟨p,j,none⟩=false:=free_at h.blk j
theorem MkG.putK(h:MkG W base p As n1 cs hs At n2 ct S kb nk N cur F){nk':Nat}{N':DataW Unit}(hm:zg7 W' kb nk' N')(hg:W.grownBy W' (some kb)):MkG W' base p As n1 cs hs At n2 ct S kb nk' N' cur F∧MkKeep base W W':=by
 refine⟨⟨(hg.block p h.lt (fun e=>zbk h.kn h.blk (by injection e))).trans h.blk,h.plo,Nat.le_trans h.bsz hg.size,h.st.kept hg (zaj h.st h.kn),h.se.kept hg (zaj h.se h.kn),hm,h.klo,⟨fun x hx=>(h.fam.own x hx).kept hg (zaj (h.fam.own x hx) h.kn),h.fam.ap⟩,h.arcs.kept hg fun x hx=>zaj (h.arcs.own x hx) h.kn⟩,⟨(Below.refl base W).grown hg h.bsz (fun r hr=>by injection hr with hr;have:=h.klo;omega),hg.size,fun k _ _ _ _ _ _ hk=>?_⟩⟩;exact(hg.block k (Array.getElem?_eq_some_iff.1 hk).1 (fun e=>zbk h.kn hk (by injection e))).trans hk
theorem MkG.growS(h:MkG W base p As n1 cs hs At n2 ct S kb nk N cur F){A9:Option Addr}{c9:Nat}{f:Bool}(hg:W.grownBy W' (Value.slice As n1 cs).ownBlock)(hy:W'.ownsRow base 74 2 (.slice A9 (n1+1) c9) (n1+1) (hs.flatMap Sh.hdr++[.bool f,.slice none 0 0])):
  MkG (W'.setCell ⟨p,0,none⟩ (.slice A9 (n1+1) c9)) base p A9 (n1+1) c9 (hs++[⟨(f,[]),none,0⟩]) At n2 ct S kb nk N cur F∧MkKeep base W (W'.setCell ⟨p,0,none⟩ (.slice A9 (n1+1) c9))∧W'.cell? ⟨p,0,none⟩=some (.slice As n1 cs)∧W'.frozen? ⟨p,0,none⟩=false∧p<W'.heap.size:=by
 have hb:=zc3 h.st hg h.blk (by decide);have hlt:∀q,(Value.slice As n1 cs).ownBlock=some q→base≤q:=fun q hq=>(h.st.lt q hq).1
 have hpl:=(Array.getElem?_eq_some_iff.1 hb).1;have hb2:=blk_set hb (j:=0) (.slice A9 (n1+1) c9);simp only[List.setIfInBounds_toArray,List.set_cons_zero]at hb2;have hkn:zg7 W' kb nk N:=h.kn.kept hg fun e'=>by
  rcases zaj h.st h.kn with h1|h1
  ·rw[h1]at e';cases e'
  ·exact h1 e'.symm
 refine⟨⟨hb2,h.plo,by simpa[World.setCell]using Nat.le_trans h.bsz hg.size,?_,zb9 (h.se.kept hg (za4 h.st h.se (by decide))) hb (by decide),hkn.kept (za7 _ _ _) (fun e=>zbk hkn hb (by injection e with e;exact e.symm)),h.klo,⟨fun x hx=>zb9 ((h.fam.own x hx).kept hg (za4 h.st (h.fam.own x hx) (by decide))) hb (by decide),h.fam.ap⟩,?_⟩,⟨?_,by simpa[World.setCell]using hg.size,fun k cs' t z h1 h2 h3 hk=>?_⟩,cell_of_row W' p 0 _ _ (0,0) hb,free_at hb 0,hpl⟩
 ·rw[List.flatMap_append];have h1:=zb9 (j:=0) (u:=.slice A9 (n1+1) c9) hy hb (by decide);rw[List.flatMap_cons,List.flatMap_nil,List.append_nil];exact h1
 ·have h1:GFam W' base 76 3 (cur::hs.map Sh.row):=h.arcs.kept hg fun x hx=>za4 h.st (h.arcs.own x hx) (by decide)
  have h2:GFam (W'.setCell ⟨p,0,none⟩ (.slice A9 (n1+1) c9)) base 76 3 (cur::hs.map Sh.row):=⟨fun x hx=>zb9 (h1.own x hx) hb (by decide),h1.ap⟩;have h3:=h2.snoc_nil;rw[List.map_append];exact h3
 ·exact below_set ((Below.refl base W).grown hg h.bsz hlt) h.plo h.bsz
 ·have hk':=zc3 h.st hg hk h1;refine zgc hk' fun e=>?_
  subst e;rw[hb]at hk';injection hk' with hk'
  injection hk' with _ hk' _
  exact h3 hk'.symm
theorem MkG.growT(h:MkG W base p As n1 cs hs At n2 ct S kb nk N cur F){A9:Option Addr}{c9:Nat}{R:Rw}(hg:W.grownBy W' (Value.slice At n2 ct).ownBlock)(hy:W'.ownsRow base 71 1 (.slice A9 (n2+1) c9) (n2+1) (S.map Rw.val++[R.val])):
  MkG (W'.setCell ⟨p,2,none⟩ (.slice A9 (n2+1) c9)) base p As n1 cs hs A9 (n2+1) c9 (S++[R]) kb nk N cur F∧MkKeep base W (W'.setCell ⟨p,2,none⟩ (.slice A9 (n2+1) c9))∧W'.cell? ⟨p,2,none⟩=some (.slice At n2 ct)∧W'.frozen? ⟨p,2,none⟩=false∧p<W'.heap.size:=by
 have hb:=zc3 h.se hg h.blk (by decide);have hlt:∀q,(Value.slice At n2 ct).ownBlock=some q→base≤q:=fun q hq=>(h.se.lt q hq).1
 have hpl:=(Array.getElem?_eq_some_iff.1 hb).1;have hb2:=blk_set hb (j:=2) (.slice A9 (n2+1) c9);simp only[List.setIfInBounds_toArray,List.set_cons_zero,List.set_cons_succ]at hb2;have hkn:zg7 W' kb nk N:=h.kn.kept hg fun e'=>by
  rcases zaj h.se h.kn with h1|h1
  ·rw[h1]at e';cases e'
  ·exact h1 e'.symm
 refine⟨⟨hb2,h.plo,by simpa[World.setCell]using Nat.le_trans h.bsz hg.size,zb9 (h.st.kept hg (za4 h.se h.st (by decide))) hb (by decide),?_,hkn.kept (za7 _ _ _) (fun e=>zbk hkn hb (by injection e with e;exact e.symm)),h.klo,⟨fun x hx=>zb9 ((h.fam.own x hx).kept hg (za4 h.se (h.fam.own x hx) (by decide))) hb (by decide),h.fam.ap⟩,?_⟩,⟨?_,by simpa[World.setCell]using hg.size,fun k cs' t z h1 h2 h3 hk=>?_⟩,cell_of_row W' p 2 _ _ (0,0) hb,free_at hb 2,hpl⟩
 ·rw[List.map_append];exact zb9 (j:=2) (u:=.slice A9 (n2+1) c9) hy hb (by decide)
 ·have h1:GFam W' base 76 3 (cur::hs.map Sh.row):=h.arcs.kept hg fun x hx=>za4 h.se (h.arcs.own x hx) (by decide)
  exact⟨fun x hx=>zb9 (h1.own x hx) hb (by decide),h1.ap⟩
 ·exact below_set ((Below.refl base W).grown hg h.bsz hlt) h.plo h.bsz
 ·have hk':=zc3 h.se hg hk h2;refine zgc hk' fun e=>?_
  subst e;rw[hb]at hk';injection hk' with hk'
  injection hk' with _ hk' _
  exact h3 hk'.symm
end
structure MkR(W:World)(base p:Nat)(As:Option Addr)(ns cs:Nat)(At:Option Addr)(ct kb:Nat)(N:DataW Unit)(cur:GRow)(hs:List Sh)(S:List Rw):Prop where
 g:MkG W base p As ns cs hs At ns ct S kb ns N cur S
 hl:hs.length=ns
 sl:S.length=ns
 kno:zq6 N (S.map fun s=>setT s.l)
 pos:∀s∈S,∀x∈s.l,0≤x
theorem MkR.keep{W W':World}{base p:Nat}{As:Option Addr}{ns cs:Nat}{At:Option Addr}{ct kb:Nat}{N:DataW Unit}{cur:GRow}{hs:List Sh}{S:List Rw}(h:MkR W base p As ns cs At ct kb N cur hs S)(hb:Below W.heap.size W W'):MkR W' base p As ns cs At ct kb N cur hs S:=⟨h.g.keep hb,h.hl,h.sl,h.kno,h.pos⟩
theorem zjk(w:World)(base p:Nat)(As:Option Addr)(ns cs:Nat)(At:Option Addr)(ct kb:Nat)(N:DataW Unit)(cur:GRow)(hs:List Sh)(S:List Rw)(h:MkR w base p As ns cs At ct kb N cur hs S)(hns:ns≤1000000)(ht:Tab w)(hbt:0<base)
  (R:Rw) (n:Nat) (hn:R.l.length=n) (hR:Fam w base (S++[R])) (hn2:n≤20000) (hRl:∀x∈R.l,0≤x∧x≤1000000) (f:Bool):
  Calls Tryz.prog 31 #[.pointer (some ⟨p,0,none⟩),.slice R.A n R.c,.bool f] w fun e w'=>∃i:Nat,e=.returned (.int .i64 (i:Int))∧MkKeep base w w'∧Tab w'∧
   (
    (zai (fun z=>decide (z=R.l)) (S.map (·.l))=some i∧MkR w' base p As ns cs At ct kb N cur hs S)∨
    (zai (fun z=>decide (z=R.l)) (S.map (·.l))=none∧i=ns∧∃As' cs' At' ct' N',MkR w' base p As' (ns+1) cs' At' ct' kb N' cur (hs++[⟨(f,[]),none,0⟩]) (S++[R]))):=by
 have HM:=Lib.hid h;have HT:=Lib.hid ht;have HF:=Lib.hid hR;have HRL:=Lib.hid hRl;have HN:=Lib.hid hn;have hRow:w.ownsRow base 3 1 (.slice R.A n R.c) n (R.l.map (.int .i64)):=by rw[←hn];exact hR.own R (by simp)
 have HRO:=Lib.hid hRow;have hb0:=ht.lt;have HB0:=Lib.hid hb0;have HBT0:=Lib.hid hbt;have HST:=Lib.hid (SgR.start w HT.out (za0 w) rfl);have hnc:n≤R.c:=by
  obtain⟨A1,c1,e1,h1⟩:=za1 hRow;injection e1 with _ _ e1
  omega
 have m0:w.cell? ⟨p,0,none⟩=some (.slice As ns cs):=cell_of_row w p 0 _ _ (0,0) h.g.blk;have m1:w.cell? ⟨p,1,none⟩=some (.map (some kb)):=cell_of_row w p 1 _ _ (0,0) h.g.blk;have m2:w.cell? ⟨p,2,none⟩=some (.slice At ns ct):=cell_of_row w p 2 _ _ (0,0) h.g.blk;have hpl:=(Array.getElem?_eq_some_iff.1 h.g.blk).1;clear h ht hR hRl hn hRow;go_enter Tryz.func31,Tryz.ntmps31
 go_wp2_with fail;obtain⟨b,hbe⟩:∃b,w.heap.size=b:=⟨_,rfl⟩;have HBE:=Lib.hid hbe;rw[hbe]at hb0 HST hpl HB0;rw[hbe];clear hbe;generalize w.alloc (.cells #[.pointer none,.slice none 0 0] 113)=W0 at*;clear m0 m1 m2;go_loopw [14] (fun jv wj=>∃j:Nat,jv=.int .i64 j∧j≤n∧Hid (SgR w wj b (setT (R.l.take j)))) (fun jv _=>n-(intOf jv).toNat)
 case atStart=>exact⟨0,rfl,Nat.zero_le _,HST⟩
 case round=>
  clear HST;obtain⟨j,rfl,hjn,HR⟩:=hrel;by_cases hlt:j<n
  ·obtain⟨x,hx⟩:∃x,R.l[j]? =some x:=⟨R.l[j]'(by rw[HN.out];exact hlt),List.getElem?_eq_getElem _⟩;have hrow:=za2 HRO.out HR.out.bel;obtain⟨g,hgA,hgb,hgl⟩:=zah hrow (by omega);rw[hgA]at hrow;have c0:=zak (j:=j) (u:=.int .i64 x) hrow (by rw[List.getElem?_map,hx];rfl);have hxb:=HRL.out x (List.mem_of_getElem? hx);have HI:=Lib.hid (zec x (by omega) (by omega));have li:=Lib.itoa_length_le x (by omega) (by omega);have HTK:Hid (setT (R.l.take (j+1))=(setT (R.l.take j)++Lib.itoa x)++[32]):=by
    show _=_;rw[List.take_add_one,hx];unfold setT;rw[List.flatMap_append,List.append_assoc];simp
   have hlen:(setT (R.l.take j)).length≤440000:=by
    have:=zzg (l:=R.l.take j) (fun z hz=>HRL.out z (List.mem_of_mem_take hz));rw[List.length_take]at this;omega
   rw[hgA];clear hx hrow;go_wp2_with fail;refine(HI.out _ HR.out.tab).mono ?_;rintro e w3 ⟨rfl,hb3⟩;have H3:=Lib.hid (HR.out.keep hb3);clear hb3 HI;go_wp2_with fail;refine(SgR.write H3.out HB0.out _ (by omega)).mono ?_;rintro e w4 ⟨rfl,h4,_,_⟩;have H4:=Lib.hid h4;clear h4;go_wp2_with fail;refine(SgR.writeb H4.out HB0.out 32 (by rw[List.length_append];omega)).mono ?_;rintro e w5 ⟨rfl,h5,_,_⟩;rw[←HTK.out]at h5;have H5:=Lib.hid h5;clear h5 H4 H3 HR;go_wp2_with fail;go_roundw;case rel=>exact⟨j+1,by go_num,by omega,H5⟩
   case measure=>simp[intOf];omega
  ·obtain rfl:n=j:=by omega
   have hall:R.l.take n=R.l:=List.take_of_length_le (by rw[HN.out];exact Nat.le_refl _);rw[hall]at HR;have HM1:=Lib.hid (HM.out.keep HR.out.bel);have hm0:=cell_of_row wr p 0 _ _ (0,0) HM1.out.g.blk;have hm1:=cell_of_row wr p 1 _ _ (0,0) HM1.out.g.blk;have hm2:=cell_of_row wr p 2 _ _ (0,0) HM1.out.g.blk;have hpw:=(Array.getElem?_eq_some_iff.1 HM1.out.g.blk).1;simp at hm0 hm1 hm2
   clear hall;obtain⟨t,ht⟩:∃t,setT R.l=t:=⟨_,rfl⟩;have HTT:=Lib.hid ht;have htl:t.length≤440000:=by
    have:=zzg HRL.out;rw[←ht];have:=HN.out;omega
   rw[ht]at HR;clear ht;have HTL:Hid (t.length≤maxLen):=by show _≤_;unfold maxLen;omega
   have HIX:Hid (idx (S.map fun s=>setT s.l) t=zai (fun z=>decide (z=R.l)) (S.map (·.l))):=by
    show _=_;rw[←HTT.out,←zIe (fun m hm x hx=>by obtain⟨s,hs,rfl⟩:=List.mem_map.1 hm;exact HM.out.pos s hs x hx) (fun x hx=>(HRL.out x hx).1),List.map_map];rfl
   have hkn:=HM.out.kno.1.2 t;rw[HIX.out]at hkn;have HBF:=Lib.hid (Lib.IsBuilderF.of HR.out.sb);have HBS:=Lib.hid (Nat.le_of_lt HR.out.lt);have HBL:Hid (Below w.heap.size w wr):=HR.out.bel;have HBT:Hid (∀w6,Below b wr w6→Below w.heap.size w w6):=fun w6 h6=>HBL.out.trans (by rw[HBE.out];exact h6)
   cases hq:zai (fun z=>decide (z=R.l)) (S.map (·.l))with
   |
    some i=>
    rw[hq]at hkn;have HK:Hid (∀w',Below w.heap.size w w'→w'.cell? ⟨p,1,none⟩=some (.map (some kb))∧(Instr.lookup 66 (.map (some kb)) (.string ⟨t.toArray⟩) true).run Tryz.prog w'=.ok (.tuple #[.int .i64 (i:Int),.bool true]) w'):=fun w' hb=>by
     have hM:=HM.out.keep hb;have h1:=cell_of_row w' p 1 _ _ (0,0) hM.g.blk;have h2:=zjd hM.g.kn t HTL.out;rw[hkn.1,hkn.2]at h2;simp at h1
     exact⟨h1,h2⟩
    have HQ:=Lib.hid hq;clear hkn hm0 hm1 hm2 hq;go_wp2_with fail;go_region_held3 (fun w'=>w'.cell? ⟨p,1,none⟩=some (.map (some kb))∧(Instr.lookup 66 (.map (some kb)) (.string ⟨t.toArray⟩) true).run Tryz.prog w'=.ok (.tuple #[.int .i64 (i:Int),.bool true]) w')
     (first
      |assumption
      |exact HK.out _ (by first|exact HBL.out|exact Below.drew HBL.out)
      |exact HK.out _ (by first|exact HB6.out|exact Below.drew HB6.out))
     (first|(go_at_call 53;refine(Tryz.Builder_String_any_k b b t _ (by exact HBF.out) (by exact HBS.out)).mono ?_;rintro e w6 ⟨rfl,hf6,hb6,hk6⟩;have HF6:=Lib.hid hf6;have HB6:Hid (Below w.heap.size w w6):=HBT.out w6 ⟨hb6.os,hb6.tape,hb6.output,hb6.size,hb6.block⟩;clear hf6 hb6 hk6))
    all_goals
     go_wp2_with fail;go_ret;exact⟨i,rfl,MkKeep.of_below HB6.out HM.out.g.bsz,HT.out.below HB6.out,.inl ⟨HQ.out,HM.out.keep HB6.out⟩⟩
   |
    none=>
    rw[hq]at hkn;have HK:Hid (∀w',Below w.heap.size w w'→w'.cell? ⟨p,1,none⟩=some (.map (some kb))∧(Instr.lookup 66 (.map (some kb)) (.string ⟨t.toArray⟩) true).run Tryz.prog w'=.ok (.tuple #[.int .i64 (numD N t),.bool false]) w'):=fun w' hb=>by
     have hM:=HM.out.keep hb;have h1:=cell_of_row w' p 1 _ _ (0,0) hM.g.blk;have h2:=zjd hM.g.kn t HTL.out;rw[hkn]at h2;simp at h1
     exact⟨h1,h2⟩
    have HQ:=Lib.hid hq;have HKN0:=Lib.hid hkn;clear hkn hm0 hm1 hm2 hq;go_wp2_with fail;go_region_held3 (fun w'=>w'.cell? ⟨p,1,none⟩=some (.map (some kb))∧(Instr.lookup 66 (.map (some kb)) (.string ⟨t.toArray⟩) true).run Tryz.prog w'=.ok (.tuple #[.int .i64 (numD N t),.bool false]) w')
     (first
      |assumption
      |exact HK.out _ (by first|exact HBL.out|exact Below.drew HBL.out)
      |exact HK.out _ (by first|exact HB6.out|exact Below.drew HB6.out))
     (first|(go_at_call 53;refine(Tryz.Builder_String_any_k b b t _ (by exact HBF.out) (by exact HBS.out)).mono ?_;rintro e w6 ⟨rfl,hf6,hb6,hk6⟩;have HF6:=Lib.hid hf6;have HB6:Hid (Below w.heap.size w w6):=HBT.out w6 ⟨hb6.os,hb6.tape,hb6.output,hb6.size,hb6.block⟩;clear hf6 hb6 hk6))
    all_goals
     rename w6.cell? ⟨p,1,none⟩=some (.map (some kb))∧_=>hheld
     clear hheld;have HB6S:Hid (b≤w6.heap.size):=by have:=HB6.out.size;rw[HBE.out]at this;exact this
     have HBT6:Hid (∀w7,Below b w6 w7→Below w.heap.size w w7):=fun w7 h7=>HB6.out.trans (by rw[HBE.out];exact h7)
     have HK6:Hid (∀w',Below w.heap.size w w'→w'.cell? ⟨p,1,none⟩=some (.map (some kb))∧w'.cell? ⟨p,0,none⟩=some (.slice As ns cs)):=fun w' hb=>by
      have hM:=HM.out.keep hb;have h1:=cell_of_row w' p 1 _ _ (0,0) hM.g.blk;have h2:=cell_of_row w' p 0 _ _ (0,0) hM.g.blk;simp at h1 h2
      exact⟨h1,h2⟩
     clear HK HBL HBT HBS HBF HR HM1;go_wp2_with fail;go_region_held3 (fun w'=>w'.cell? ⟨p,1,none⟩=some (.map (some kb))∧w'.cell? ⟨p,0,none⟩=some (.slice As ns cs))
      (first
       |assumption
       |exact HK6.out _ (by first|exact HB6.out|exact Below.drew HB6.out)
       |exact HK6.out _ (by first|exact HB7.out|exact Below.drew HB7.out)
       |exact HS8.out)
      (first|(
           go_at_call 53
           refine(Tryz.Builder_String_any_k b b t _ (by exact HF6.out) (by exact HB6S.out)).mono ?_;rintro e w7 ⟨rfl,hf7,hb7,hk7⟩;have HB7:Hid (Below w.heap.size w w7):=HBT6.out w7 ⟨hb7.os,hb7.tape,hb7.output,hb7.size,hb7.block⟩;have HM7:=Lib.hid (HM.out.keep HB7.out);obtain⟨w8,run8,ho8,ht8⟩:=World.ownsMap.store (w:=w7) HM7.out.g.kn lawS Tryz.underlying66 (by unfold maxLen;omega) (key:=.string ⟨t.toArray⟩) (val:=.int .i64 (ns:Nat)) (Go.WideMaps.keyOf_string_mk Tryz.underlying9 (by rw[size_mk];exact HTL.out)) (plainElem_int Tryz.underlying3 (WalkArith.wf_i64 (by omega)));have ho8':zg7 w8 kb (ns+1) (N.put (.string t) (.lit (.int .i64 (ns:Nat)))):=ho8;have HG8:=Lib.hid (MkG.putK (W:=w7) (F:=S++[R]) ⟨HM7.out.g.blk,HM7.out.g.plo,HM7.out.g.bsz,HM7.out.g.st,HM7.out.g.se,HM7.out.g.kn,HM7.out.g.klo,HF.out.below HB7.out,HM7.out.g.arcs⟩ ho8' ht8.grown);have HS8:Hid (w8.cell? ⟨p,1,none⟩=some (.map (some kb))∧w8.cell? ⟨p,0,none⟩=some (.slice As ns cs)):=⟨HG8.out.1.cells.2.1,HG8.out.1.cells.1⟩;clear hf7 hb7 hk7 ho8 ht8 ho8'))
     all_goals
      rename w8.cell? ⟨p,1,none⟩=some (.map (some kb))∧_=>hheld
      clear hheld run8;obtain⟨hm0,hm1,hm2⟩:=HG8.out.1.cells;have hpw8:=HG8.out.1.lt;have hb8:=HG8.out.1.bsz;have HST8:=Lib.hid HG8.out.1.st;go_wp2_with (first
       |(
         at_builtin;refine zab w8 w8 _ rfl _ _ _ rfl z25 _ _ _ rfl HST8.out rfl (by simp) rfl (by simp[Value.oneCell']) (by unfold maxLen;omega) (by omega) hb8 (Below.refl _ _) ?_
         intro v9 w9 hown9 _ hg9 _
         obtain⟨A9,c9,rfl,_⟩:=za1 hown9;have HG9:=Lib.hid (HG8.out.1.growS (f:=f) hg9 hown9);have hc9:=HG9.out.2.2.1;have hf9:=HG9.out.2.2.2.1;have hl9:=HG9.out.2.2.2.2;have hm9:=HG9.out.1.cells.2.2;have hb9:=HG9.out.1.bsz;have HSE9:=Lib.hid HG9.out.1.se;clear hown9 hg9 hm0 hm1 hm2)
       |(
         at_builtin;refine zab (w9.setCell ⟨p,0,none⟩ (.slice A9 (ns+1) c9)) (w9.setCell ⟨p,0,none⟩ (.slice A9 (ns+1) c9)) #[.slice R.A n R.c] rfl _ _ _ rfl zJ3 _ _ _ rfl HSE9.out rfl (by simp) rfl (by simp[Value.oneCell']) (by unfold maxLen;omega) (by omega) hb9 (Below.refl _ _) ?_
         intro v10 w10 hown10 _ hg10 _
         obtain⟨A10,c10,rfl,_⟩:=za1 hown10;have hrv:R.val=.slice R.A n R.c:=by show Value.slice _ _ _=_;rw[HN.out]
         have HG10:=Lib.hid (HG9.out.1.growT (R:=R) hg10 (by rw[hrv];exact hown10));have hc10:=HG10.out.2.2.1;have hf10:=HG10.out.2.2.2.1;have hl10:=HG10.out.2.2.2.2;have hm10:=HG10.out.1.cells.1;clear hown10 hg10 hrv hc9 hf9 hl9 hm9))
      have HKE:Hid (MkKeep base w (w10.setCell ⟨p,2,none⟩ (.slice A10 (ns+1) c10))):=(((MkKeep.of_below HB7.out HM.out.g.bsz).trans HG8.out.2).trans HG9.out.2.1).trans HG10.out.2.1;have q1:IntKind.i64.wrap (((ns+1:Nat):Int)-1)=(ns:Int):=by rw[IntWalk.i64_in _ (by omega)];omega
      have HMF:Hid (MkR (w10.setCell ⟨p,2,none⟩ (.slice A10 (ns+1) c10)) base p A9 (ns+1) c9 A10 c10 kb (N.put (.string t) (.lit (.int .i64 (ns:Nat)))) cur (hs++[⟨(f,[]),none,0⟩]) (S++[R])):=by
       refine⟨⟨HG10.out.1.blk,HG10.out.1.plo,HG10.out.1.bsz,HG10.out.1.st,HG10.out.1.se,HG10.out.1.kn,HG10.out.1.klo,HG10.out.1.fam,HG10.out.1.arcs⟩,by rw[List.length_append,HM.out.hl];rfl,by rw[List.length_append,HM.out.sl];rfl,?_,fun s hs x hx=>?_⟩
       ·have h1:=HM.out.kno.snoc (HM.out.g.kn.tidy lawS) (x:=t) (by rw[HIX.out,HQ.out]);rw[List.length_map,HM.out.sl]at h1;rw[List.map_append];simp only[List.map_cons,List.map_nil];rw[HTT.out];exact h1
       ·rcases List.mem_append.1 hs with hs|hs
        ·exact HM.out.pos s hs x hx
        ·rw[List.mem_singleton.1 hs]at hx;exact(HRL.out x hx).1
      clear hc10 hf10 hl10 HG8 HG9 HM7 HS8 HST8 HSE9;go_wp2_with fail;go_ret;exact⟨ns,rfl,HKE.out,HT.out.keep HBT0.out HKE.out.bel,.inr ⟨HQ.out,rfl,A9,c9,A10,c10,_,HMF.out⟩⟩
end
section
open Go.RowKit Go.Maps
theorem z1g{α:Type}{f:α→List Value}{m:Nat}(hf:∀x,(f x).length=m):∀{l:List α}{i j:Nat}{x y:α}{v:Value},l[i]? =some x→j<m→f y=(f x).set j v→(l.flatMap f).set (i*m+j) v=(l.set i y).flatMap f
 |
  a::r,0,j,x,y,v,h,hj,hy=>by
  simp at h
  subst h;rw[Nat.zero_mul,Nat.zero_add,List.set_cons_zero,List.flatMap_cons,List.flatMap_cons,List.set_append_left _ _ (by rw[hf];exact hj),hy]
 |
  a::r,i+1,j,x,y,v,h,hj,hy=>by
  have ih:=z1g hf (l:=r) (i:=i) (j:=j) (x:=x) (y:=y) (v:=v) (by simpa using h) hj hy;rw[List.set_cons_succ,List.flatMap_cons,List.flatMap_cons,List.set_append_right _ _ (by rw[hf,Nat.add_mul];omega),hf,←ih];congr 2
  rw[Nat.add_mul];omega
structure TiG(w W:World)(p:Nat)(As:Option Addr)(ns cs:Nat)(At:Option Addr)(ct kb:Nat)(N:DataW Unit)(cur:GRow)(hs:List Sh)(S:List Rw)(E:List Rw)(Lv:GRow):Prop where
 bel:Below w.heap.size w W
 mr:MkR W w.heap.size p As ns cs At ct kb N cur hs S
 tab:Tab W
 fam:Fam W w.heap.size (E++S)
 ls:W.ownsRow w.heap.size 72 1 Lv.v Lv.n Lv.xs
section
variable {w W W':World}{p:Nat}{As:Option Addr}{ns cs:Nat}{At:Option Addr}{ct kb:Nat}{N:DataW Unit}{cur:GRow}{hs:List Sh}{S E:List Rw}{Lv:GRow}
theorem TiG.keep(h:TiG w W p As ns cs At ct kb N cur hs S E Lv)(hb:Below W.heap.size W W'):TiG w W' p As ns cs At ct kb N cur hs S E Lv:=
 ⟨za9 h.bel hb,h.mr.keep hb,h.tab.below hb,h.fam.below hb,za2 h.ls hb⟩
theorem zG7(h:MkR W w.heap.size p As ns cs At ct kb N cur hs S){b n:Nat}{v:Value}{xs:List Value}(ho:W.ownsRow b 3 1 v n xs)(hg:W.grownBy W' v.ownBlock)(hS:Fam W' w.heap.size S):MkR W' w.heap.size p As ns cs At ct kb N cur hs S:=
 ⟨⟨zc3 ho hg h.g.blk (by decide),h.g.plo,Nat.le_trans h.g.bsz hg.size,h.g.st.kept hg (za4 ho h.g.st (by decide)),h.g.se.kept hg (za4 ho h.g.se (by decide)),h.g.kn.kept hg (fun e'=>by
  rcases zaj ho h.g.kn with h1|h1
  ·rw[h1]at e';cases e'
  ·exact h1 e'.symm),h.g.klo,hS,h.g.arcs.kept hg fun x hx=>za4 ho (h.g.arcs.own x hx) (by decide)⟩,h.hl,h.sl,h.kno,h.pos⟩
theorem Fam.tail'{b:Nat}{F G:List Rw}(h:Fam W b (F++G)):Fam W b G:=⟨fun x hx=>h.own x (List.mem_append_right _ hx),(List.pairwise_append.1 h.ap).2.1⟩
theorem zv4(hw:Tab w)(hg:Below w.heap.size w W'):Tab W':=hw.below hg
theorem TiG.growE{x y:Rw}(h:TiG w W p As ns cs At ct kb N cur hs S (x::E) Lv)(hw:Tab w)(hg:W.grownBy W' x.val.ownBlock)(hy:y.own W' w.heap.size)(hm:y.val.ownBlock=x.val.ownBlock∨∃g,y.val.ownBlock=some g∧W.heap.size≤g):TiG w W' p As ns cs At ct kb N cur hs S (y::E) Lv:=by
 have hx:=h.fam.own x (List.mem_cons_self ..);have hf:Fam W' w.heap.size ((y::E)++S):=h.fam.set (t:=0) rfl hg hy hm;have hbl:=h.bel.grown hg h.bel.size (fun r hr=>(hx.lt r hr).1);exact⟨hbl,zG7 h.mr hx hg (Fam.tail' (F:=y::E) hf),zv4 hw hbl,hf,h.ls.kept hg (za4 hx h.ls (by decide))⟩
theorem TiG.useE{x y:Rw}(h:TiG w W p As ns cs At ct kb N cur hs S (x::E) Lv)(hw:Tab w)(hg:W.grownBy W' x.val.ownBlock)(hy:y.own W' W.heap.size):TiG w W' p As ns cs At ct kb N cur hs S (y::E) Lv:=by
 have hx:=h.fam.own x (List.mem_cons_self ..);obtain⟨a1,a2⟩:=List.pairwise_cons.1 h.fam.ap;have hf0:Fam W' w.heap.size (E++S):=⟨fun z hz=>(h.fam.own z (List.mem_cons_of_mem _ hz)).kept hg (a1 z hz).symm.kept,a2⟩;have hbl:=h.bel.grown hg h.bel.size (fun r hr=>(hx.lt r hr).1);refine⟨hbl,zG7 h.mr hx hg (Fam.tail' hf0),zv4 hw hbl,⟨fun z hz=>?_,List.pairwise_cons.2 ⟨fun z hz=>?_,a2⟩⟩,h.ls.kept hg (za4 hx h.ls (by decide))⟩
 ·rcases List.mem_cons.1 hz with rfl|hz
  ·exact own_lower hy h.bel.size
  ·exact hf0.own z hz
 ·have:=zo7 (h.fam.own z (List.mem_cons_of_mem _ hz)) hy (Nat.le_refl _);rcases this with h1|h1
  ·exact .inl h1
  ·exact .inr (.inr h1)
theorem TiG.newE{y:Rw}(h:TiG w W p As ns cs At ct kb N cur hs S E Lv)(hb:Below W.heap.size W W')(hy:y.own W' W.heap.size):TiG w W' p As ns cs At ct kb N cur hs S (y::E) Lv:=by
 have h1:=h.keep hb;refine⟨h1.bel,h1.mr,h1.tab,⟨fun z hz=>?_,List.pairwise_cons.2 ⟨fun z hz=>?_,h1.fam.ap⟩⟩,h1.ls⟩
 ·rcases List.mem_cons.1 hz with rfl|hz
  ·exact own_lower hy h.bel.size
  ·exact h1.fam.own z hz
 ·have:=zo7 (h.fam.own z hz) hy (Nat.le_refl _);rcases this with h1|h1
  ·exact .inl h1
  ·exact .inr (.inr h1)
theorem TiG.dropE{x:Rw}(h:TiG w W p As ns cs At ct kb N cur hs S (x::E) Lv):TiG w W p As ns cs At ct kb N cur hs S E Lv:=⟨h.bel,h.mr,h.tab,Fam.tail' (F:=[x]) h.fam,h.ls⟩
theorem TiG.tail(h:TiG w W p As ns cs At ct kb N cur hs S E Lv):Fam W w.heap.size S:=Fam.tail' h.fam
theorem TiG.growC{y:GRow}(h:TiG w W p As ns cs At ct kb N cur hs S E Lv)(hw:Tab w)(hg:W.grownBy W' cur.v.ownBlock)(hy:y.own W' w.heap.size 76 3)(hm:y.v.ownBlock=cur.v.ownBlock∨∃g,y.v.ownBlock=some g∧W.heap.size≤g):TiG w W' p As ns cs At ct kb N y hs S E Lv:=by
 have ho:W.ownsRow w.heap.size 76 3 cur.v cur.n cur.xs:=h.mr.g.arcs.own cur (List.mem_cons_self ..);have hbl:=h.bel.grown hg h.bel.size (fun r hr=>(ho.lt r hr).1);have hm':=h.mr.g;refine⟨hbl,⟨⟨zc3 ho hg hm'.blk (by decide),hm'.plo,Nat.le_trans hm'.bsz hg.size,hm'.st.kept hg (za4 ho hm'.st (by decide)),hm'.se.kept hg (za4 ho hm'.se (by decide)),hm'.kn.kept hg (fun e'=>by
  rcases zaj ho hm'.kn with h1|h1
  ·rw[h1]at e';cases e'
  ·exact h1 e'.symm),hm'.klo,⟨fun x hx=>(hm'.fam.own x hx).kept hg (za4 ho (hm'.fam.own x hx) (by decide)),hm'.fam.ap⟩,hm'.arcs.head hg hy hm⟩,h.mr.hl,h.mr.sl,h.mr.kno,h.mr.pos⟩,zv4 hw hbl,⟨fun x hx=>(h.fam.own x hx).kept hg (za4 ho (h.fam.own x hx) (by decide)),h.fam.ap⟩,h.ls.kept hg (za4 ho h.ls (by decide))⟩
theorem TiG.growL{y:GRow}(h:TiG w W p As ns cs At ct kb N cur hs S E Lv)(hw:Tab w)(hg:W.grownBy W' Lv.v.ownBlock)(hy:y.own W' w.heap.size 72 1):TiG w W' p As ns cs At ct kb N cur hs S E y:=by
 have ho:=h.ls;have hbl:=h.bel.grown hg h.bel.size (fun r hr=>(ho.lt r hr).1);have hm':=h.mr.g;exact⟨hbl,⟨⟨zc3 ho hg hm'.blk (by decide),hm'.plo,Nat.le_trans hm'.bsz hg.size,hm'.st.kept hg (za4 ho hm'.st (by decide)),hm'.se.kept hg (za4 ho hm'.se (by decide)),hm'.kn.kept hg (fun e'=>by
  rcases zaj ho hm'.kn with h1|h1
  ·rw[h1]at e';cases e'
  ·exact h1 e'.symm),hm'.klo,⟨fun x hx=>(hm'.fam.own x hx).kept hg (za4 ho (hm'.fam.own x hx) (by decide)),hm'.fam.ap⟩,hm'.arcs.kept hg fun x hx=>za4 ho (hm'.arcs.own x hx) (by decide)⟩,h.mr.hl,h.mr.sl,h.mr.kno,h.mr.pos⟩,zv4 hw hbl,⟨fun x hx=>(h.fam.own x hx).kept hg (za4 ho (h.fam.own x hx) (by decide)),h.fam.ap⟩,hy⟩
theorem TiG.newL(h:TiG w W p As ns cs At ct kb N cur hs S E Lv):TiG w W p As ns cs At ct kb N cur hs S E GRow.nil:=⟨h.bel,h.mr,h.tab,h.fam,GRow.own_nil _ _ _ _⟩
theorem Fam.turn'{b:Nat}{x:Rw}{F G:List Rw}(h:Fam W b (x::(F++G))):Fam W b (F++(G++[x])):=by
 obtain⟨h1,h2⟩:=List.pairwise_cons.1 h.ap;rw[←List.append_assoc];refine⟨fun z hz=>h.own z ?_,List.pairwise_append.2 ⟨h2,List.pairwise_singleton _ _,fun z hz u hu=>?_⟩⟩
 ·rcases List.mem_append.1 hz with hz|hz
  ·exact List.mem_cons_of_mem _ hz
  ·rw[List.mem_singleton.1 hz];exact List.mem_cons_self ..
 ·rw[List.mem_singleton.1 hu];exact(h1 z hz).symm
theorem TiG.old{x:Rw}(h:TiG w W p As ns cs At ct kb N cur hs S (x::E) Lv)(hk:MkKeep w.heap.size W W')(ht:Tab W')(hm:MkR W' w.heap.size p As ns cs At ct kb N cur hs S):TiG w W' p As ns cs At ct kb N cur hs S E Lv:=
 ⟨h.bel.trans hk.bel,hm,ht,Fam.tail' (F:=[x]) (hk.fam h.fam),hk.row h.ls (by decide) (by decide) (by decide)⟩
theorem TiG.new{x:Rw}{As' At':Option Addr}{cs' ct':Nat}{N':DataW Unit}{y:Sh}(h:TiG w W p As ns cs At ct kb N cur hs S (x::E) Lv)(hk:MkKeep w.heap.size W W')(ht:Tab W')(hm:MkR W' w.heap.size p As' (ns+1) cs' At' ct' kb N' cur (hs++[y]) (S++[x])):TiG w W' p As' (ns+1) cs' At' ct' kb N' cur (hs++[y]) (S++[x]) E Lv:=
 ⟨h.bel.trans hk.bel,hm,ht,Fam.turn' (hk.fam h.fam),hk.row h.ls (by decide) (by decide) (by decide)⟩
theorem TiG.setS{x y:Sh}{i j g:Nat}{v:Value}(h:TiG w W p As ns cs At ct kb N cur hs S E Lv)(hw:Tab w)(hA:As=some ⟨g,0,none⟩)(hx:hs[i]? =some x)(hj:j<2)(hy:y.hdr=x.hdr.set j v){cur':GRow}(ha:GFam W w.heap.size 76 3 (cur'::(hs.set i y).map Sh.row)):
  TiG w (W.setCell ⟨g,i*2+j,none⟩ v) p As ns cs At ct kb N cur' (hs.set i y) S E Lv∧W.frozen? ⟨g,i*2+j,none⟩=false∧g<W.heap.size:=by
 subst hA;obtain⟨q1,q2,cc,q3⟩:=zb3 h.mr.g.st;have hbl:=below_set (j:=i*2+j) (u:=v) h.bel q1 (Nat.le_refl _);have hm':=h.mr.g;have hpg:p≠g:=fun e=>by
  subst e;have h1:=hm'.blk;rw[q3]at h1;injection h1 with h1
  injection h1 with _ h1 _
  exact absurd h1 (by decide)
 refine⟨⟨hbl,⟨⟨zgc hm'.blk hpg,hm'.plo,by simpa[World.setCell]using hm'.bsz,?_,zb9 hm'.se q3 (by decide),hm'.kn.kept (za7 _ _ _) (fun e=>zbk hm'.kn q3 (by injection e with e;exact e.symm)),hm'.klo,hm'.fam.other q3 (by decide),⟨fun z hz=>zb9 (ha.own z hz) q3 (by decide),ha.ap⟩⟩,by rw[List.length_set];exact h.mr.hl,h.mr.sl,h.mr.kno,h.mr.pos⟩,zv4 hw hbl,h.fam.other q3 (by decide),zb9 h.ls q3 (by decide)⟩,free_at q3 _,q2⟩;have:=zf0 (j:=i*2+j) (u:=v) hm'.st;rw[z1g (f:=Sh.hdr) (m:=2) (fun _=>rfl) hx hj hy]at this;exact this
theorem GFam.place{b e s:Nat}{F:List GRow}{i:Nat}(h:GFam W b e s (cur::F))(hi:F[i]? =some GRow.nil):GFam W b e s (GRow.nil::F.set i cur):=by
 rw[zfa hi];have hF:=zgh hi;have hp:(cur::F).Perm (GRow.nil::(F.take i++cur::F.drop (i+1))):=by
  conv=>lhs;rw[hF]
  exact((List.Perm.cons cur List.perm_middle).trans (List.Perm.swap _ _ _)).trans (List.Perm.cons _ List.perm_middle.symm)
 exact⟨fun z hz=>h.own z (hp.mem_iff.2 hz),(hp.pairwise_iff fun h=>GAp.symm h).1 h.ap⟩
end
end
end Go.Proofs.YtaociahafamncaaGreatDoor
