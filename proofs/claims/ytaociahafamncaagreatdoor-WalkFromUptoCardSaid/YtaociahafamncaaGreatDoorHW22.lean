/- Folded. -/
import Derived.Test.YtaociahafamncaaGreatDoorHW21
set_option maxRecDepth 100000
set_option maxHeartbeats 40000000
set_option linter.unusedVariables false
namespace Go.Proofs.YtaociahafamncaaGreatDoor
section
open Classical in
noncomputable def charL(n:Nat)(P:Nat→Prop):List Bool:=(List.range n).map fun x=>decide (P x)
theorem charL_len(n:Nat)(P:Nat→Prop):(charL n P).length=n:=by unfold charL;rw[List.length_map,List.length_range]
open Classical in
theorem charL_get{n:Nat}{P:Nat→Prop}{x:Nat}:(charL n P)[x]? =some true↔x<n∧P x:=by
 unfold charL;rw[List.getElem?_map];by_cases h:x<n
 ·rw[List.getElem?_range h];show some (decide (P x))=some true↔_;simp[h]
 ·rw[List.getElem?_eq_none (by rw[List.length_range];omega)];simp[h]
theorem bools_ext{A B:List Bool}(hl:A.length=B.length)(h:∀x:Nat,A[x]? =some true↔B[x]? =some true):A=B:=by
 apply List.ext_getElem?
 intro x
 by_cases hx:x<A.length
 ·have h1:=h x;rw[List.getElem?_eq_getElem hx,List.getElem?_eq_getElem (by omega)]at h1⊢;congr 1
  cases ha:A[x]<;>cases hb:B[x]<;>rw[ha,hb]at h1<;>simp at h1<;>rfl
 ·rw[List.getElem?_eq_none (by omega),List.getElem?_eq_none (by omega)]
structure SpP(l:List Lst)(B0 B:List Bool):Prop where
 len:B.length=l.length
 base:∀x:Nat,B0[x]? =some true→B[x]? =some true
 clo:∀x:Nat,B[x]? =some true→Clo l (fun y=>B0[y]? =some true) x
theorem SpP.start{l:List Lst}{B:List Bool}(h:B.length=l.length):SpP l B B:=⟨h,fun _ h=>h,fun _ h=>.base h⟩
theorem SpP.set{l:List Lst}{B0 B:List Bool}(h:SpP l B0 B){i x:Nat}{s:Lst}(hi:B[i]? =some true)(hs:l[i]? =some s)(hx:((x:Nat):Int)∈s.free):SpP l B0 (B.set x true):=by
 refine⟨by rw[List.length_set];exact h.len,fun y hy=>?_,fun y hy=>?_⟩
 ·rw[List.getElem?_set];split
  ·rename_i e
   subst e;have:=(List.getElem?_eq_some_iff.1 (h.base x hy)).1;rw[if_pos this]
  ·exact h.base y hy
 ·rw[List.getElem?_set]at hy;split at hy
  ·rename_i e
   subst e;exact .step (h.clo i hi) hs hx
  ·exact h.clo y hy
def ClsTo(l:List Lst)(B:List Bool)(i k:Nat):Prop:=(∀(y:Nat) s,y<i→B[y]? =some true→l[y]? =some s→∀t∈s.free,B[t.toNat]? =some true)∧∀s,l[i]? =some s→B[i]? =some true→∀t∈s.free.take k,B[t.toNat]? =some true
theorem ClsTo.zero(l:List Lst)(B:List Bool):ClsTo l B 0 0:=⟨fun y s h=>absurd h (by omega),fun s _ _ t ht=>by simp at ht⟩
theorem ClsTo.next{l:List Lst}{B:List Bool}{i k:Nat}(h:ClsTo l B i k)(he:∀s,l[i]? =some s→B[i]? =some true→s.free.length≤k):ClsTo l B (i+1) 0:=by
 refine⟨fun y s hy hb hs t ht=>?_,fun s _ _ t ht=>by simp at ht⟩;by_cases e:y<i
 ·exact h.1 y s e hb hs t ht
 ·obtain rfl:y=i:=by omega
  exact h.2 s hs hb t (by rw[List.take_of_length_le (he s hs hb)];exact ht)
theorem ClsTo.one{l:List Lst}{B:List Bool}{i k:Nat}{s:Lst}{t:Int}(h:ClsTo l B i k)(hs:l[i]? =some s)(ht:s.free[k]? =some t)(hb:B[t.toNat]? =some true):ClsTo l B i (k+1):=by
 refine⟨h.1,fun s' hs' hi u hu=>?_⟩;rw[hs]at hs';injection hs' with hs'
 subst hs';rw[List.take_add_one,ht]at hu;rcases List.mem_append.1 hu with hu|hu
 ·exact h.2 s hs hi u hu
 ·simp at hu
  rw[hu];exact hb
theorem SpP.done{l:List Lst}{B0 B:List Bool}(h:SpP l B0 B)(hc:ClsTo l B l.length 0):B=charL l.length (Clo l fun y=>B0[y]? =some true):=by
 refine bools_ext (by rw[charL_len];exact h.len) fun x=>?_
 rw[charL_get];constructor
 ·intro hx
  have:=(List.getElem?_eq_some_iff.1 hx).1;rw[h.len]at this;exact⟨this,h.clo x hx⟩
 ·rintro⟨_,hx⟩;induction hx with
  |base h1=>exact h.base _ h1
  |
   @step y x s hy hs hx ih=>
   have hyl:=(List.getElem?_eq_some_iff.1 hs).1;have:=hc.1 y s hyl (ih hyl) hs _ hx;rwa[Int.toNat_natCast]at this
def ovP(l:List Lst)(P:Nat→Prop)(c:Nat)(x:Nat):Prop:=∃(z:Nat) (s:Lst),P z∧l[z]? =some s∧∃a∈s.arcs,a.1≤(c:Int)∧(c:Int)≤a.2.1∧a.2.2=(x:Int)
def runP(l:List Lst):(Nat→Prop)→List Nat→Nat→Prop
 |P,[]=>P
 |P,c::r=>runP l (Clo l (ovP l P c)) r
open Classical in
noncomputable def endB(l:List Lst)(P:Nat→Prop):Bool:=decide (∃(z:Nat) (s:Lst),l[z]? =some s∧s.fin=true∧P z)
theorem overP_set{l:List Lst}{P:Nat→Prop}{c:Nat}:overP l (setL l.length P) c=ovP l P c:=by
 funext x
 apply propext
 unfold overP ovP;constructor
 ·rintro⟨z,hz,a,ha,h⟩;obtain⟨y,rfl,hy,hp⟩:=setL_mem.1 hz;unfold arcsAt at ha;rw[Int.toNat_natCast,List.getElem?_eq_getElem hy]at ha;exact⟨y,l[y],hp,List.getElem?_eq_getElem hy,a,ha,h⟩
 ·rintro⟨z,s,hp,hs,a,ha,h⟩;refine⟨(z:Int),setL_mem.2 ⟨z,rfl,(List.getElem?_eq_some_iff.1 hs).1,hp⟩,a,?_,h⟩;unfold arcsAt;rw[Int.toNat_natCast,hs];exact ha
theorem clo_none{l:List Lst}{P:Nat→Prop}(h:∀x,¬P x):∀x,¬Clo l P x:=fun x hx=>by
 induction hx with
 |base h1=>exact h _ h1
 |step _ _ _ ih=>exact ih
open Classical in
theorem run_none{l:List Lst}:∀(r:List Nat){P:Nat→Prop},(∀x,¬P x)→endB l (runP l P r)=false
 |
  [],P,h=>by
  unfold endB;exact decide_eq_false fun⟨z,s,_,_,hz⟩=>h z hz
 |c::r,P,h=>run_none r (clo_none fun x ⟨z,s,hz,_⟩=>h z hz)
open Classical in
theorem finS_end{l:List Lst}{P:Nat→Prop}:finS l (setL l.length P)=endB l P:=by
 rw[Bool.eq_iff_iff];unfold finS endB;rw[List.any_eq_true,decide_eq_true_eq];constructor
 ·rintro⟨z,hz,hf⟩;obtain⟨y,rfl,hy,hp⟩:=setL_mem.1 hz;unfold finAt at hf;rw[Int.toNat_natCast,List.getElem?_eq_getElem hy]at hf;exact⟨y,l[y],List.getElem?_eq_getElem hy,hf,hp⟩
 ·rintro⟨z,s,hs,hf,hp⟩;refine⟨(z:Int),setL_mem.2 ⟨z,rfl,(List.getElem?_eq_some_iff.1 hs).1,hp⟩,?_⟩;unfold finAt;rw[Int.toNat_natCast,hs];exact hf
theorem acc_run(l:List Lst):∀(s:List Nat) (P:Nat→Prop),(∀c∈s,c<256)→(⟨finS l,stepS l⟩:Au (List Int)).acc (setL l.length P) s=endB l (runP l P s)
 |[],P,_=>finS_end
 |
  c::r,P,h=>by
  rw[Au.acc,if_pos (h c (List.mem_cons_self ..))];have e:(⟨finS l,stepS l⟩:Au (List Int)).step (setL l.length P) c=stepS l (setL l.length P) c:=rfl;rw[e];unfold stepS;rw[overP_set];by_cases hx:∃x,ovP l P c x
  ·rw[if_pos hx];exact acc_run l r _ fun c hc=>h c (List.mem_cons_of_mem _ hc)
  ·rw[if_neg hx];exact(run_none r (clo_none fun x h1=>hx ⟨x,h1⟩)).symm
end
section
open Go.RowKit Go.Maps
structure SpR(w W:World)(ob oc n:Nat)(L:List Bool):Prop where
 own:W.ownsRow w.heap.size 4 1 (.slice (some ⟨ob,0,none⟩) n oc) n (L.map .bool)
 bel:Below w.heap.size w W
theorem SpR.keep{w W W':World}{ob oc n:Nat}{L:List Bool}(h:SpR w W ob oc n L)(hb:Below W.heap.size W W'):SpR w W' ob oc n L:=⟨own_kept h.own hb,bcall h.bel hb⟩
theorem SpR.get{w W:World}{ob oc n:Nat}{L:List Bool}(h:SpR w W ob oc n L){t:Nat}{b:Bool}(hf:L[t]? =some b):W.cell? ⟨ob,t,none⟩=some (.bool b):=own_cell h.own (by rw[List.getElem?_map,hf];rfl)
theorem SpR.len{w W:World}{ob oc n:Nat}{L:List Bool}(h:SpR w W ob oc n L):L.length=n:=by
 have:=h.own.1;rw[List.length_map]at this;omega
theorem SpR.cap{w W:World}{ob oc n:Nat}{L:List Bool}(h:SpR w W ob oc n L):n≤oc:=by
 obtain⟨A1,c1,e1,h1⟩:=own_shape h.own;injection e1 with _ _ e1
 omega
theorem SpR.set{w W:World}{ob oc n:Nat}{L:List Bool}(h:SpR w W ob oc n L)(t:Nat)(b:Bool):SpR w (W.setCell ⟨ob,t,none⟩ (.bool b)) ob oc n (L.set t b)∧W.frozen? ⟨ob,t,none⟩=false∧ob<W.heap.size:=by
 obtain⟨q1,q2,cs,q3⟩:=own_blk h.own;refine⟨⟨?_,below_set h.bel q1 (Nat.le_refl _)⟩,free_at q3 _,q2⟩;rw[List.map_set];exact own_put h.own
end
section
open Go.RowKit Go.Maps
open F (Ent Nd Nh gath gath_s Fine byteAt DictAt waysC wayC entsC entC entsC_len)
def runM2(most:Nat)(R:List Ent×Bool)(l:List Ent):List Ent×Bool:=if R.2 then R else runM most R.1 l
theorem runM2_app(most:Nat)(R:List Ent×Bool)(a b:List Ent):runM2 most R (a++b)=runM2 most (runM2 most R a) b:=by
 obtain⟨h,g⟩:=R;cases g with
 |true=>rfl
 |
  false=>
  show runM most h (a++b)=if(runM most h a).2 then _ else _
  rw[runM_app];rfl
theorem runM2_nil(most:Nat)(R:List Ent×Bool):runM2 most R []=R:=by
 obtain⟨h,g⟩:=R;cases g<;>rfl
theorem runM2_len(most:Nat)(R:List Ent×Bool)(l:List Ent):(runM2 most R l).1.length≤R.1.length+l.length:=by
 have h:∀(l h:List Ent),(runM most h l).1.length≤h.length+l.length:=by
  intro l
  induction l with
  |nil=>intro h;exact Nat.le_refl _
  |
   cons e r ih=>
   intro h
   have e1:runM most h (e::r)=if h.length=most then(h,true)else runM most (h++[e]) r:=rfl
   rw[e1];split
   ·simp
   ·have:=ih (h++[e]);simp only[List.length_append,List.length_cons,List.length_nil]at this⊢;omega
 unfold runM2;split
 ·omega
 ·exact h l R.1
def mtW(ds:List Nd)(M:Au Nat)(dead:Nat→Bool)(f:Nat)(t:List UInt8)(z:Int)(q:Nat)(ws:List (Int×Int×Int)):List Ent:=ws.flatMap fun x=>match M.step q x.1.toNat with
 |some q'=>mtE ds M dead f x.2.2.toNat (t++[UInt8.ofNat x.1.toNat]) (IntKind.i64.wrap (z+x.2.1)) q'
 |none=>[]
theorem mtW_take{ds:List Nd}{M:Au Nat}{dead:Nat→Bool}{f:Nat}{t:List UInt8}{z:Int}{q:Nat}{ws:List (Int×Int×Int)}{j:Nat}{y:Int×Int×Int}(hy:ws[j]? =some y):mtW ds M dead f t z q (ws.take (j+1))=mtW ds M dead f t z q (ws.take j)++match M.step q y.1.toNat with
 |some q'=>mtE ds M dead f y.2.2.toNat (t++[UInt8.ofNat y.1.toNat]) (IntKind.i64.wrap (z+y.2.1)) q'
 |none=>[]:=by
 unfold mtW;rw[List.take_add_one,hy,List.flatMap_append];simp
structure MatAt(W:World)(mb p n c:Nat)(A:Option Addr)(ob oc most:Nat)(v:Value)(F:List Ent)(more:Bool):Prop where
 blk:W.heap[mb]? =some (.cells #[.pointer (some ⟨p,0,none⟩),.slice A n c,.slice (some ⟨ob,0,none⟩) n oc,.int .i64 (most:Int),v,.bool more] 62 (0,0))
 own:W.ownsRow (mb+1) 29 2 v F.length (entsC F)
section
variable {W W':World}{mb p n c:Nat}{A:Option Addr}{ob oc most:Nat}{v:Value}{F:List Ent}{more:Bool}
theorem MatAt.lt(h:MatAt W mb p n c A ob oc most v F more):mb<W.heap.size:=(Array.getElem?_eq_some_iff.1 h.blk).1
theorem MatAt.keep(h:MatAt W mb p n c A ob oc most v F more)(hb:Below W.heap.size W W'):MatAt W' mb p n c A ob oc most v F more:=⟨(hb.block mb h.lt).trans h.blk,own_kept h.own hb⟩
theorem MatAt.cells(h:MatAt W mb p n c A ob oc most v F more):W.cell? ⟨mb,0,none⟩=some (.pointer (some ⟨p,0,none⟩))∧W.cell? ⟨mb,1,none⟩=some (.slice A n c)∧W.cell? ⟨mb,2,none⟩=some (.slice (some ⟨ob,0,none⟩) n oc)∧W.cell? ⟨mb,3,none⟩=some (.int .i64 (most:Int))∧W.cell? ⟨mb,4,none⟩=some v∧W.cell? ⟨mb,5,none⟩=some (.bool more):=
 ⟨cell_of_row _ mb 0 _ _ (0,0) h.blk,cell_of_row _ mb 1 _ _ (0,0) h.blk,cell_of_row _ mb 2 _ _ (0,0) h.blk,cell_of_row _ mb 3 _ _ (0,0) h.blk,cell_of_row _ mb 4 _ _ (0,0) h.blk,cell_of_row _ mb 5 _ _ (0,0) h.blk⟩
def MatAt.foot(mb:Nat)(v:Value)(b:Nat):Prop:=b=mb∨some b=v.ownBlock
theorem MatAt.low(h:MatAt W mb p n c A ob oc most v F more){b:Nat}(hb:MatAt.foot mb v b):mb≤b∧b<W.heap.size:=by
 rcases hb with rfl|hb
 ·exact⟨Nat.le_refl _,h.lt⟩
 ·have:=h.own.lt b hb.symm;omega
end
structure MidM(mb p n c:Nat)(A:Option Addr)(ob oc most:Nat)(W:World)(v0:Value)(T:Nat)(R0:List Ent×Bool)(l:List Ent)(F:List Ent)(more:Bool)(W':World)(v:Value):Prop where
 run:runM2 most R0 l=(F,more)
 mat:MatAt W' mb p n c A ob oc most v F more
 but:But (MatAt.foot mb v0) W W'
 sub:∀b,some b=v.ownBlock→some b=v0.ownBlock∨T≤b
end
section
open Go.RowKit Go.Maps
open F (Ent Nd Nh gath gath_s Fine byteAt DictAt waysC wayC)
section
variable {mb p n c:Nat}{A:Option Addr}{ob oc most:Nat}{W W1 W2 wr W5 W6:World}{v0 v v1:Value}{T:Nat}{R0:List Ent×Bool}{l l2 F F1:List Ent}{more:Bool}
def AlongPost(mb p n c:Nat)(A:Option Addr)(ob oc most:Nat)(W:World)(v:Value)(R:List Ent×Bool):Ending→World→Prop:=fun e W'=>e=.returned (.tuple #[])∧∃v',MatAt W' mb p n c A ob oc most v' R.1 R.2∧But (MatAt.foot mb v) W W'∧∀b,some b=v'.ownBlock→some b=v.ownBlock∨W.heap.size≤b
theorem MidM.keep(hm:MidM mb p n c A ob oc most W v0 T R0 l F more W1 v)(hb:Below W1.heap.size W1 W2):MidM mb p n c A ob oc most W v0 T R0 l F more W2 v:=
 ⟨hm.run,hm.mat.keep hb,hm.but.trans (S':=MatAt.foot mb v0) (But.of hb) fun _ hi=>.inl hi,hm.sub⟩
theorem MidM.done(hm:MidM mb p n c A ob oc most W v0 T R0 l F more W1 v)(hT:W.heap.size≤T):AlongPost mb p n c A ob oc most W v0 (runM2 most R0 l) (.returned (.tuple #[])) W1:=
 ⟨rfl,v,by rw[hm.run];exact hm.mat,hm.but,fun b hb=>(hm.sub b hb).elim .inl fun h=>.inr (by omega)⟩
theorem MidM.next(hm:MidM mb p n c A ob oc most W v0 T R0 l F more wr v)(hv0:∀b,some b=v0.ownBlock→b<W.heap.size)(hmb:mb<W.heap.size)(hWT:W.heap.size≤T)(hT:T≤wr.heap.size)(hb5:Below wr.heap.size wr W5)(hb:Below W5.heap.size W5 W6){g:FuncId}{args:Array Value}(hc:Calls Tryz.prog g args W6 (AlongPost mb p n c A ob oc most W6 v (runM2 most (F,more) l2))):
  Calls Tryz.prog g args W6 fun e W7=>e=.returned (.tuple #[])∧∃F2 more2 v2,MidM mb p n c A ob oc most W v0 T R0 (l++l2) F2 more2 W7 v2∧(T≤W7.heap.size∧∀b,W.heap.size≤b→b<T→W7.heap[b]? =wr.heap[b]?)∧∀b,wr.heap.size≤b→b<W5.heap.size→W7.heap[b]? =W5.heap[b]? :=by
 refine hc.mono ?_;rintro e W7 ⟨rfl,v2,hI,hbut,hsub⟩;have hb6:=bcall hb5 hb;have z1:=hb6.size;have z2:=hbut.size;have z3:=hb.size;have hfoot:∀b,MatAt.foot mb v b→b=mb∨some b=v0.ownBlock∨T≤b:=fun b hf=>hf.elim .inl fun h=>.inr (hm.sub b h)
 have hlow:∀b,MatAt.foot mb v b→b<wr.heap.size:=fun b hf=>(hm.mat.low hf).2
 refine⟨rfl,_,_,v2,⟨?_,hI,?_,?_⟩,⟨by omega,?_⟩,?_⟩
 ·rw[runM2_app,hm.run]
 ·exact hm.but.trans ((But.of hb6).trans hbut fun _ hi=>.inl hi) fun i hi=>by
   rcases hfoot i hi with h|h|h
   ·exact .inl (.inl h)
   ·exact .inl (.inr h)
   ·exact .inr (by omega)
 ·intro b hb2
  rcases hsub b hb2 with h|h
  ·exact hm.sub b h
  ·exact .inr (by omega)
 ·intro b h1 h2
  rw[hbut.block b (by omega) (fun h=>by
   rcases hfoot b h with h|h|h
   ·omega
   ·have:=hv0 b h;omega
   ·omega),hb6.block b (by omega)]
 ·intro b h1 h2
  rw[hbut.block b (by omega) (fun h=>by have:=hlow b h;omega),hb.block b h2]
end
theorem mtW_split(ds:List Nd)(M:Au Nat)(dead:Nat→Bool)(f:Nat)(t:List UInt8)(z:Int)(q:Nat)(ws:List (Int×Int×Int))(j:Nat):mtW ds M dead f t z q ws=mtW ds M dead f t z q (ws.take j)++mtW ds M dead f t z q (ws.drop j):=by
 conv=>lhs;rw[←List.take_append_drop j ws]
 unfold mtW;rw[List.flatMap_append]
theorem along_loop(Wm W W3 W4:World)(mb p na ca ob oc most i m cw ab:Nat)(A:Option Addr)(H:List Sh)(HS:Hid (StsIn Wm mb A na ca H))(d:List St)(HD:Hid (H.map (·.d)=d))(HG:Hid (Good d))(hna:d.length=na)(ds:List Nd)(dd:Nat→Bool)(f:Nat)(t:List UInt8)(z:Int)(q:Nat)(hq:q<na)(htl:t.length+i≤1125899906842624)(HBM:Hid (Below mb Wm W))(hmW:mb<W.heap.size)(hmm:mb≤Wm.heap.size)
  (HIH:Hid (∀i':Nat,i'<i→∀(W:World) (v:Value) (F:List Ent) (more:Bool) (t:List UInt8) (z:Int) (q:Nat),MatAt W mb p na ca A ob oc most v F more→Below mb Wm W→q<na→t.length+i'≤1125899906842624→F.length+(mtE ds (auOf d) dd f i' t z q).length≤1048576→Calls Tryz.prog 29 #[.pointer (some ⟨mb,0,none⟩),.agg #[.int .i64 (i':Int),.int .i64 z,.int .i64 (q:Int),.string ⟨t.toArray⟩]] W (AlongPost mb p na ca A ob oc most W v (runM2 most (F,more) (mtE ds (auOf d) dd f i' t z q)))))
  (v0:Value) (HV0:Hid (∀b,some b=v0.ownBlock→mb≤b∧b<W.heap.size)) (hab:W.heap.size≤ab) (hab3:ab<W3.heap.size)
  (HAT:Hid (W3.heap[ab]? =some (.cells #[.int .i64 (i:Int),.int .i64 z,.int .i64 (q:Int),.string ⟨t.toArray⟩] 56 (0,0)))) (Aw:Option Addr) (ws:List (Int×Int×Int)) (HM:Hid (ws.length=m)) (hmc:m≤cw) (hm:m≤65536)
  (HWC:Hid (0<m→∃g,Aw=some ⟨g,0,none⟩∧W.heap.size≤g∧g<W3.heap.size∧∀k y,ws[k]? =some y→W3.cell? ⟨g,k*3,none⟩=some (.int .i64 y.1)∧W3.cell? ⟨g,k*3+1,none⟩=some (.int .i64 y.2.1)∧W3.cell? ⟨g,k*3+2,none⟩=some (.int .i64 y.2.2)))
  (HWS:Hid (∀x∈ws,(0≤x.1∧x.1≤255)∧0≤x.2.2∧x.2.2<(i:Int))) (R0:List Ent×Bool) (pre F1:List Ent) (more1:Bool) (v1:Value) (HMID:Hid (MidM mb p na ca A ob oc most W v0 W3.heap.size R0 pre F1 more1 W4 v1)) (HK:Hid (W3.heap.size≤W4.heap.size∧∀b,W.heap.size≤b→b<W3.heap.size→W4.heap[b]? =W3.heap[b]?))
  (HL:Hid (R0.1.length+(pre++mtW ds (auOf d) dd f t z q ws).length≤1048576))
  (c1 c2 c4 c5 c6 c9 c10 c11 c12 c13 c14 c15 c16 c17 c18 c19 c20 c21 c22 c23 c24 c25 c26 c27 c28 c29 c30 c31 c32 c33 c34 c35 c36 c37 c38 c39 c40 c41 c42 c43 c44 c45 c46 c47 c48 c49 c50 c51 c52 c53 c54 c55 c56 c57 c58 c59 c60 c61 c62 c63 c64 c65 c66 c67 c68 c69 c70 c71 c72 c73 c74 c75 c76 u7 u8 u80 u81 u82 u83 u84 u85 u86 u87 u88 u89 u90 u91 u92 u93 u94 u95 u96 u97 u98 u99 u100 u101 u102 u103 u104 u105 u106 u107 u108 u109 u110 u111 u112 u113 u114:Value) (Q0:Exit→Act→World→Prop) (hQ0:∀c (a a':Act) w,a.defers=a'.defers→Q0 (.panic c) a w→Q0 (.panic c) a' w)
  (hexit:∀(F2:List Ent) (more2:Bool) (v2:Value) (W':World) (x79 u7 u8 u80 u81 u82 u83 u84 u85 u86 u87 u88 u89 u90 u91 u92 u93 u94 u95 u96 u97 u98 u99 u100 u101 u102 u103 u104 u105 u106 u107 u108 u109 u110 u111 u112 u113 u114:Value),Hid (MidM mb p na ca A ob oc most W v0 W3.heap.size R0 (pre++mtW ds (auOf d) dd f t z q ws) F2 more2 W' v2)→Q0 (.exit 0) ⟨List.toArray (.pointer (some ⟨mb,0,none⟩)::c1::c2::.pointer (some ⟨ab,0,none⟩)::c4::c5::c6::u7::u8::c9::c10::c11::c12::c13::c14::c15::c16::c17::c18::c19::c20::c21::c22::c23::c24::c25::c26::c27::c28::c29::c30::c31::c32::c33::c34::c35::c36::c37::c38::c39::c40::c41::c42::c43::c44::c45::c46::c47::c48::c49::c50::c51::c52::c53::c54::c55::c56::c57::c58::c59::c60::c61::c62::c63::c64::c65::c66::c67::c68::c69::c70::c71::c72::c73::c74::c75::c76::.slice Aw m cw::.int .i64 (m:Int)::x79::u80::u81::u82::u83::u84::u85::u86::u87::u88::u89::u90::u91::u92::u93::u94::u95::u96::u97::u98::u99::u100::u101::u102::u103::u104::u105::u106::u107::u108::u109::u110::u111::u112::u113::u114::[]),[]⟩ W'):
  Code.wp Tryz.prog (.loop (loopOf Tryz.f29 0)) Q0 ⟨List.toArray (.pointer (some ⟨mb,0,none⟩)::c1::c2::.pointer (some ⟨ab,0,none⟩)::c4::c5::c6::u7::u8::c9::c10::c11::c12::c13::c14::c15::c16::c17::c18::c19::c20::c21::c22::c23::c24::c25::c26::c27::c28::c29::c30::c31::c32::c33::c34::c35::c36::c37::c38::c39::c40::c41::c42::c43::c44::c45::c46::c47::c48::c49::c50::c51::c52::c53::c54::c55::c56::c57::c58::c59::c60::c61::c62::c63::c64::c65::c66::c67::c68::c69::c70::c71::c72::c73::c74::c75::c76::.slice Aw m cw::.int .i64 (m:Int)::.int .i64 (0:Int)::u80::u81::u82::u83::u84::u85::u86::u87::u88::u89::u90::u91::u92::u93::u94::u95::u96::u97::u98::u99::u100::u101::u102::u103::u104::u105::u106::u107::u108::u109::u110::u111::u112::u113::u114::[]),[]⟩ W4:=by
 conv=>arg 2;arg 1;whnf
 go_loopw [79] (fun jv wr=>∃(j:Nat) (F1:List Ent) (more1:Bool) (v1:Value),j≤m∧jv=.int .i64 (j:Int)∧Hid (MidM mb p na ca A ob oc most W v0 W3.heap.size R0 (pre++mtW ds (auOf d) dd f t z q (ws.take j)) F1 more1 wr v1)∧Hid (W3.heap.size≤wr.heap.size∧∀b,W.heap.size≤b→b<W3.heap.size→wr.heap[b]? =W3.heap[b]?)) (fun jv _=>m-(intOf jv).toNat)
 case atStart=>exact⟨0,F1,more1,v1,Nat.zero_le _,rfl,by unfold mtW;simpa using HMID,HK⟩
 case round=>
  clear HMID HK;obtain⟨j,F1,more1,v1,hj,rfl,HMID,HK⟩:=hrel;by_cases hjm:j<m
  ·obtain⟨g,hA,hg1,hg2,hcell⟩:=HWC.out (by omega);subst hA;obtain⟨⟨yc,yo,yt⟩,hy⟩:∃y,ws[j]? =some y:=⟨ws[j]'(by rw[HM.out];exact hjm),List.getElem?_eq_getElem _⟩;obtain⟨e0,e1,e2⟩:=hcell j _ hy;have hbg:=HK.out.2 g hg1 hg2;have d0:=(World.cell?_of_block (a:=⟨g,j*3,none⟩) hbg).trans e0;have d1:=(World.cell?_of_block (a:=⟨g,j*3+1,none⟩) hbg).trans e1;have d2:=(World.cell?_of_block (a:=⟨g,j*3+2,none⟩) hbg).trans e2;have hat:=(HK.out.2 ab hab hab3).trans HAT.out;have HAT4:=Lib.hid hat
   obtain⟨⟨y0,y1⟩,y4,y5⟩:=HWS.out _ (List.mem_of_getElem? hy);simp only at d0 d1 d2 y0 y1 y4 y5;obtain⟨yn,rfl⟩:=Int.eq_ofNat_of_zero_le y4;obtain⟨yk,rfl⟩:=Int.eq_ofNat_of_zero_le y0;have hyk:yk<256:=by omega
   have HW:=Lib.hid (mtW_take (ds:=ds) (M:=auOf d) (dead:=dd) (f:=f) (t:=t) (z:=z) (q:=q) hy);have hgw:g<wr.heap.size:=by have:=HK.out.1;omega
   have haw:ab<wr.heap.size:=by have:=HK.out.1;omega
   have hmbw:mb<wr.heap.size:=HMID.out.mat.lt;obtain⟨c0,c1,_,_,_,_⟩:=HMID.out.mat.cells;have hBW:Below mb Wm wr:=HBM.out.trans (HMID.out.but.below (by omega) fun b hb=>by
    rcases hb with rfl|hb
    ·exact Nat.le_refl _
    ·exact(HV0.out b hb).1)
   have hB1:=bnew (brefl wr) (.cells #[.int .i64 (yk:Int),.int .i64 yo,.int .i64 (yn:Int)] 107);have hn1:=heap_alloc_new wr (.cells #[.int .i64 (yk:Int),.int .i64 yo,.int .i64 (yn:Int)] 107);have ha1:=(Below.heap_alloc wr (.cells #[.int .i64 (yk:Int),.int .i64 yo,.int .i64 (yn:Int)] 107) ab haw).trans hat
   have hm1:=(HMID.out.mat.keep hB1).blk;obtain⟨S,hS⟩:∃S,stepI d (q:Int) (yk:Int)=S:=⟨_,rfl⟩;have HSI:Hid ((S= -1∧(auOf d).step q yk=none)∨∃y:Nat,S=(y:Int)∧(auOf d).step q yk=some y∧y<na):=by
    rw[←hS,←hna];exact stepI_au HG.out (by rw[hna];exact hq) yk
   have HSTEP:=Lib.hid (fun(W6:World) (hb:Below (wr.alloc (.cells #[.int .i64 (yk:Int),.int .i64 yo,.int .i64 (yn:Int)] 107)).heap.size (wr.alloc (.cells #[.int .i64 (yk:Int),.int .i64 yo,.int .i64 (yn:Int)] 107)) W6)=>dstep_any W6 mb (by have:=(bcall hB1 hb).size;omega) A na ca H (HS.out.keep (hBW.trans ((bcall hB1 hb).mono (by omega))) (Nat.le_refl _)) (q:Int) (yk:Int) ⟨by omega,by omega⟩);rw[HD.out,hS]at HSTEP;have HB1:=Lib.hid hB1;have HN1:=Lib.hid hn1;have HA1:=Lib.hid ha1;have HM1:=Lib.hid hm1;have HBW:=Lib.hid hBW;have hyk0:(yk:Int)%256=yk:=by omega
   have hyk2:IntKind.u8.wrap (yk:Int)=(yk:Int):=by
    have h1:IntKind.u8.wrap (yk:Int)=(yk:Int)%256:=by simp[IntKind.wrap_u8]
    rw[h1];exact hyk0
   clear hcell e0 e1 e2 hbg hat hy y4 c0 c1 hB1 hn1 ha1 hm1 hS hBW;go_wp2_with fail;generalize wr.alloc (.cells #[.int .i64 (yk:Int),.int .i64 yo,.int .i64 (yn:Int)] 107)=W1 at*;have HC1:Hid (W1.cell? ⟨mb,1,none⟩=some (.slice A na ca)∧W1.cell? ⟨ab,2,none⟩=some (.int .i64 (q:Int))∧W1.cell? ⟨wr.heap.size,0,none⟩=some (.int .i64 (yk:Int))):=⟨cell_of_row W1 mb 1 _ _ (0,0) HM1.out,cell_of_row W1 ab 2 _ _ (0,0) HA1.out,cell_of_row W1 _ 0 _ _ (0,0) HN1.out⟩;obtain⟨k0,k1,k2⟩:=HC1.out;go_region_held3 (fun w'=>w'.cell? ⟨mb,1,none⟩=some (.slice A na ca)∧w'.cell? ⟨ab,2,none⟩=some (.int .i64 (q:Int))∧w'.cell? ⟨wr.heap.size,0,none⟩=some (.int .i64 (yk:Int)))
    (first
     |assumption
     |exact HC1.out
     |exact HC7.out)
    (first|(go_at_call 48;refine(HSTEP.out _ (by repeat(first|exact brefl _|refine Below.drew ?_))).mono ?_;rintro e W7 ⟨rfl,hb7⟩;have HB7:=Lib.hid ((show Below W1.heap.size W1 _ by repeat(first|exact brefl _|refine Below.drew ?_)).trans (hb7.mono (by exact Nat.le_refl _)));have HC7:Hid (W7.cell? ⟨mb,1,none⟩=some (.slice A na ca)∧W7.cell? ⟨ab,2,none⟩=some (.int .i64 (q:Int))∧W7.cell? ⟨wr.heap.size,0,none⟩=some (.int .i64 (yk:Int))):=⟨(HB7.out.cell (p:=⟨mb,1,none⟩) (Array.getElem?_eq_some_iff.1 HM1.out).1).trans HC1.out.1,(HB7.out.cell (p:=⟨ab,2,none⟩) (Array.getElem?_eq_some_iff.1 HA1.out).1).trans HC1.out.2.1,(HB7.out.cell (p:=⟨wr.heap.size,0,none⟩) (Array.getElem?_eq_some_iff.1 HN1.out).1).trans HC1.out.2.2⟩;clear hb7))
   clear k0 k1 k2 HSTEP;have HB8:=Lib.hid (bcall HB1.out HB7.out);rcases HSI.out with⟨rfl,hst⟩|⟨y,rfl,hst,hyn⟩
   ·have HMN:Hid (MidM mb p na ca A ob oc most W v0 W3.heap.size R0 (pre++mtW ds (auOf d) dd f t z q (ws.take (j+1))) F1 more1 W7 v1):=by
     have e:=HW.out;rw[Int.toNat_natCast,hst]at e;simp only[List.append_nil]at e;show MidM _ _ _ _ _ _ _ _ _ _ _ _ _ _ _ _ _;rw[e];exact HMID.out.keep HB8.out
    have HKN:Hid (W3.heap.size≤W7.heap.size∧∀b,W.heap.size≤b→b<W3.heap.size→W7.heap[b]? =W3.heap[b]?):=⟨Nat.le_trans HK.out.1 HB8.out.size,fun b h1 h2=>by
     have:=HK.out.1;rw[HB8.out.block b (by omega)];exact HK.out.2 b h1 h2⟩
    clear HMID HW HSI hst;go_wp2_with fail;go_roundw;case rel=>exact⟨j+1,F1,more1,v1,by omega,by go_num,HMN,HKN⟩
    case measure=>first|(simp[intOf];done)|(simp[intOf];omega)
   ·have hn7:=(HB7.out.block _ (Array.getElem?_eq_some_iff.1 HN1.out).1).trans HN1.out;have ha7:=(HB7.out.block _ (Array.getElem?_eq_some_iff.1 HA1.out).1).trans HA1.out;have w0:=cell_of_row W7 _ 0 _ _ (0,0) hn7;have w1:=cell_of_row W7 _ 1 _ _ (0,0) hn7;have w2:=cell_of_row W7 _ 2 _ _ (0,0) hn7;have a1:=cell_of_row W7 _ 1 _ _ (0,0) ha7;have a3:=cell_of_row W7 _ 3 _ _ (0,0) ha7;simp at w0 w1 w2 a1 a3
    have l1:=(Array.getElem?_eq_some_iff.1 hn7).1;have l2:=(Array.getElem?_eq_some_iff.1 ha7).1;obtain⟨t',ht'⟩:∃t',t++[UInt8.ofNat yk]=t':=⟨_,rfl⟩;obtain⟨Z,hZ⟩:∃S,IntKind.i64.wrap (z+yo)=S:=⟨_,rfl⟩;have htl':t'.length+yn≤1125899906842624:=by rw[←ht'];simp;omega
    have hW2:mtW ds (auOf d) dd f t z q (ws.take (j+1))=mtW ds (auOf d) dd f t z q (ws.take j)++mtE ds (auOf d) dd f yn t' Z y:=by
     have e:=HW.out;rw[Int.toNat_natCast,hst]at e;simp only[Int.toNat_natCast]at e;rw[ht',hZ]at e;exact e
    have hcv:=F.conv_one W7 (yk:Int);have hcat:=F.term_cat t (yk:Int) (by omega);obtain⟨T,hT⟩:∃T,strOfNums [(yk:Int)]=T:=⟨_,rfl⟩;rw[hT]at hcat hcv;rw[Int.toNat_natCast,ht']at hcat
    have HC:=Lib.hid (HMID.out.next (W5:=W7.alloc (.cells #[.int .u8 (yk:Int)] 5)) (W6:=W7.alloc (.cells #[.int .u8 (yk:Int)] 5)) (l2:=mtE ds (auOf d) dd f yn t' Z y) (fun b hb=>(HV0.out b hb).2) hmW (by omega) HK.out.1 (bnew HB8.out _) (brefl _) (HIH.out yn (by omega) _ v1 F1 more1 t' Z y (HMID.out.mat.keep (bnew HB8.out _)) (HBW.out.trans ((bnew HB8.out _).mono (by omega))) hyn htl' (by
     have h1:=runM2_len most R0 (pre++mtW ds (auOf d) dd f t z q (ws.take j));rw[HMID.out.run]at h1;have h2:=HL.out;rw[mtW_split ds (auOf d) dd f t z q ws (j+1),hW2]at h2;simp only[List.length_append]at h1 h2⊢;omega)))
    have HW2:=Lib.hid hW2;clear hn7 ha7 hst hW2 ht' hT HMID HW HSI;go_wp2_with fail;refine HC.out.mono ?_;rintro e W9 ⟨rfl,F2,more2,v2,hm2,hk2,_⟩;have HMN:Hid (MidM mb p na ca A ob oc most W v0 W3.heap.size R0 (pre++mtW ds (auOf d) dd f t z q (ws.take (j+1))) F2 more2 W9 v2):=by
     show MidM _ _ _ _ _ _ _ _ _ _ _ _ _ _ _ _ _;rw[HW2.out,←List.append_assoc];exact hm2
    have HKN:Hid (W3.heap.size≤W9.heap.size∧∀b,W.heap.size≤b→b<W3.heap.size→W9.heap[b]? =W3.heap[b]?):=⟨hk2.1,fun b h1 h2=>(hk2.2 b h1 h2).trans (HK.out.2 b h1 h2)⟩;clear hm2 hk2 HC;go_wp2_with fail;go_roundw;case rel=>exact⟨j+1,F2,more2,v2,by omega,by go_num,HMN,HKN⟩
    case measure=>first|(simp[intOf];done)|(simp[intOf];omega)
  ·obtain rfl:j=m:=by omega
   have hall:ws.take j=ws:=List.take_of_length_le (by rw[HM.out];omega);rw[hall]at HMID;go_wp2_with fail;exact hexit F1 more1 v1 wr _ _ _ _ _ _ _ _ _ _ _ _ _ _ _ _ _ _ _ _ _ _ _ _ _ _ _ _ _ _ _ _ _ _ _ _ _ _ HMID
end
end Go.Proofs.YtaociahafamncaaGreatDoor
