/- A maker, and rows beside it. -/
import Derived.Test.YtclahhkcbkpofaaDoorHFz38
import Derived.Test.YtclahhkcbkpofaaDoorHFz15
import Derived.Test.YtclahhkcbkpofaaDoorHFz14
namespace Go.Proofs.YtclahhkcbkpofaaDoor
open Go.RowKit Go.Maps
theorem flat_set {α : Type} {f : α → List Value} {m : Nat} (hf : ∀ x, (f x).length = m) : ∀ {l : List α} {i j : Nat} {x y : α} {v : Value}, l[i]? = some x → j < m → f y = (f x).set j v → (l.flatMap f).set (i * m + j) v = (l.set i y).flatMap f
  | a :: r, 0, j, x, y, v, h, hj, hy => by
    simp at h
    subst h
    rw [Nat.zero_mul, Nat.zero_add, List.set_cons_zero, List.flatMap_cons, List.flatMap_cons, List.set_append_left _ _ (by rw [hf]; exact hj), hy]
  | a :: r, i + 1, j, x, y, v, h, hj, hy => by
    have ih := flat_set hf (l := r) (i := i) (j := j) (x := x) (y := y) (v := v) (by simpa using h) hj hy
    rw [List.set_cons_succ, List.flatMap_cons, List.flatMap_cons, List.set_append_right _ _ (by rw [hf, Nat.add_mul]; omega), hf, ← ih]
    congr 2
    rw [Nat.add_mul]
    omega
structure TiG (w W : World) (p : Nat) (As : Option Addr) (ns cs : Nat) (At : Option Addr) (ct kb : Nat) (N : DataW Unit) (cur : GRow) (hs : List Sh) (S : List Rw) (E : List Rw) (Lv : GRow) : Prop where
  bel : Below w.heap.size w W
  mr : MkR W w.heap.size p As ns cs At ct kb N cur hs S
  tab : Tab W
  fam : Fam W w.heap.size (E ++ S)
  ls : W.ownsRow w.heap.size 22 1 Lv.v Lv.n Lv.xs
section
variable {w W W' : World} {p : Nat} {As : Option Addr} {ns cs : Nat} {At : Option Addr} {ct kb : Nat} {N : DataW Unit} {cur : GRow} {hs : List Sh} {S E : List Rw} {Lv : GRow}
theorem TiG.keep (h : TiG w W p As ns cs At ct kb N cur hs S E Lv) (hb : Below W.heap.size W W') : TiG w W' p As ns cs At ct kb N cur hs S E Lv :=
  ⟨bcall h.bel hb, h.mr.keep hb, h.tab.below hb, h.fam.below hb, own_kept h.ls hb⟩
/-- What grows a row of numbers leaves the maker. -/
theorem mk_int (h : MkR W w.heap.size p As ns cs At ct kb N cur hs S) {b n : Nat} {v : Value} {xs : List Value} (ho : W.ownsRow b 3 1 v n xs) (hg : W.grownBy W' v.ownBlock) (hS : Fam W' w.heap.size S) : MkR W' w.heap.size p As ns cs At ct kb N cur hs S :=
  ⟨⟨blk_kept ho hg h.g.blk (by decide), h.g.plo, Nat.le_trans h.g.bsz hg.size, h.g.st.kept hg (own_types ho h.g.st (by decide)), h.g.se.kept hg (own_types ho h.g.se (by decide)), h.g.kn.kept hg (fun e' => by
    rcases row_not_map' ho h.g.kn with h1 | h1
    · rw [h1] at e'; cases e'
    · exact h1 e'.symm), h.g.klo, hS, h.g.arcs.kept hg fun x hx => own_types ho (h.g.arcs.own x hx) (by decide)⟩, h.hl, h.sl, h.kno, h.pos⟩
theorem Fam.tail' {b : Nat} {F G : List Rw} (h : Fam W b (F ++ G)) : Fam W b G := ⟨fun x hx => h.own x (List.mem_append_right _ hx), (List.pairwise_append.1 h.ap).2.1⟩
theorem tab_of (hw : Tab w) (hg : Below w.heap.size w W') : Tab W' := hw.below hg
/-- The first row beside grows. -/
theorem TiG.growE {x y : Rw} (h : TiG w W p As ns cs At ct kb N cur hs S (x :: E) Lv) (hw : Tab w) (hg : W.grownBy W' x.val.ownBlock) (hy : y.own W' w.heap.size) (hm : y.val.ownBlock = x.val.ownBlock ∨ ∃ g, y.val.ownBlock = some g ∧ W.heap.size ≤ g) : TiG w W' p As ns cs At ct kb N cur hs S (y :: E) Lv := by
  have hx := h.fam.own x (List.mem_cons_self ..)
  have hf : Fam W' w.heap.size ((y :: E) ++ S) := h.fam.set (t := 0) rfl hg hy hm
  have hbl := h.bel.grown hg h.bel.size (fun r hr => (hx.lt r hr).1)
  exact ⟨hbl, mk_int h.mr hx hg (Fam.tail' (F := y :: E) hf), tab_of hw hbl, hf, h.ls.kept hg (own_types hx h.ls (by decide))⟩
/-- A row beside is used up, and another comes. -/
theorem TiG.useE {x y : Rw} (h : TiG w W p As ns cs At ct kb N cur hs S (x :: E) Lv) (hw : Tab w) (hg : W.grownBy W' x.val.ownBlock) (hy : y.own W' W.heap.size) : TiG w W' p As ns cs At ct kb N cur hs S (y :: E) Lv := by
  have hx := h.fam.own x (List.mem_cons_self ..)
  obtain ⟨a1, a2⟩ := List.pairwise_cons.1 h.fam.ap
  have hf0 : Fam W' w.heap.size (E ++ S) := ⟨fun z hz => (h.fam.own z (List.mem_cons_of_mem _ hz)).kept hg (a1 z hz).symm.kept, a2⟩
  have hbl := h.bel.grown hg h.bel.size (fun r hr => (hx.lt r hr).1)
  refine ⟨hbl, mk_int h.mr hx hg (Fam.tail' hf0), tab_of hw hbl, ⟨fun z hz => ?_, List.pairwise_cons.2 ⟨fun z hz => ?_, a2⟩⟩, h.ls.kept hg (own_types hx h.ls (by decide))⟩
  · rcases List.mem_cons.1 hz with rfl | hz
    · exact own_lower hy h.bel.size
    · exact hf0.own z hz
  · have := own_apart (h.fam.own z (List.mem_cons_of_mem _ hz)) hy (Nat.le_refl _)
    rcases this with h1 | h1
    · exact .inl h1
    · exact .inr (.inr h1)
/-- A new row beside. -/
theorem TiG.newE {y : Rw} (h : TiG w W p As ns cs At ct kb N cur hs S E Lv) (hb : Below W.heap.size W W') (hy : y.own W' W.heap.size) : TiG w W' p As ns cs At ct kb N cur hs S (y :: E) Lv := by
  have h1 := h.keep hb
  refine ⟨h1.bel, h1.mr, h1.tab, ⟨fun z hz => ?_, List.pairwise_cons.2 ⟨fun z hz => ?_, h1.fam.ap⟩⟩, h1.ls⟩
  · rcases List.mem_cons.1 hz with rfl | hz
    · exact own_lower hy h.bel.size
    · exact h1.fam.own z hz
  · have := own_apart (h.fam.own z hz) hy (Nat.le_refl _)
    rcases this with h1 | h1
    · exact .inl h1
    · exact .inr (.inr h1)
theorem TiG.dropE {x : Rw} (h : TiG w W p As ns cs At ct kb N cur hs S (x :: E) Lv) : TiG w W p As ns cs At ct kb N cur hs S E Lv := ⟨h.bel, h.mr, h.tab, Fam.tail' (F := [x]) h.fam, h.ls⟩
/-- The first row beside is among the maker's. -/
theorem TiG.tail (h : TiG w W p As ns cs At ct kb N cur hs S E Lv) : Fam W w.heap.size S := Fam.tail' h.fam
/-- The arcs grow. -/
theorem TiG.growC {y : GRow} (h : TiG w W p As ns cs At ct kb N cur hs S E Lv) (hw : Tab w) (hg : W.grownBy W' cur.v.ownBlock) (hy : y.own W' w.heap.size 63 3) (hm : y.v.ownBlock = cur.v.ownBlock ∨ ∃ g, y.v.ownBlock = some g ∧ W.heap.size ≤ g) : TiG w W' p As ns cs At ct kb N y hs S E Lv := by
  have ho : W.ownsRow w.heap.size 63 3 cur.v cur.n cur.xs := h.mr.g.arcs.own cur (List.mem_cons_self ..)
  have hbl := h.bel.grown hg h.bel.size (fun r hr => (ho.lt r hr).1)
  have hm' := h.mr.g
  refine ⟨hbl, ⟨⟨blk_kept ho hg hm'.blk (by decide), hm'.plo, Nat.le_trans hm'.bsz hg.size, hm'.st.kept hg (own_types ho hm'.st (by decide)), hm'.se.kept hg (own_types ho hm'.se (by decide)), hm'.kn.kept hg (fun e' => by
    rcases row_not_map' ho hm'.kn with h1 | h1
    · rw [h1] at e'; cases e'
    · exact h1 e'.symm), hm'.klo, ⟨fun x hx => (hm'.fam.own x hx).kept hg (own_types ho (hm'.fam.own x hx) (by decide)), hm'.fam.ap⟩, hm'.arcs.head hg hy hm⟩, h.mr.hl, h.mr.sl, h.mr.kno, h.mr.pos⟩, tab_of hw hbl, ⟨fun x hx => (h.fam.own x hx).kept hg (own_types ho (h.fam.own x hx) (by decide)), h.fam.ap⟩, h.ls.kept hg (own_types ho h.ls (by decide))⟩
/-- The lists grow. -/
theorem TiG.growL {y : GRow} (h : TiG w W p As ns cs At ct kb N cur hs S E Lv) (hw : Tab w) (hg : W.grownBy W' Lv.v.ownBlock) (hy : y.own W' w.heap.size 22 1) : TiG w W' p As ns cs At ct kb N cur hs S E y := by
  have ho := h.ls
  have hbl := h.bel.grown hg h.bel.size (fun r hr => (ho.lt r hr).1)
  have hm' := h.mr.g
  exact ⟨hbl, ⟨⟨blk_kept ho hg hm'.blk (by decide), hm'.plo, Nat.le_trans hm'.bsz hg.size, hm'.st.kept hg (own_types ho hm'.st (by decide)), hm'.se.kept hg (own_types ho hm'.se (by decide)), hm'.kn.kept hg (fun e' => by
    rcases row_not_map' ho hm'.kn with h1 | h1
    · rw [h1] at e'; cases e'
    · exact h1 e'.symm), hm'.klo, ⟨fun x hx => (hm'.fam.own x hx).kept hg (own_types ho (hm'.fam.own x hx) (by decide)), hm'.fam.ap⟩, hm'.arcs.kept hg fun x hx => own_types ho (hm'.arcs.own x hx) (by decide)⟩, h.mr.hl, h.mr.sl, h.mr.kno, h.mr.pos⟩, tab_of hw hbl, ⟨fun x hx => (h.fam.own x hx).kept hg (own_types ho (h.fam.own x hx) (by decide)), h.fam.ap⟩, hy⟩
theorem TiG.newL (h : TiG w W p As ns cs At ct kb N cur hs S E Lv) : TiG w W p As ns cs At ct kb N cur hs S E GRow.nil := ⟨h.bel, h.mr, h.tab, h.fam, GRow.own_nil _ _ _ _⟩
theorem Fam.turn' {b : Nat} {x : Rw} {F G : List Rw} (h : Fam W b (x :: (F ++ G))) : Fam W b (F ++ (G ++ [x])) := by
  obtain ⟨h1, h2⟩ := List.pairwise_cons.1 h.ap
  rw [← List.append_assoc]
  refine ⟨fun z hz => h.own z ?_, List.pairwise_append.2 ⟨h2, List.pairwise_singleton _ _, fun z hz u hu => ?_⟩⟩
  · rcases List.mem_append.1 hz with hz | hz
    · exact List.mem_cons_of_mem _ hz
    · rw [List.mem_singleton.1 hz]; exact List.mem_cons_self ..
  · rw [List.mem_singleton.1 hu]
    exact (h1 z hz).symm
/-- What the maker's step has done. -/
theorem TiG.old {x : Rw} (h : TiG w W p As ns cs At ct kb N cur hs S (x :: E) Lv) (hk : MkKeep w.heap.size W W') (ht : Tab W') (hm : MkR W' w.heap.size p As ns cs At ct kb N cur hs S) : TiG w W' p As ns cs At ct kb N cur hs S E Lv :=
  ⟨h.bel.trans hk.bel, hm, ht, Fam.tail' (F := [x]) (hk.fam h.fam), hk.row h.ls (by decide) (by decide) (by decide)⟩
theorem TiG.new {x : Rw} {As' At' : Option Addr} {cs' ct' : Nat} {N' : DataW Unit} {y : Sh} (h : TiG w W p As ns cs At ct kb N cur hs S (x :: E) Lv) (hk : MkKeep w.heap.size W W') (ht : Tab W') (hm : MkR W' w.heap.size p As' (ns + 1) cs' At' ct' kb N' cur (hs ++ [y]) (S ++ [x])) : TiG w W' p As' (ns + 1) cs' At' ct' kb N' cur (hs ++ [y]) (S ++ [x]) E Lv :=
  ⟨h.bel.trans hk.bel, hm, ht, Fam.turn' (hk.fam h.fam), hk.row h.ls (by decide) (by decide) (by decide)⟩
/-- A cell of the states is set: a state's finality. -/
theorem TiG.setS {x y : Sh} {i j g : Nat} {v : Value} (h : TiG w W p As ns cs At ct kb N cur hs S E Lv) (hw : Tab w) (hA : As = some ⟨g, 0, none⟩) (hx : hs[i]? = some x) (hj : j < 2) (hy : y.hdr = x.hdr.set j v) {cur' : GRow} (ha : GFam W w.heap.size 63 3 (cur' :: (hs.set i y).map Sh.row)) :
    TiG w (W.setCell ⟨g, i * 2 + j, none⟩ v) p As ns cs At ct kb N cur' (hs.set i y) S E Lv ∧ W.frozen? ⟨g, i * 2 + j, none⟩ = false ∧ g < W.heap.size := by
  subst hA
  obtain ⟨q1, q2, cc, q3⟩ := own_blk h.mr.g.st
  have hbl := below_set (j := i * 2 + j) (u := v) h.bel q1 (Nat.le_refl _)
  have hm' := h.mr.g
  have hpg : p ≠ g := fun e => by
    subst e
    have h1 := hm'.blk
    rw [q3] at h1
    injection h1 with h1
    injection h1 with _ h1 _
    exact absurd h1 (by decide)
  refine ⟨⟨hbl, ⟨⟨blk_other hm'.blk hpg, hm'.plo, by simpa [World.setCell] using hm'.bsz, ?_, own_other hm'.se q3 (by decide), hm'.kn.kept (set_grown _ _ _) (fun e => map_not_cells hm'.kn q3 (by injection e with e; exact e.symm)), hm'.klo, hm'.fam.other q3 (by decide), ⟨fun z hz => own_other (ha.own z hz) q3 (by decide), ha.ap⟩⟩, by rw [List.length_set]; exact h.mr.hl, h.mr.sl, h.mr.kno, h.mr.pos⟩, tab_of hw hbl, h.fam.other q3 (by decide), own_other h.ls q3 (by decide)⟩, free_at q3 _, q2⟩
  have := own_put (j := i * 2 + j) (u := v) hm'.st
  rw [flat_set (f := Sh.hdr) (m := 2) (fun _ => rfl) hx hj hy] at this
  exact this
/-- The arcs become those of a state. -/
theorem GFam.place {b e s : Nat} {F : List GRow} {i : Nat} (h : GFam W b e s (cur :: F)) (hi : F[i]? = some GRow.nil) : GFam W b e s (GRow.nil :: F.set i cur) := by
  rw [set_split hi]
  have hF := split_at hi
  have hp : (cur :: F).Perm (GRow.nil :: (F.take i ++ cur :: F.drop (i + 1))) := by
    conv => lhs; rw [hF]
    exact ((List.Perm.cons cur List.perm_middle).trans (List.Perm.swap _ _ _)).trans (List.Perm.cons _ List.perm_middle.symm)
  exact ⟨fun z hz => h.own z (hp.mem_iff.2 hz), (hp.pairwise_iff fun h => GAp.symm h).1 h.ap⟩
end
end Go.Proofs.YtclahhkcbkpofaaDoor
/- dfa.free. -/
namespace Go.Proofs.YtclahhkcbkpofaaDoor
open Go.RowKit
theorem own_raise {W : World} {b b' e s n : Nat} {v : Value} {xs : List Value} (h : W.ownsRow b e s v n xs) (hb : ∀ q, v.ownBlock = some q → b' ≤ q) : W.ownsRow b' e s v n xs := by
  refine ⟨h.1, ?_⟩
  rcases h.2 with hn | ⟨g, cap, cur, rfl, hg, rest⟩
  · exact .inl hn
  · exact .inr ⟨g, cap, cur, rfl, hb g rfl, rest⟩
theorem grown_trans {a b c : World} {r : Option Nat} {r' : Option Nat} (h : a.grownBy b r) (h' : b.grownBy c r') (hr : ∀ q, r' = some q → some q = r ∨ a.heap.size ≤ q) : a.grownBy c r :=
  ⟨h'.os.trans h.os, h'.tape.trans h.tape, h'.output.trans h.output, Nat.le_trans h.size h'.size, fun k hk hne => (h'.block k (Nat.lt_of_lt_of_le hk h.size) (fun e => by
    rcases hr k e.symm with h1 | h1
    · exact hne h1
    · omega)).trans (h.block k hk hne)⟩
theorem grown_below' {a b : World} {B : Nat} {r : Option Nat} (h : a.grownBy b r) (hB : B ≤ a.heap.size) (hr : ∀ q, r = some q → B ≤ q) : Below B a b := (Below.refl B a).grown h hB hr
structure FrR (w W : World) (v0 : Option Nat) (n : Nat) (L : List Bool) (O F : Rw) : Prop where
  gb : w.grownBy W v0
  llen : L.length = n
  seen : W.ownsRow w.heap.size 4 1 (.slice (some ⟨w.heap.size, 0, none⟩) n n) n (L.map .bool)
  fam : Fam W 0 [O, F]
  olo : ∀ q, O.val.ownBlock = some q → w.heap.size ≤ q
  flo : ∀ q, F.val.ownBlock = some q → some q = v0 ∨ w.heap.size ≤ q
section
variable {w W W' : World} {v0 : Option Nat} {n : Nat} {L : List Bool} {O F : Rw}
theorem FrR.ro (h : FrR w W v0 n L O F) : O.own W 0 := h.fam.own O (List.mem_cons_self ..)
theorem FrR.rf (h : FrR w W v0 n L O F) : F.own W 0 := h.fam.own F (by simp)
theorem FrR.outAt (h : FrR w W v0 n L O F) {t : Nat} {b : Bool} (hf : L[t]? = some b) : W.cell? ⟨w.heap.size, t, none⟩ = some (.bool b) := own_cell h.seen (by rw [List.getElem?_map, hf]; rfl)
theorem FrR.setO (h : FrR w W v0 n L O F) {t : Nat} : FrR w (W.setCell ⟨w.heap.size, t, none⟩ (.bool true)) v0 n (L.set t true) O F ∧ W.frozen? ⟨w.heap.size, t, none⟩ = false ∧ w.heap.size < W.heap.size := by
  obtain ⟨q1, q2, cs, q3⟩ := own_blk h.seen
  refine ⟨⟨grown_trans h.gb (set_grown _ _ _) (fun q hq => .inr (by injection hq with hq; have hq : w.heap.size = q := hq; omega)), by rw [List.length_set]; exact h.llen, ?_, h.fam.other q3 (by decide), h.olo, h.flo⟩, free_at q3 _, q2⟩
  rw [List.map_set]
  exact own_put h.seen
theorem FrR.growO (h : FrR w W v0 n L O F) {y : Rw} (hg : W.grownBy W' O.val.ownBlock) (hy : y.own W' 0) (hm : y.val.ownBlock = O.val.ownBlock ∨ ∃ g, y.val.ownBlock = some g ∧ W.heap.size ≤ g) : FrR w W' v0 n L y F :=
  ⟨grown_trans h.gb hg (fun q hq => .inr (h.olo q hq)), h.llen, h.seen.kept hg (own_types h.ro h.seen (by decide)), h.fam.set (t := 0) rfl hg hy hm, fun q hq => by
    rcases hm with h1 | ⟨g, h1, h2⟩
    · exact h.olo q (by rw [← h1]; exact hq)
    · rw [h1] at hq
      injection hq with hq
      have := h.gb.size
      omega, h.flo⟩
theorem FrR.growF (h : FrR w W v0 n L O F) {y : Rw} (hg : W.grownBy W' F.val.ownBlock) (hy : y.own W' 0) (hm : y.val.ownBlock = F.val.ownBlock ∨ ∃ g, y.val.ownBlock = some g ∧ W.heap.size ≤ g) : FrR w W' v0 n L O y :=
  ⟨grown_trans h.gb hg (fun q hq => h.flo q hq), h.llen, h.seen.kept hg (own_types h.rf h.seen (by decide)), h.fam.set (t := 1) rfl hg hy hm, h.olo, fun q hq => by
    rcases hm with h1 | ⟨g, h1, h2⟩
    · exact h.flo q (by rw [← h1]; exact hq)
    · rw [h1] at hq
      injection hq with hq
      have := h.gb.size
      exact .inr (by omega)⟩
theorem FrR.cutF (h : FrR w W v0 n L O F) {A : Option Addr} {c : Nat} {l : List Int} {x : Int} (hT : F = ⟨A, c, l ++ [x]⟩) : FrR w W v0 n L O ⟨A, c, l⟩ := by
  subst hT
  have hr := h.rf
  have hv : (Rw.val ⟨A, c, l⟩).ownBlock = (Rw.val ⟨A, c, l ++ [x]⟩).ownBlock := by cases A <;> rfl
  refine ⟨h.gb, h.llen, h.seen, ⟨fun z hz => ?_, ?_⟩, h.olo, fun q hq => h.flo q (by rw [← hv]; exact hq)⟩
  · rcases List.mem_cons.1 hz with rfl | hz
    · exact h.ro
    · rw [List.mem_singleton.1 hz]
      have hr' : W.ownsRow 0 3 1 (.slice A (l ++ [x]).length c) (l ++ [x]).length ((l ++ [x]).map (.int .i64)) := hr
      have := own_cut (k := l.length) hr' (by simp) (fun e => by
        rcases hr'.2 with ⟨_, h0⟩ | ⟨g, _, _, hv, _⟩
        · simp at h0
        · injection hv with hv _ _
          rw [e] at hv
          cases hv)
      rw [Nat.mul_one, List.map_append, List.take_left' (by simp)] at this
      exact this
  · have h1 := (List.pairwise_cons.1 h.fam.ap).1 _ (List.mem_singleton.2 rfl)
    refine List.pairwise_cons.2 ⟨fun z hz => ?_, List.pairwise_singleton _ _⟩
    rw [List.mem_singleton.1 hz]
    unfold Ap at h1 ⊢
    rw [hv]
    exact h1
end
theorem FrR.start {w : World} {n fb p cf : Nat} {Af : Option Addr} {F0 : List Int} (hn : n ≤ 20000) (h : w.ownsRow fb 3 1 (.slice Af p cf) p (F0.map (.int .i64))) :
    FrR w ((w.alloc (.cells (madeCells #[.bool false] n) 4)).alloc (.cells #[] 3)) (Value.slice Af p cf).ownBlock n (List.replicate n false) ⟨some ⟨w.heap.size + 1, 0, none⟩, 0, []⟩ ⟨Af, cf, F0⟩ := by
  have hp : F0.length = p := by simpa using h.1
  have hv : (Rw.val ⟨Af, cf, F0⟩) = .slice Af p cf := by show Value.slice _ _ _ = _; rw [hp]
  have b0 := bnew (brefl w) (.cells (madeCells #[.bool false] n) 4)
  refine ⟨World.grownBy.trans (World.grownBy_alloc w _ _) (World.grownBy_alloc _ _ _), by simp, ?_, ⟨fun z hz => ?_, ?_⟩, fun q hq => ?_, fun q hq => ?_⟩
  · rw [List.map_replicate]
    exact own_kept (own_made w (.bool false) n (by omega) 4 rfl (Nat.le_refl _)) (bnew (brefl _) _)
  · rcases List.mem_cons.1 hz with rfl | hz
    · exact own_lit (w.alloc (.cells (madeCells #[.bool false] n) 4)) 3 1 (by simp) (Nat.zero_le _)
    · rw [List.mem_singleton.1 hz]
      show World.ownsRow _ _ _ _ (Rw.val _) _ _
      rw [hv]
      show World.ownsRow _ _ _ _ _ F0.length _
      rw [hp]
      exact own_lower (own_kept h (bnew (bnew (brefl w) _) _)) (Nat.zero_le _)
  · refine List.pairwise_cons.2 ⟨fun z hz => ?_, List.pairwise_singleton _ _⟩
    rw [List.mem_singleton.1 hz]
    cases hb : (Rw.val ⟨Af, cf, F0⟩).ownBlock with
    | none => exact .inr (.inl hb)
    | some q =>
      refine .inr (.inr ?_)
      rw [hb]
      rw [hv] at hb
      have := (h.lt q hb).2
      show some (w.heap.size + 1) ≠ some q
      intro e
      injection e with e
      omega
  · have : some (w.heap.size + 1) = some q := hq
    injection this with this
    omega
  · rw [hv] at hq
    exact .inl hq.symm
set_option maxRecDepth 100000 in
set_option maxHeartbeats 8000000 in
theorem free_any (w : World) (B : Nat) (hB : B ≤ w.heap.size) (A : Option Addr) (n c : Nat) (H : List Lsh) (h : LoIn w B A n c H) (hn : n ≤ 20000) (hg : LGood (H.map (·.d))) (fb : Nat) (hfb : B ≤ fb) (Af : Option Addr) (p cf : Nat) (F0 : List Int) (hown : w.ownsRow fb 3 1 (.slice Af p cf) p (F0.map (.int .i64))) (hp : p ≤ 1099511627776) (hF : ∀ y ∈ F0, 0 ≤ y ∧ y < (n : Int)) :
    Calls Tryd.prog 39 #[.slice A n c, .slice Af p cf] w fun e w' => ∃ (A' : Option Addr) (q c' : Nat), e = .returned (.slice A' q c') ∧ w'.ownsRow w.heap.size 3 1 (.slice A' q c') q ((setL n (Clo (H.map (·.d)) fun x => ((x : Nat) : Int) ∈ F0)).map (.int .i64)) ∧ w.grownBy w' (Value.slice Af p cf).ownBlock := by
  have HS := Lib.hid h
  have hlen := h.len
  have HST := Lib.hid (FrR.start hn hown)
  have hpl : F0.length = p := by simpa using hown.1
  have HV0 : Hid (∀ q, (Value.slice Af p cf).ownBlock = some q → B ≤ q) := fun q hq => Nat.le_trans hfb (hown.lt q hq).1
  obtain ⟨l, hl⟩ : ∃ l, H.map (·.d) = l := ⟨_, rfl⟩
  have HD := Lib.hid hl
  rw [hl] at hg
  rw [hl]
  have HG := Lib.hid hg
  have hll : l.length = n := by rw [← hl, List.length_map]; exact hlen
  have HLL := Lib.hid hll
  have HFS : Hid (FreP l F0 (List.replicate n false) [] F0) := by
    rw [← hll]
    exact FreP.start fun y hy => ⟨y.toNat, by have := hF y hy; omega, by have := hF y hy; omega⟩
  have HFR : Hid (∀ s ∈ l, s.free.length ≤ 2097152) := fun s hs => by
    rw [← hl] at hs
    obtain ⟨x, hx, rfl⟩ := List.mem_map.1 hs
    exact (h.fr x hx).2.2.1
  have HMU : Hid (mu l (List.replicate n false) + F0.length ≤ 2000000000000) := by
    have h1 := mu_le (L := List.replicate n false) HFR.out
    rw [hll] at h1
    show _ ≤ _
    omega
  have HPL := Lib.hid hpl
  have i0 : (0 : Int) ≤ (n : Int) := by omega
  have m2 := fun w => make_bool n (by omega) w
  generalize (Value.slice Af p cf).ownBlock = v0 at *
  clear h hg hown hl hll hpl hF
  go_enter Tryd.func39, Tryd.ntmps39
  go_wp2_with fail
  clear m2
  go_loopg [1, 6] (mu l (List.replicate n false) + F0.length) (fun gk fv ov wr => ∃ (L : List Bool) (Af : Option Addr) (p cf : Nat) (F : List Int) (Ao : Option Addr) (q co : Nat) (O : List Int), fv = .slice Af p cf ∧ ov = .slice Ao q co ∧ Hid (p = F.length ∧ q = O.length ∧ FrR w wr v0 n L ⟨Ao, co, O⟩ ⟨Af, cf, F⟩) ∧ Hid (FreP l F0 L O F ∧ mu l L + F.length ≤ gk ∧ mu l L + F.length ≤ 2000000000000))
  case atStart => exact ⟨_, Af, p, cf, F0, _, 0, 0, [], rfl, rfl, ⟨HPL.out.symm, rfl, HST.out⟩, HFS.out, Nat.le_refl _, HMU.out⟩
  case round =>
    clear HST HFS HMU HPL
    obtain ⟨L, Af, p, cf, F, Ao, q, co, O, rfl, rfl, HR, HP⟩ := hrel
    by_cases hp0 : p = 0
    · subst hp0
      have hF : F = [] := List.eq_nil_of_length_eq_zero HR.out.1.symm
      have HOR : Hid (wr.ownsRow w.heap.size 3 1 (.slice Ao q co) q (O.map (.int .i64))) := by
        rw [HR.out.2.1]
        exact own_raise HR.out.2.2.ro HR.out.2.2.olo
      have hq : q ≤ n := by rw [HR.out.2.1, ← HLL.out]; exact HP.out.1.few
      have HLS : Hid (sorted O = setL n (Clo l fun x => ((x : Nat) : Int) ∈ F0)) := by
        have h1 := HP.out.1
        rw [hF] at h1
        rw [← HLL.out]
        exact h1.last
      clear HP hF
      go_wp2_with fail
      refine (sort_own HOR.out (by omega)).mono ?_
      rintro e w7 ⟨rfl, hown7, hg7⟩
      have HO7 := Lib.hid hown7
      have HG7 := Lib.hid hg7
      clear hown7 hg7
      go_wp2_with fail
      go_ret
      exact ⟨Ao, q, co, rfl, by rw [← HLS.out]; exact HO7.out, grown_trans HR.out.2.2.gb HG7.out fun r hr => .inr (HOR.out.lt r hr).1⟩
    · obtain ⟨p', rfl⟩ : ∃ q, p = q + 1 := ⟨p - 1, by omega⟩
      have hpb : p' + 1 ≤ 2000000000000 := by have := HP.out.2.2; rw [HR.out.1]; omega
      obtain ⟨F', y, rfl⟩ : ∃ F' y, F = F' ++ [y] := ⟨F.dropLast, F.getLast (fun e => by have := HR.out.1; rw [e] at this; cases this), (List.dropLast_concat_getLast _).symm⟩
      have hp' : p' = F'.length := by have := HR.out.1; rw [List.length_append, List.length_singleton] at this; omega
      have HP' := Lib.hid hp'
      obtain ⟨x, rfl, hxl, _⟩ := HP.out.1.fin y (by simp)
      rw [HLL.out] at hxl
      have hrow : wr.ownsRow 0 3 1 (.slice Af (p' + 1) cf) (p' + 1) ((F' ++ [(x : Int)]).map (.int .i64)) := by rw [HR.out.1]; exact HR.out.2.2.rf
      obtain ⟨tg, rfl, _, htl⟩ := own_head hrow (by omega)
      have ht0 := own_cell (j := p') (u := .int .i64 (x : Int)) hrow (by rw [List.map_append, List.getElem?_append_right (by rw [List.length_map]; omega), List.length_map, hp', Nat.sub_self]; rfl)
      have htc := (own_shape hrow)
      have htcc : p' + 1 ≤ cf := by
        obtain ⟨A1, c1, e1, h1⟩ := htc
        injection e1 with _ _ e1
        omega
      have HRC := Lib.hid (HR.out.2.2.cutF rfl)
      obtain ⟨lv, hlv⟩ : ∃ b, L[x]? = some b := ⟨L[x]'(by rw [HRC.out.llen]; exact hxl), List.getElem?_eq_getElem _⟩
      have ho0 := HRC.out.outAt hlv
      have hol := (own_blk HRC.out.seen).2.1
      have HQ0 := Lib.hid HR.out.2.1
      have HFEW : Hid (mu l L + F'.length + 1 ≤ gk ∧ mu l L + F'.length ≤ 2000000000000) := by have h1 := HP.out.2.1; have h2 := HP.out.2.2; rw [List.length_append, List.length_singleton] at h1 h2; exact ⟨by omega, by omega⟩
      have HFP := Lib.hid HP.out.1
      have i1 : (0 : Int) ≤ (x : Int) := by omega
      have i2 : (x : Int) < (n : Int) := by omega
      have hqo : q ≤ n := by rw [HR.out.2.1, ← HLL.out]; exact HP.out.1.few
      have HLV := Lib.hid hlv
      clear hrow htc HP HR hp' hlv
      cases lv with
      | true =>
        have HFN := Lib.hid (HFP.out.skip HLV.out)
        go_wp2_with fail
        go_roundg (mu l L + F'.length)
        case rel => exact ⟨L, _, p', cf, F', Ao, q, co, O, rfl, rfl, ⟨HP'.out, HQ0.out, HRC.out⟩, HFN.out, Nat.le_refl _, HFEW.out.2⟩
        case measure => have := HFEW.out.1; omega
      | false =>
        obtain ⟨X, hX⟩ : ∃ X, H[x]? = some X := ⟨H[x]'(by omega), List.getElem?_eq_getElem _⟩
        have hlx : l[x]? = some X.d := by rw [← HD.out, List.getElem?_map, hX]; rfl
        have hXm := List.mem_of_getElem? hX
        have HLK := Lib.hid hlx
        have HFN := Lib.hid (HFP.out.take HG.out HLV.out hlx)
        have hmu := mu_set hlx HLV.out
        obtain ⟨m, hm⟩ : ∃ m, X.d.free.length = m := ⟨_, rfl⟩
        have hm20 := (HS.out.fr X hXm).2.2.1
        have hme := (HS.out.fr X hXm).2.1
        have hmn := (HS.out.fr X hXm).2.2.2
        rw [hm] at hmu hm20 hme hmn
        have HMN := Lib.hid hmn
        have HML := Lib.hid hm
        have HSO := Lib.hid (HRC.out.setO (t := x))
        have hof := HSO.out.2.1
        have HBX := Lib.hid (grown_below' HSO.out.1.gb hB HV0.out)
        have HSX := Lib.hid (HS.out.keep HBX.out (Nat.le_refl _))
        obtain ⟨hb, hoff, rfl, hhb, hcell⟩ := HSX.out.at_ (by omega)
        have s2 := (hcell x X hX).2.2
        rw [hm] at s2
        have HFSL : Hid (Sl (wr.setCell ⟨w.heap.size, x, none⟩ (.bool true)) B 1 X.F m (X.d.free.map (.int .i64))) := by rw [← hm]; exact (HSX.out.fr X hXm).1
        have hhbw : hb < (wr.setCell ⟨w.heap.size, x, none⟩ (.bool true)).heap.size := Nat.lt_of_lt_of_le hhb (Nat.le_trans hB HSO.out.1.gb.size)
        have HRO : Hid ((wr.setCell ⟨w.heap.size, x, none⟩ (.bool true)).ownsRow 0 3 1 (.slice Ao q co) q (O.map (.int .i64))) := by rw [HQ0.out]; exact HSO.out.1.ro
        have HSF := Lib.hid HSO.out.1
        have HW0 : Hid (w.heap.size ≤ wr.heap.size) := HRC.out.gb.size
        clear hcell hX hlx hXm hmn hm HSO HFP HRC
        have HONE : Hid (∀ u ∈ X.d.free.map (Value.int .i64), u.oneCell' = true) := fun u hu => by obtain ⟨z, _, rfl⟩ := List.mem_map.1 hu; rfl
        have hbsz : B ≤ (wr.setCell ⟨w.heap.size, x, none⟩ (.bool true)).heap.size := Nat.le_trans hB HSF.out.gb.size
        go_wp2_with (first
          | (at_builtin; refine wpList_push (wr.setCell ⟨w.heap.size, x, none⟩ (.bool true)) (wr.setCell ⟨w.heap.size, x, none⟩ (.bool true)) _ rfl _ _ _ rfl el_int (.slice Ao q co) q (O.map (.int .i64)) rfl HRO.out rfl (by simp) rfl (by simp [Value.oneCell']) (by unfold maxLen; omega) (by omega) (Nat.zero_le _) (Below.refl _ _) ?_
             intro v8 w8 hown8 _ hg8 hor8
             obtain ⟨A8, c8, rfl, _⟩ := own_shape hown8
             have hvo : (Rw.val ⟨Ao, co, O⟩) = .slice Ao q co := by show Value.slice _ _ _ = _; rw [HQ0.out]
             have HVN : Hid ((Rw.mk A8 c8 (O ++ [(x : Int)])).val = .slice A8 (q + 1) c8) := by show Value.slice _ _ _ = _; rw [List.length_append, HQ0.out]; rfl
             have HR8 := Lib.hid (HSF.out.growO (y := ⟨A8, c8, O ++ [(x : Int)]⟩) (by rw [hvo]; exact hg8) (by
               have e1 : (O ++ [(x : Int)]).length = q + 1 := by rw [List.length_append, HQ0.out]; rfl
               have e2 : (O ++ [(x : Int)]).map (Value.int .i64) = O.map (.int .i64) ++ [.int .i64 (x : Int)] := by rw [List.map_append]; rfl
               show World.ownsRow _ _ _ _ (.slice _ _ _) _ _
               rw [e1, e2]
               exact hown8) (by rw [hvo, HVN.out]; exact hor8))
             have hb8 := grown_below' hg8 hbsz (fun r hr => Nat.le_trans hB (HSF.out.olo r (by rw [hvo]; exact hr)))
             have s8 := (hb8.cell (p := ⟨hb, hoff + x * 3 + 2, none⟩) hhb).trans s2
             have HF8S := Lib.hid (HFSL.out.below hb8)
             have hhb8 : hb < w8.heap.size := Nat.lt_of_lt_of_le hhbw hg8.size
             have HF8 : Hid (w8.ownsRow 0 3 1 (.slice (some ⟨tg, 0, none⟩) p' cf) p' (F'.map (.int .i64))) := by rw [HP'.out]; exact HR8.out.rf
             clear hown8 hg8 hor8 hb8 s2 hvo)
          | (at_builtin; refine wpList_append_sl w8 w8 rfl _ _ _ rfl el_int (.slice (some ⟨tg, 0, none⟩) p' cf) p' (F'.map (.int .i64)) rfl HF8.out (A := X.F) (m := m) (c := X.e) rfl HF8S.out HMN.out HONE.out (by unfold maxLen; omega) (by omega) (Nat.zero_le _) (Below.refl _ _) ?_
             intro v9 w9 hown9 _ hg9 hor9
             obtain ⟨A9, c9, rfl, _⟩ := own_shape hown9
             have HO9 := Lib.hid hown9
             have HG9 := Lib.hid hg9
             have HOR9 := Lib.hid hor9
             clear hown9 hg9 hor9))
        have HVF : Hid ((Rw.mk (some ⟨tg, 0, none⟩) cf F').val = .slice (some ⟨tg, 0, none⟩) p' cf) := by show Value.slice _ _ _ = _; rw [HP'.out]
        have HLN : Hid (p' + m = (F' ++ X.d.free).length) := by show _ = _; rw [List.length_append, HP'.out, HML.out]
        have HVG : Hid ((Rw.mk A9 c9 (F' ++ X.d.free)).val = .slice A9 (p' + m) c9) := by show Value.slice _ _ _ = _; rw [HLN.out]
        have HR9 := Lib.hid (HR8.out.growF (W' := w9) (y := ⟨A9, c9, F' ++ X.d.free⟩) (by rw [HVF.out]; exact HG9.out) (by
          show World.ownsRow _ _ _ _ (.slice _ _ _) _ _
          rw [← HLN.out, List.map_append]
          exact HO9.out) (by rw [HVF.out, HVG.out]; exact HOR9.out))
        have HQN : Hid (q + 1 = (O ++ [(x : Int)]).length) := by show _ = _; rw [List.length_append, HQ0.out]; rfl
        have HME : Hid (mu l (L.set x true) + (F' ++ X.d.free).length + 1 ≤ mu l L + F'.length + 1 ∧ mu l (L.set x true) + (F' ++ X.d.free).length ≤ 2000000000000) := by
          have := HFEW.out.2
          rw [← HLN.out]
          have := HP'.out
          exact ⟨by omega, by omega⟩
        clear HO9 HG9 HOR9 HR8 HF8 HF8S s8 HSF HRO
        go_wp2_with fail
        go_roundg (mu l (L.set x true) + (F' ++ X.d.free).length)
        case rel => exact ⟨_, A9, p' + m, c9, F' ++ X.d.free, A8, q + 1, c8, O ++ [(x : Int)], rfl, rfl, ⟨HLN.out, HQN.out, HR9.out⟩, HFN.out, Nat.le_refl _, HME.out.2⟩
        case measure => have := HFEW.out.1; have := HME.out.1; omega
end Go.Proofs.YtclahhkcbkpofaaDoor
