/- A maker, and rows beside it. -/
import Derived.Test.YtclahhkcbkpofaaDoorHFuz44
import Derived.Test.YtclahhkcbkpofaaDoorHFuz17
namespace Go.Proofs.YtclahhkcbkpofaaDoor
open Go.RowKit Go.Maps

theorem flat_set {α : Type} {f : α → List Value} {m : Nat} (hf : ∀ x, (f x).length = m) : ∀ {l : List α} {i j : Nat} {x y : α} {v : Value}, l[i]? = some x → j < m → f y = (f x).set j v → (l.flatMap f).set (i * m + j) v = (l.set i y).flatMap f
  | a :: r, 0, j, x, y, v, h, hj, hy => by
    simp at h
    subst h
    rw [Nat.zero_mul, Nat.zero_add, List.set_cons_zero, List.flatMap_cons, List.flatMap_cons, List.set_append_left _ _ (by rw [hf]; exact hj), hy]
  | a :: r, i + 1, j, x, y, v, h, hj, hy => by
    have ih := flat_set hf (l := r) (i := i) (j := j) (x := x) (y := y) (v := v) (by simpa using h) hj hy
    rw [List.set_cons_succ, List.flatMap_cons, List.flatMap_cons, List.set_append_right _ _ (by rw [hf, Nat.add_mul]; omega), hf, ← ih]
    congr 2
    rw [Nat.add_mul]
    omega
structure TiG (w W : World) (p : Nat) (As : Option Addr) (ns cs : Nat) (At : Option Addr) (ct kb : Nat) (N : DataW Unit) (cur : GRow) (hs : List Sh) (S : List Rw) (E : List Rw) (Lv : GRow) : Prop where
  bel : Below w.heap.size w W
  mr : MkR W w.heap.size p As ns cs At ct kb N cur hs S
  tab : Tab W
  fam : Fam W w.heap.size (E ++ S)
  ls : W.ownsRow w.heap.size 22 1 Lv.v Lv.n Lv.xs
section
variable {w W W' : World} {p : Nat} {As : Option Addr} {ns cs : Nat} {At : Option Addr} {ct kb : Nat} {N : DataW Unit} {cur : GRow} {hs : List Sh} {S E : List Rw} {Lv : GRow}
theorem TiG.keep (h : TiG w W p As ns cs At ct kb N cur hs S E Lv) (hb : Below W.heap.size W W') : TiG w W' p As ns cs At ct kb N cur hs S E Lv :=
  ⟨bcall h.bel hb, h.mr.keep hb, h.tab.below hb, h.fam.below hb, own_kept h.ls hb⟩
/-- What grows a row of numbers leaves the maker. -/
theorem mk_int (h : MkR W w.heap.size p As ns cs At ct kb N cur hs S) {b n : Nat} {v : Value} {xs : List Value} (ho : W.ownsRow b 3 1 v n xs) (hg : W.grownBy W' v.ownBlock) (hS : Fam W' w.heap.size S) : MkR W' w.heap.size p As ns cs At ct kb N cur hs S :=
  ⟨⟨blk_kept ho hg h.g.blk (by decide), h.g.plo, Nat.le_trans h.g.bsz hg.size, h.g.st.kept hg (own_types ho h.g.st (by decide)), h.g.se.kept hg (own_types ho h.g.se (by decide)), h.g.kn.kept hg (fun e' => by
    rcases row_not_map' ho h.g.kn with h1 | h1
    · rw [h1] at e'; cases e'
    · exact h1 e'.symm), h.g.klo, hS, h.g.arcs.kept hg fun x hx => own_types ho (h.g.arcs.own x hx) (by decide)⟩, h.hl, h.sl, h.kno, h.pos⟩
theorem Fam.tail' {b : Nat} {F G : List Rw} (h : Fam W b (F ++ G)) : Fam W b G := ⟨fun x hx => h.own x (List.mem_append_right _ hx), (List.pairwise_append.1 h.ap).2.1⟩
theorem tab_of (hw : Tab w) (hg : Below w.heap.size w W') : Tab W' := hw.below hg
/-- The first row beside grows. -/
theorem TiG.growE {x y : Rw} (h : TiG w W p As ns cs At ct kb N cur hs S (x :: E) Lv) (hw : Tab w) (hg : W.grownBy W' x.val.ownBlock) (hy : y.own W' w.heap.size) (hm : y.val.ownBlock = x.val.ownBlock ∨ ∃ g, y.val.ownBlock = some g ∧ W.heap.size ≤ g) : TiG w W' p As ns cs At ct kb N cur hs S (y :: E) Lv := by
  have hx := h.fam.own x (List.mem_cons_self ..)
  have hf : Fam W' w.heap.size ((y :: E) ++ S) := h.fam.set (t := 0) rfl hg hy hm
  have hbl := h.bel.grown hg h.bel.size (fun r hr => (hx.lt r hr).1)
  exact ⟨hbl, mk_int h.mr hx hg (Fam.tail' (F := y :: E) hf), tab_of hw hbl, hf, h.ls.kept hg (own_types hx h.ls (by decide))⟩
/-- A row beside is used up, and another comes. -/
theorem TiG.useE {x y : Rw} (h : TiG w W p As ns cs At ct kb N cur hs S (x :: E) Lv) (hw : Tab w) (hg : W.grownBy W' x.val.ownBlock) (hy : y.own W' W.heap.size) : TiG w W' p As ns cs At ct kb N cur hs S (y :: E) Lv := by
  have hx := h.fam.own x (List.mem_cons_self ..)
  obtain ⟨a1, a2⟩ := List.pairwise_cons.1 h.fam.ap
  have hf0 : Fam W' w.heap.size (E ++ S) := ⟨fun z hz => (h.fam.own z (List.mem_cons_of_mem _ hz)).kept hg (a1 z hz).symm.kept, a2⟩
  have hbl := h.bel.grown hg h.bel.size (fun r hr => (hx.lt r hr).1)
  refine ⟨hbl, mk_int h.mr hx hg (Fam.tail' hf0), tab_of hw hbl, ⟨fun z hz => ?_, List.pairwise_cons.2 ⟨fun z hz => ?_, a2⟩⟩, h.ls.kept hg (own_types hx h.ls (by decide))⟩
  · rcases List.mem_cons.1 hz with rfl | hz
    · exact own_lower hy h.bel.size
    · exact hf0.own z hz
  · have := own_apart (h.fam.own z (List.mem_cons_of_mem _ hz)) hy (Nat.le_refl _)
    rcases this with h1 | h1
    · exact .inl h1
    · exact .inr (.inr h1)
/-- A new row beside. -/
theorem TiG.newE {y : Rw} (h : TiG w W p As ns cs At ct kb N cur hs S E Lv) (hb : Below W.heap.size W W') (hy : y.own W' W.heap.size) : TiG w W' p As ns cs At ct kb N cur hs S (y :: E) Lv := by
  have h1 := h.keep hb
  refine ⟨h1.bel, h1.mr, h1.tab, ⟨fun z hz => ?_, List.pairwise_cons.2 ⟨fun z hz => ?_, h1.fam.ap⟩⟩, h1.ls⟩
  · rcases List.mem_cons.1 hz with rfl | hz
    · exact own_lower hy h.bel.size
    · exact h1.fam.own z hz
  · have := own_apart (h.fam.own z hz) hy (Nat.le_refl _)
    rcases this with h1 | h1
    · exact .inl h1
    · exact .inr (.inr h1)
theorem TiG.dropE {x : Rw} (h : TiG w W p As ns cs At ct kb N cur hs S (x :: E) Lv) : TiG w W p As ns cs At ct kb N cur hs S E Lv := ⟨h.bel, h.mr, h.tab, Fam.tail' (F := [x]) h.fam, h.ls⟩
/-- The first row beside is among the maker's. -/
theorem TiG.tail (h : TiG w W p As ns cs At ct kb N cur hs S E Lv) : Fam W w.heap.size S := Fam.tail' h.fam
/-- The arcs grow. -/
theorem TiG.growC {y : GRow} (h : TiG w W p As ns cs At ct kb N cur hs S E Lv) (hw : Tab w) (hg : W.grownBy W' cur.v.ownBlock) (hy : y.own W' w.heap.size 63 3) (hm : y.v.ownBlock = cur.v.ownBlock ∨ ∃ g, y.v.ownBlock = some g ∧ W.heap.size ≤ g) : TiG w W' p As ns cs At ct kb N y hs S E Lv := by
  have ho : W.ownsRow w.heap.size 63 3 cur.v cur.n cur.xs := h.mr.g.arcs.own cur (List.mem_cons_self ..)
  have hbl := h.bel.grown hg h.bel.size (fun r hr => (ho.lt r hr).1)
  have hm' := h.mr.g
  refine ⟨hbl, ⟨⟨blk_kept ho hg hm'.blk (by decide), hm'.plo, Nat.le_trans hm'.bsz hg.size, hm'.st.kept hg (own_types ho hm'.st (by decide)), hm'.se.kept hg (own_types ho hm'.se (by decide)), hm'.kn.kept hg (fun e' => by
    rcases row_not_map' ho hm'.kn with h1 | h1
    · rw [h1] at e'; cases e'
    · exact h1 e'.symm), hm'.klo, ⟨fun x hx => (hm'.fam.own x hx).kept hg (own_types ho (hm'.fam.own x hx) (by decide)), hm'.fam.ap⟩, hm'.arcs.head hg hy hm⟩, h.mr.hl, h.mr.sl, h.mr.kno, h.mr.pos⟩, tab_of hw hbl, ⟨fun x hx => (h.fam.own x hx).kept hg (own_types ho (h.fam.own x hx) (by decide)), h.fam.ap⟩, h.ls.kept hg (own_types ho h.ls (by decide))⟩
/-- The lists grow. -/
theorem TiG.growL {y : GRow} (h : TiG w W p As ns cs At ct kb N cur hs S E Lv) (hw : Tab w) (hg : W.grownBy W' Lv.v.ownBlock) (hy : y.own W' w.heap.size 22 1) : TiG w W' p As ns cs At ct kb N cur hs S E y := by
  have ho := h.ls
  have hbl := h.bel.grown hg h.bel.size (fun r hr => (ho.lt r hr).1)
  have hm' := h.mr.g
  exact ⟨hbl, ⟨⟨blk_kept ho hg hm'.blk (by decide), hm'.plo, Nat.le_trans hm'.bsz hg.size, hm'.st.kept hg (own_types ho hm'.st (by decide)), hm'.se.kept hg (own_types ho hm'.se (by decide)), hm'.kn.kept hg (fun e' => by
    rcases row_not_map' ho hm'.kn with h1 | h1
    · rw [h1] at e'; cases e'
    · exact h1 e'.symm), hm'.klo, ⟨fun x hx => (hm'.fam.own x hx).kept hg (own_types ho (hm'.fam.own x hx) (by decide)), hm'.fam.ap⟩, hm'.arcs.kept hg fun x hx => own_types ho (hm'.arcs.own x hx) (by decide)⟩, h.mr.hl, h.mr.sl, h.mr.kno, h.mr.pos⟩, tab_of hw hbl, ⟨fun x hx => (h.fam.own x hx).kept hg (own_types ho (h.fam.own x hx) (by decide)), h.fam.ap⟩, hy⟩
theorem TiG.newL (h : TiG w W p As ns cs At ct kb N cur hs S E Lv) : TiG w W p As ns cs At ct kb N cur hs S E GRow.nil := ⟨h.bel, h.mr, h.tab, h.fam, GRow.own_nil _ _ _ _⟩
theorem TiG.newC (h : TiG w W p As ns cs At ct kb N cur hs S E Lv) : TiG w W p As ns cs At ct kb N GRow.nil hs S E Lv :=
  ⟨h.bel, ⟨⟨h.mr.g.blk, h.mr.g.plo, h.mr.g.bsz, h.mr.g.st, h.mr.g.se, h.mr.g.kn, h.mr.g.klo, h.mr.g.fam, h.mr.g.arcs.tail.cons_nil⟩, h.mr.hl, h.mr.sl, h.mr.kno, h.mr.pos⟩, h.tab, h.fam, h.ls⟩
theorem Fam.turn' {b : Nat} {x : Rw} {F G : List Rw} (h : Fam W b (x :: (F ++ G))) : Fam W b (F ++ (G ++ [x])) := by
  obtain ⟨h1, h2⟩ := List.pairwise_cons.1 h.ap
  rw [← List.append_assoc]
  refine ⟨fun z hz => h.own z ?_, List.pairwise_append.2 ⟨h2, List.pairwise_singleton _ _, fun z hz u hu => ?_⟩⟩
  · rcases List.mem_append.1 hz with hz | hz
    · exact List.mem_cons_of_mem _ hz
    · rw [List.mem_singleton.1 hz]; exact List.mem_cons_self ..
  · rw [List.mem_singleton.1 hu]
    exact (h1 z hz).symm
/-- What the maker's step has done. -/
theorem TiG.old {x : Rw} (h : TiG w W p As ns cs At ct kb N cur hs S (x :: E) Lv) (hk : MkKeep w.heap.size W W') (ht : Tab W') (hm : MkR W' w.heap.size p As ns cs At ct kb N cur hs S) : TiG w W' p As ns cs At ct kb N cur hs S E Lv :=
  ⟨h.bel.trans hk.bel, hm, ht, Fam.tail' (F := [x]) (hk.fam h.fam), hk.row h.ls (by decide) (by decide) (by decide)⟩
theorem TiG.new {x : Rw} {As' At' : Option Addr} {cs' ct' : Nat} {N' : DataW Unit} {y : Sh} (h : TiG w W p As ns cs At ct kb N cur hs S (x :: E) Lv) (hk : MkKeep w.heap.size W W') (ht : Tab W') (hm : MkR W' w.heap.size p As' (ns + 1) cs' At' ct' kb N' cur (hs ++ [y]) (S ++ [x])) : TiG w W' p As' (ns + 1) cs' At' ct' kb N' cur (hs ++ [y]) (S ++ [x]) E Lv :=
  ⟨h.bel.trans hk.bel, hm, ht, Fam.turn' (hk.fam h.fam), hk.row h.ls (by decide) (by decide) (by decide)⟩
/-- A cell of the states is set: a state's finality. -/
theorem TiG.setS {x y : Sh} {i j g : Nat} {v : Value} (h : TiG w W p As ns cs At ct kb N cur hs S E Lv) (hw : Tab w) (hA : As = some ⟨g, 0, none⟩) (hx : hs[i]? = some x) (hj : j < 2) (hy : y.hdr = x.hdr.set j v) {cur' : GRow} (ha : GFam W w.heap.size 63 3 (cur' :: (hs.set i y).map Sh.row)) :
    TiG w (W.setCell ⟨g, i * 2 + j, none⟩ v) p As ns cs At ct kb N cur' (hs.set i y) S E Lv ∧ W.frozen? ⟨g, i * 2 + j, none⟩ = false ∧ g < W.heap.size := by
  subst hA
  obtain ⟨q1, q2, cc, q3⟩ := own_blk h.mr.g.st
  have hbl := below_set (j := i * 2 + j) (u := v) h.bel q1 (Nat.le_refl _)
  have hm' := h.mr.g
  have hpg : p ≠ g := fun e => by
    subst e
    have h1 := hm'.blk
    rw [q3] at h1
    injection h1 with h1
    injection h1 with _ h1 _
    exact absurd h1 (by decide)
  refine ⟨⟨hbl, ⟨⟨blk_other hm'.blk hpg, hm'.plo, by simpa [World.setCell] using hm'.bsz, ?_, own_other hm'.se q3 (by decide), hm'.kn.kept (set_grown _ _ _) (fun e => map_not_cells hm'.kn q3 (by injection e with e; exact e.symm)), hm'.klo, hm'.fam.other q3 (by decide), ⟨fun z hz => own_other (ha.own z hz) q3 (by decide), ha.ap⟩⟩, by rw [List.length_set]; exact h.mr.hl, h.mr.sl, h.mr.kno, h.mr.pos⟩, tab_of hw hbl, h.fam.other q3 (by decide), own_other h.ls q3 (by decide)⟩, free_at q3 _, q2⟩
  have := own_put (j := i * 2 + j) (u := v) hm'.st
  rw [flat_set (f := Sh.hdr) (m := 2) (fun _ => rfl) hx hj hy] at this
  exact this
/-- The arcs become those of a state. -/
theorem GFam.place {b e s : Nat} {F : List GRow} {i : Nat} (h : GFam W b e s (cur :: F)) (hi : F[i]? = some GRow.nil) : GFam W b e s (GRow.nil :: F.set i cur) := by
  rw [set_split hi]
  have hF := split_at hi
  have hp : (cur :: F).Perm (GRow.nil :: (F.take i ++ cur :: F.drop (i + 1))) := by
    conv => lhs; rw [hF]
    exact ((List.Perm.cons cur List.perm_middle).trans (List.Perm.swap _ _ _)).trans (List.Perm.cons _ List.perm_middle.symm)
  exact ⟨fun z hz => h.own z (hp.mem_iff.2 hz), (hp.pairwise_iff fun h => GAp.symm h).1 h.ap⟩
end
end Go.Proofs.YtclahhkcbkpofaaDoor
