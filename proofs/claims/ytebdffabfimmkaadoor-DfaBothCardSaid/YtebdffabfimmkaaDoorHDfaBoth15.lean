/- A maker, and rows beside it. -/
import Derived.Test.YtebdffabfimmkaaDoorHDfaBoth14
import Derived.Test.YtebdffabfimmkaaDoorHDfaBoth12
import Derived.Test.YtebdffabfimmkaaDoorHDfaBoth11
namespace Go.Proofs.YtebdffabfimmkaaDoor
open Go.RowKit Go.Maps

theorem flat_set {α : Type} {f : α → List Value} {m : Nat} (hf : ∀ x, (f x).length = m) : ∀ {l : List α} {i j : Nat} {x y : α} {v : Value}, l[i]? = some x → j < m → f y = (f x).set j v → (l.flatMap f).set (i * m + j) v = (l.set i y).flatMap f
  | a :: r, 0, j, x, y, v, h, hj, hy => by
    simp at h
    subst h
    rw [Nat.zero_mul, Nat.zero_add, List.set_cons_zero, List.flatMap_cons, List.flatMap_cons, List.set_append_left _ _ (by rw [hf]; exact hj), hy]
  | a :: r, i + 1, j, x, y, v, h, hj, hy => by
    have ih := flat_set hf (l := r) (i := i) (j := j) (x := x) (y := y) (v := v) (by simpa using h) hj hy
    rw [List.set_cons_succ, List.flatMap_cons, List.flatMap_cons, List.set_append_right _ _ (by rw [hf, Nat.add_mul]; omega), hf, ← ih]
    congr 2
    rw [Nat.add_mul]
    omega
structure TiG (w W : World) (p : Nat) (As : Option Addr) (ns cs : Nat) (At : Option Addr) (ct kb : Nat) (N : DataW Unit) (cur : GRow) (hs : List Sh) (S : List Rw) (E : List Rw) (Lv : GRow) : Prop where
  bel : Below w.heap.size w W
  mr : MkR W w.heap.size p As ns cs At ct kb N cur hs S
  tab : Tab W
  fam : Fam W w.heap.size (E ++ S)
  ls : W.ownsRow w.heap.size 37 1 Lv.v Lv.n Lv.xs
section
variable {w W W' : World} {p : Nat} {As : Option Addr} {ns cs : Nat} {At : Option Addr} {ct kb : Nat} {N : DataW Unit} {cur : GRow} {hs : List Sh} {S E : List Rw} {Lv : GRow}
theorem TiG.keep (h : TiG w W p As ns cs At ct kb N cur hs S E Lv) (hb : Below W.heap.size W W') : TiG w W' p As ns cs At ct kb N cur hs S E Lv :=
  ⟨bcall h.bel hb, h.mr.keep hb, h.tab.below hb, h.fam.below hb, own_kept h.ls hb⟩
/-- What grows a row of numbers leaves the maker. -/
theorem mk_int (h : MkR W w.heap.size p As ns cs At ct kb N cur hs S) {b n : Nat} {v : Value} {xs : List Value} (ho : W.ownsRow b 3 1 v n xs) (hg : W.grownBy W' v.ownBlock) (hS : Fam W' w.heap.size S) : MkR W' w.heap.size p As ns cs At ct kb N cur hs S :=
  ⟨⟨blk_kept ho hg h.g.blk (by decide), h.g.plo, Nat.le_trans h.g.bsz hg.size, h.g.st.kept hg (own_types ho h.g.st (by decide)), h.g.se.kept hg (own_types ho h.g.se (by decide)), h.g.kn.kept hg (fun e' => by
    rcases row_not_map' ho h.g.kn with h1 | h1
    · rw [h1] at e'; cases e'
    · exact h1 e'.symm), h.g.klo, hS, h.g.arcs.kept hg fun x hx => own_types ho (h.g.arcs.own x hx) (by decide)⟩, h.hl, h.sl, h.kno, h.pos⟩
theorem Fam.tail' {b : Nat} {F G : List Rw} (h : Fam W b (F ++ G)) : Fam W b G := ⟨fun x hx => h.own x (List.mem_append_right _ hx), (List.pairwise_append.1 h.ap).2.1⟩
theorem tab_of (hw : Tab w) (hg : Below w.heap.size w W') : Tab W' := hw.below hg
/-- The first row beside grows. -/
theorem TiG.growE {x y : Rw} (h : TiG w W p As ns cs At ct kb N cur hs S (x :: E) Lv) (hw : Tab w) (hg : W.grownBy W' x.val.ownBlock) (hy : y.own W' w.heap.size) (hm : y.val.ownBlock = x.val.ownBlock ∨ ∃ g, y.val.ownBlock = some g ∧ W.heap.size ≤ g) : TiG w W' p As ns cs At ct kb N cur hs S (y :: E) Lv := by
  have hx := h.fam.own x (List.mem_cons_self ..)
  have hf : Fam W' w.heap.size ((y :: E) ++ S) := h.fam.set (t := 0) rfl hg hy hm
  have hbl := h.bel.grown hg h.bel.size (fun r hr => (hx.lt r hr).1)
  exact ⟨hbl, mk_int h.mr hx hg (Fam.tail' (F := y :: E) hf), tab_of hw hbl, hf, h.ls.kept hg (own_types hx h.ls (by decide))⟩
/-- A row beside is used up, and another comes. -/
theorem TiG.useE {x y : Rw} (h : TiG w W p As ns cs At ct kb N cur hs S (x :: E) Lv) (hw : Tab w) (hg : W.grownBy W' x.val.ownBlock) (hy : y.own W' W.heap.size) : TiG w W' p As ns cs At ct kb N cur hs S (y :: E) Lv := by
  have hx := h.fam.own x (List.mem_cons_self ..)
  obtain ⟨a1, a2⟩ := List.pairwise_cons.1 h.fam.ap
  have hf0 : Fam W' w.heap.size (E ++ S) := ⟨fun z hz => (h.fam.own z (List.mem_cons_of_mem _ hz)).kept hg (a1 z hz).symm.kept, a2⟩
  have hbl := h.bel.grown hg h.bel.size (fun r hr => (hx.lt r hr).1)
  refine ⟨hbl, mk_int h.mr hx hg (Fam.tail' hf0), tab_of hw hbl, ⟨fun z hz => ?_, List.pairwise_cons.2 ⟨fun z hz => ?_, a2⟩⟩, h.ls.kept hg (own_types hx h.ls (by decide))⟩
  · rcases List.mem_cons.1 hz with rfl | hz
    · exact own_lower hy h.bel.size
    · exact hf0.own z hz
  · have := own_apart (h.fam.own z (List.mem_cons_of_mem _ hz)) hy (Nat.le_refl _)
    rcases this with h1 | h1
    · exact .inl h1
    · exact .inr (.inr h1)
/-- A new row beside. -/
theorem TiG.newE {y : Rw} (h : TiG w W p As ns cs At ct kb N cur hs S E Lv) (hb : Below W.heap.size W W') (hy : y.own W' W.heap.size) : TiG w W' p As ns cs At ct kb N cur hs S (y :: E) Lv := by
  have h1 := h.keep hb
  refine ⟨h1.bel, h1.mr, h1.tab, ⟨fun z hz => ?_, List.pairwise_cons.2 ⟨fun z hz => ?_, h1.fam.ap⟩⟩, h1.ls⟩
  · rcases List.mem_cons.1 hz with rfl | hz
    · exact own_lower hy h.bel.size
    · exact h1.fam.own z hz
  · have := own_apart (h.fam.own z hz) hy (Nat.le_refl _)
    rcases this with h1 | h1
    · exact .inl h1
    · exact .inr (.inr h1)
theorem TiG.dropE {x : Rw} (h : TiG w W p As ns cs At ct kb N cur hs S (x :: E) Lv) : TiG w W p As ns cs At ct kb N cur hs S E Lv := ⟨h.bel, h.mr, h.tab, Fam.tail' (F := [x]) h.fam, h.ls⟩
/-- The first row beside is among the maker's. -/
theorem TiG.tail (h : TiG w W p As ns cs At ct kb N cur hs S E Lv) : Fam W w.heap.size S := Fam.tail' h.fam
/-- The arcs grow. -/
theorem TiG.growC {y : GRow} (h : TiG w W p As ns cs At ct kb N cur hs S E Lv) (hw : Tab w) (hg : W.grownBy W' cur.v.ownBlock) (hy : y.own W' w.heap.size 41 3) (hm : y.v.ownBlock = cur.v.ownBlock ∨ ∃ g, y.v.ownBlock = some g ∧ W.heap.size ≤ g) : TiG w W' p As ns cs At ct kb N y hs S E Lv := by
  have ho : W.ownsRow w.heap.size 41 3 cur.v cur.n cur.xs := h.mr.g.arcs.own cur (List.mem_cons_self ..)
  have hbl := h.bel.grown hg h.bel.size (fun r hr => (ho.lt r hr).1)
  have hm' := h.mr.g
  refine ⟨hbl, ⟨⟨blk_kept ho hg hm'.blk (by decide), hm'.plo, Nat.le_trans hm'.bsz hg.size, hm'.st.kept hg (own_types ho hm'.st (by decide)), hm'.se.kept hg (own_types ho hm'.se (by decide)), hm'.kn.kept hg (fun e' => by
    rcases row_not_map' ho hm'.kn with h1 | h1
    · rw [h1] at e'; cases e'
    · exact h1 e'.symm), hm'.klo, ⟨fun x hx => (hm'.fam.own x hx).kept hg (own_types ho (hm'.fam.own x hx) (by decide)), hm'.fam.ap⟩, hm'.arcs.head hg hy hm⟩, h.mr.hl, h.mr.sl, h.mr.kno, h.mr.pos⟩, tab_of hw hbl, ⟨fun x hx => (h.fam.own x hx).kept hg (own_types ho (h.fam.own x hx) (by decide)), h.fam.ap⟩, h.ls.kept hg (own_types ho h.ls (by decide))⟩
/-- The lists grow. -/
theorem TiG.growL {y : GRow} (h : TiG w W p As ns cs At ct kb N cur hs S E Lv) (hw : Tab w) (hg : W.grownBy W' Lv.v.ownBlock) (hy : y.own W' w.heap.size 37 1) : TiG w W' p As ns cs At ct kb N cur hs S E y := by
  have ho := h.ls
  have hbl := h.bel.grown hg h.bel.size (fun r hr => (ho.lt r hr).1)
  have hm' := h.mr.g
  exact ⟨hbl, ⟨⟨blk_kept ho hg hm'.blk (by decide), hm'.plo, Nat.le_trans hm'.bsz hg.size, hm'.st.kept hg (own_types ho hm'.st (by decide)), hm'.se.kept hg (own_types ho hm'.se (by decide)), hm'.kn.kept hg (fun e' => by
    rcases row_not_map' ho hm'.kn with h1 | h1
    · rw [h1] at e'; cases e'
    · exact h1 e'.symm), hm'.klo, ⟨fun x hx => (hm'.fam.own x hx).kept hg (own_types ho (hm'.fam.own x hx) (by decide)), hm'.fam.ap⟩, hm'.arcs.kept hg fun x hx => own_types ho (hm'.arcs.own x hx) (by decide)⟩, h.mr.hl, h.mr.sl, h.mr.kno, h.mr.pos⟩, tab_of hw hbl, ⟨fun x hx => (h.fam.own x hx).kept hg (own_types ho (h.fam.own x hx) (by decide)), h.fam.ap⟩, hy⟩
theorem TiG.newL (h : TiG w W p As ns cs At ct kb N cur hs S E Lv) : TiG w W p As ns cs At ct kb N cur hs S E GRow.nil := ⟨h.bel, h.mr, h.tab, h.fam, GRow.own_nil _ _ _ _⟩
theorem TiG.newC (h : TiG w W p As ns cs At ct kb N cur hs S E Lv) : TiG w W p As ns cs At ct kb N GRow.nil hs S E Lv :=
  ⟨h.bel, ⟨⟨h.mr.g.blk, h.mr.g.plo, h.mr.g.bsz, h.mr.g.st, h.mr.g.se, h.mr.g.kn, h.mr.g.klo, h.mr.g.fam, h.mr.g.arcs.tail.cons_nil⟩, h.mr.hl, h.mr.sl, h.mr.kno, h.mr.pos⟩, h.tab, h.fam, h.ls⟩
theorem Fam.turn' {b : Nat} {x : Rw} {F G : List Rw} (h : Fam W b (x :: (F ++ G))) : Fam W b (F ++ (G ++ [x])) := by
  obtain ⟨h1, h2⟩ := List.pairwise_cons.1 h.ap
  rw [← List.append_assoc]
  refine ⟨fun z hz => h.own z ?_, List.pairwise_append.2 ⟨h2, List.pairwise_singleton _ _, fun z hz u hu => ?_⟩⟩
  · rcases List.mem_append.1 hz with hz | hz
    · exact List.mem_cons_of_mem _ hz
    · rw [List.mem_singleton.1 hz]; exact List.mem_cons_self ..
  · rw [List.mem_singleton.1 hu]
    exact (h1 z hz).symm
/-- What the maker's step has done. -/
theorem TiG.old {x : Rw} (h : TiG w W p As ns cs At ct kb N cur hs S (x :: E) Lv) (hk : MkKeep w.heap.size W W') (ht : Tab W') (hm : MkR W' w.heap.size p As ns cs At ct kb N cur hs S) : TiG w W' p As ns cs At ct kb N cur hs S E Lv :=
  ⟨h.bel.trans hk.bel, hm, ht, Fam.tail' (F := [x]) (hk.fam h.fam), hk.row h.ls (by decide) (by decide) (by decide)⟩
theorem TiG.new {x : Rw} {As' At' : Option Addr} {cs' ct' : Nat} {N' : DataW Unit} {y : Sh} (h : TiG w W p As ns cs At ct kb N cur hs S (x :: E) Lv) (hk : MkKeep w.heap.size W W') (ht : Tab W') (hm : MkR W' w.heap.size p As' (ns + 1) cs' At' ct' kb N' cur (hs ++ [y]) (S ++ [x])) : TiG w W' p As' (ns + 1) cs' At' ct' kb N' cur (hs ++ [y]) (S ++ [x]) E Lv :=
  ⟨h.bel.trans hk.bel, hm, ht, Fam.turn' (hk.fam h.fam), hk.row h.ls (by decide) (by decide) (by decide)⟩
/-- A cell of the states is set: a state's finality. -/
theorem TiG.setS {x y : Sh} {i j g : Nat} {v : Value} (h : TiG w W p As ns cs At ct kb N cur hs S E Lv) (hw : Tab w) (hA : As = some ⟨g, 0, none⟩) (hx : hs[i]? = some x) (hj : j < 2) (hy : y.hdr = x.hdr.set j v) {cur' : GRow} (ha : GFam W w.heap.size 41 3 (cur' :: (hs.set i y).map Sh.row)) :
    TiG w (W.setCell ⟨g, i * 2 + j, none⟩ v) p As ns cs At ct kb N cur' (hs.set i y) S E Lv ∧ W.frozen? ⟨g, i * 2 + j, none⟩ = false ∧ g < W.heap.size := by
  subst hA
  obtain ⟨q1, q2, cc, q3⟩ := own_blk h.mr.g.st
  have hbl := below_set (j := i * 2 + j) (u := v) h.bel q1 (Nat.le_refl _)
  have hm' := h.mr.g
  have hpg : p ≠ g := fun e => by
    subst e
    have h1 := hm'.blk
    rw [q3] at h1
    injection h1 with h1
    injection h1 with _ h1 _
    exact absurd h1 (by decide)
  refine ⟨⟨hbl, ⟨⟨blk_other hm'.blk hpg, hm'.plo, by simpa [World.setCell] using hm'.bsz, ?_, own_other hm'.se q3 (by decide), hm'.kn.kept (set_grown _ _ _) (fun e => map_not_cells hm'.kn q3 (by injection e with e; exact e.symm)), hm'.klo, hm'.fam.other q3 (by decide), ⟨fun z hz => own_other (ha.own z hz) q3 (by decide), ha.ap⟩⟩, by rw [List.length_set]; exact h.mr.hl, h.mr.sl, h.mr.kno, h.mr.pos⟩, tab_of hw hbl, h.fam.other q3 (by decide), own_other h.ls q3 (by decide)⟩, free_at q3 _, q2⟩
  have := own_put (j := i * 2 + j) (u := v) hm'.st
  rw [flat_set (f := Sh.hdr) (m := 2) (fun _ => rfl) hx hj hy] at this
  exact this
/-- The arcs become those of a state. -/
theorem GFam.place {b e s : Nat} {F : List GRow} {i : Nat} (h : GFam W b e s (cur :: F)) (hi : F[i]? = some GRow.nil) : GFam W b e s (GRow.nil :: F.set i cur) := by
  rw [set_split hi]
  have hF := split_at hi
  have hp : (cur :: F).Perm (GRow.nil :: (F.take i ++ cur :: F.drop (i + 1))) := by
    conv => lhs; rw [hF]
    exact ((List.Perm.cons cur List.perm_middle).trans (List.Perm.swap _ _ _)).trans (List.Perm.cons _ List.perm_middle.symm)
  exact ⟨fun z hz => h.own z (hp.mem_iff.2 hz), (hp.pairwise_iff fun h => GAp.symm h).1 h.ap⟩
end
end Go.Proofs.YtebdffabfimmkaaDoor
/- States that are made as they are met, range of bytes by range of bytes (plain Lean). -/
namespace Go.Proofs.YtebdffabfimmkaaDoor
open Go.RowKit

/-- A walk over things that are told apart as they are. -/
structure Plain {σ : Type} [DecidableEq σ] (W : Bfs σ) : Prop where
  eqv : ∀ z y, W.eqv z y = decide (z = y)
  rep : ∀ x, W.rep x = x
section
variable {σ : Type} [DecidableEq σ] {W : Bfs σ}
def findE {σ : Type} [DecidableEq σ] (y : σ) (met : List σ) : Option Nat := findI (fun z => decide (z = y)) met
theorem Plain.find (h : Plain W) (y : σ) (met : List σ) : findI (fun z => W.eqv z y) met = findE y met := by
  unfold findE
  congr 1
  funext z
  exact h.eqv z y
theorem Plain.refl (h : Plain W) (x : σ) : W.eqv (W.rep x) x = true := by rw [h.rep, h.eqv]; simp
theorem findE_more {y : σ} {met more : List σ} {i : Nat} (h : findE y met = some i) : findE y (met ++ more) = some i := by
  unfold findE at h ⊢
  rw [findI_append, h]
theorem findE_new {y : σ} {met : List σ} (h : findE y met = none) : findE y (met ++ [y]) = some met.length := by
  unfold findE at h ⊢
  rw [findI_append, h]
  simp [findI]
/-- A range of bytes that lead to the same. -/
theorem Plain.row_range (h : Plain W) (x : σ) (met : List σ) (b : Nat) : ∀ m, (∀ c, b ≤ c → c < b + (m + 1) → W.step x c = W.step x b) → W.row x met (b + (m + 1)) = match W.step x b with
    | none => W.row x met b
    | some y => match findE y (W.row x met b) with
      | some _ => W.row x met b
      | none => W.row x met b ++ [y]
  | 0, _ => by
    show W.row x met (b + 1) = _
    rw [Bfs.row]
    cases hs : W.step x b with
    | none => rfl
    | some y =>
      simp only
      rw [h.find, h.rep]
      cases findE y (W.row x met b) <;> rfl
  | m + 1, hc => by
    have ih := h.row_range x met b m fun c h1 h2 => hc c h1 (by omega)
    show W.row x met (b + (m + 1) + 1) = _
    rw [Bfs.row, hc (b + (m + 1)) (by omega) (by omega), ih]
    cases hs : W.step x b with
    | none => rfl
    | some y =>
      simp only
      cases hf : findE y (W.row x met b) with
      | some i =>
        simp only
        rw [h.find, hf]
      | none =>
        simp only
        rw [h.find, findE_new hf]
/-- What the bytes below b lead to is met. -/
theorem Plain.row_has (h : Plain W) (x : σ) (met : List σ) (b : Nat) {c : Nat} (hc : c < b) {y : σ} (hy : W.step x c = some y) : ∃ i, findE y (W.row x met b) = some i := by
  obtain ⟨z, hz, he⟩ := W.row_met h.refl x met b c hc y hy
  rw [h.eqv, decide_eq_true_eq] at he
  subst he
  cases hf : findE z (W.row x met b) with
  | some i => exact ⟨i, rfl⟩
  | none =>
    have := findI_none.1 hf z hz
    simp at this
theorem Plain.num (h : Plain W) (met : List σ) (x : σ) (c : Nat) : W.num met x c = (W.step x c).bind fun y => findE y met := by
  unfold Bfs.num
  cases W.step x c with
  | none => rfl
  | some y => exact h.find y met
/-- Arcs of a range of bytes. -/
theorem Plain.runs_range (h : Plain W) (x : σ) (met : List σ) (b m : Nat) (hc : ∀ c, b ≤ c → c < b + (m + 1) → W.step x c = W.step x b) {y : σ} (hy : W.step x b = some y) {i : Nat} (hi : findE y (W.row x met (b + (m + 1))) = some i) :
    runs (W.num (W.row x met (b + (m + 1))) x) (b + (m + 1)) = joinA (runs (W.num (W.row x met b) x) b) ((b : Int), ((b + m : Nat) : Int), (i : Int)) := by
  have hpre : ∃ more, W.row x met (b + (m + 1)) = W.row x met b ++ more := by
    rw [h.row_range x met b m hc, hy]
    simp only
    split
    · exact ⟨[], by simp⟩
    · exact ⟨_, rfl⟩
  have e1 : runs (W.num (W.row x met (b + (m + 1))) x) b = runs (W.num (W.row x met b) x) b := by
    refine runs_congr b fun c hcb => ?_
    rw [h.num, h.num]
    cases hs : W.step x c with
    | none => rfl
    | some z =>
      obtain ⟨j, hj⟩ := h.row_has x met b hcb hs
      obtain ⟨more, hm⟩ := hpre
      simp only [Option.bind_some]
      rw [hm, findE_more hj, hj]
  rw [runs_const (W.num (W.row x met (b + (m + 1))) x) b i m fun c h1 h2 => by rw [h.num, hc c h1 h2, hy]; exact hi, e1]
theorem Plain.runs_skip (h : Plain W) (x : σ) (met : List σ) (b m : Nat) (hc : ∀ c, b ≤ c → c < b + (m + 1) → W.step x c = W.step x b) (hy : W.step x b = none) :
    W.row x met (b + (m + 1)) = W.row x met b ∧ runs (W.num (W.row x met (b + (m + 1))) x) (b + (m + 1)) = runs (W.num (W.row x met b) x) b := by
  have e1 : W.row x met (b + (m + 1)) = W.row x met b := by rw [h.row_range x met b m hc, hy]
  rw [e1]
  refine ⟨rfl, runs_none _ b (m + 1) fun c h1 h2 => ?_⟩
  rw [h.num, hc c h1 h2, hy]
  rfl
/-- What stands behind i rounds: the first i states are made, the others are as they came. -/
structure MadeP (W : Bfs σ) (fin fin0 : σ → Bool) (x0 : σ) (i : Nat) (met : List σ) (ds : List St) : Prop where
  run : met = W.run i 0 [x0]
  le : i ≤ met.length
  out_ : ds = ((met.take i).map fun x => ((fin x, runs (W.num met x) 256) : St)) ++ (met.drop i).map fun x => (fin0 x, [])
  has : ∀ (j : Nat) x, j < i → met[j]? = some x → ∀ c y, c < 256 → W.step x c = some y → ∃ q, findE y met = some q
theorem MadeP.start (W : Bfs σ) (fin fin0 : σ → Bool) (x0 : σ) : MadeP W fin fin0 x0 0 [x0] [(fin0 x0, [])] := ⟨rfl, Nat.zero_le _, rfl, fun _ _ hj => absurd hj (Nat.not_lt_zero _)⟩
/-- .. in the midst of a round: the bytes below b are gone through. -/
structure MidP (W : Bfs σ) (fin fin0 : σ → Bool) (x0 : σ) (i : Nat) (met : List σ) (x : σ) (b : Nat) (met1 : List σ) (arcs : List Arc3) (fc : Bool) (ds : List St) : Prop where
  got : met[i]? = some x
  row : met1 = W.row x met b
  arcs_ : arcs = runs (W.num met1 x) b
  out_ : ds = ((met.take i).map fun x => ((fin x, runs (W.num met x) 256) : St)) ++ (fc, []) :: (met1.drop (i + 1)).map fun x => (fin0 x, [])
theorem MadeP.enter {fin fin0 : σ → Bool} {x0 x : σ} {i : Nat} {met : List σ} {ds : List St} (h : MadeP W fin fin0 x0 i met ds) (hx : met[i]? = some x) : MidP W fin fin0 x0 i met x 0 met [] (fin0 x) ds := by
  refine ⟨hx, rfl, rfl, ?_⟩
  rw [h.out_]
  congr 1
  obtain ⟨h1, h2⟩ := List.getElem?_eq_some_iff.1 hx
  rw [List.drop_eq_getElem_cons h1, h2, List.map_cons]
end
/-- Its finality is told. -/
theorem MidP.fin {σ : Type} {W : Bfs σ} {fin fin0 : σ → Bool} {x0 x : σ} {i b : Nat} {met met1 : List σ} {arcs : List Arc3} {fc : Bool} {ds : List St} (h : MidP W fin fin0 x0 i met x b met1 arcs fc ds) (hi : i ≤ met.length) (fc' : Bool) : MidP W fin fin0 x0 i met x b met1 arcs fc' (ds.set i (fc', [])) := by
  refine ⟨h.got, h.row, h.arcs_, ?_⟩
  rw [h.out_, List.set_append_right _ _ (by rw [List.length_map, List.length_take]; omega), List.length_map, List.length_take, Nat.min_eq_left hi, Nat.sub_self]
  rfl
section
variable {σ : Type} [DecidableEq σ] {W : Bfs σ}
theorem MidP.skip {fin fin0 : σ → Bool} {x0 x : σ} {i b m : Nat} {met met1 : List σ} {arcs : List Arc3} {fc : Bool} {ds : List St} (hW : Plain W) (h : MidP W fin fin0 x0 i met x b met1 arcs fc ds) (hc : ∀ c, b ≤ c → c < b + (m + 1) → W.step x c = W.step x b) (hy : W.step x b = none) : MidP W fin fin0 x0 i met x (b + (m + 1)) met1 arcs fc ds := by
  obtain ⟨e1, e2⟩ := hW.runs_skip x met b m hc hy
  refine ⟨h.got, by rw [e1]; exact h.row, ?_, h.out_⟩
  rw [h.arcs_, h.row, ← e2, e1]
theorem MidP.old {fin fin0 : σ → Bool} {x0 x y : σ} {i b m q : Nat} {met met1 : List σ} {arcs : List Arc3} {fc : Bool} {ds : List St} (hW : Plain W) (h : MidP W fin fin0 x0 i met x b met1 arcs fc ds) (hc : ∀ c, b ≤ c → c < b + (m + 1) → W.step x c = W.step x b) (hy : W.step x b = some y) (hq : findE y met1 = some q) : MidP W fin fin0 x0 i met x (b + (m + 1)) met1 (joinA arcs ((b : Int), ((b + m : Nat) : Int), (q : Int))) fc ds := by
  have e1 : W.row x met (b + (m + 1)) = met1 := by
    rw [hW.row_range x met b m hc, hy]
    simp only
    rw [← h.row, hq]
  refine ⟨h.got, e1.symm, ?_, h.out_⟩
  have e2 := hW.runs_range x met b m hc hy (i := q) (by rw [e1]; exact hq)
  rw [e1, ← h.row, ← h.arcs_] at e2
  exact e2.symm
theorem MidP.new {fin fin0 : σ → Bool} {x0 x y : σ} {i b m : Nat} {met met1 : List σ} {arcs : List Arc3} {fc : Bool} {ds : List St} (hW : Plain W) (h : MidP W fin fin0 x0 i met x b met1 arcs fc ds) (hc : ∀ c, b ≤ c → c < b + (m + 1) → W.step x c = W.step x b) (hy : W.step x b = some y) (hq : findE y met1 = none) : MidP W fin fin0 x0 i met x (b + (m + 1)) (met1 ++ [y]) (joinA arcs ((b : Int), ((b + m : Nat) : Int), (met1.length : Int))) fc (ds ++ [(fin0 y, [])]) := by
  have e1 : W.row x met (b + (m + 1)) = met1 ++ [y] := by
    rw [hW.row_range x met b m hc, hy]
    simp only
    rw [← h.row, hq]
  have hil := (List.getElem?_eq_some_iff.1 h.got).1
  have hle : i + 1 ≤ met1.length := by
    obtain ⟨more, hm⟩ := W.row_pre x met b
    rw [h.row, hm, List.length_append]
    omega
  refine ⟨h.got, e1.symm, ?_, ?_⟩
  · have e2 := hW.runs_range x met b m hc hy (i := met1.length) (by rw [e1]; exact findE_new hq)
    rw [e1, ← h.row, ← h.arcs_] at e2
    exact e2.symm
  · rw [h.out_, List.drop_append_of_le_length hle, List.map_append]
    simp
theorem MidP.leave {fin fin0 : σ → Bool} {x0 x : σ} {i : Nat} {met met1 : List σ} {arcs : List Arc3} {ds ds0 : List St} (hW : Plain W) (h0 : MadeP W fin fin0 x0 i met ds0) (h : MidP W fin fin0 x0 i met x 256 met1 arcs (fin x) ds) : MadeP W fin fin0 x0 (i + 1) met1 (ds.set i (fin x, arcs)) := by
  obtain ⟨more, hm⟩ := W.row_pre x met 256
  have hil := (List.getElem?_eq_some_iff.1 h.got).1
  rw [← h.row] at hm
  refine ⟨?_, by rw [hm, List.length_append]; omega, ?_, fun j y hj hy c z hcz hs => ?_⟩
  · rw [h.row, Bfs.run_succ, Nat.zero_add, ← h0.run, h.got]
  · rw [h.out_, List.set_append_right _ _ (by rw [List.length_map, List.length_take]; omega), List.length_map, List.length_take, Nat.min_eq_left h0.le, Nat.sub_self, List.set_cons_zero]
    have htake : met1.take (i + 1) = met.take i ++ [x] := by
      rw [hm, List.take_append_of_le_length (by omega), List.take_add_one, h.got]
      rfl
    rw [htake, List.map_append, List.append_assoc]
    have e1 : ((met.take i).map fun x => ((fin x, runs (W.num met x) 256) : St)) = (met.take i).map fun x => ((fin x, runs (W.num met1 x) 256) : St) := by
      refine List.map_congr_left fun y hy => ?_
      obtain ⟨j, hj⟩ := List.mem_iff_getElem?.1 hy
      rw [List.getElem?_take] at hj
      split at hj
      · rename_i hji
        have : runs (W.num met y) 256 = runs (W.num met1 y) 256 := by
          refine runs_congr 256 fun c hc => ?_
          rw [hW.num, hW.num]
          cases hs : W.step y c with
          | none => rfl
          | some z =>
            obtain ⟨q, hq⟩ := h0.has j y hji hj c z hc hs
            simp only [Option.bind_some]
            rw [hm, findE_more hq, hq]
        rw [this]
      · cases hj
    rw [e1, h.arcs_]
    rfl
  · by_cases hji : j < i
    · rw [hm, List.getElem?_append_left (by omega)] at hy
      obtain ⟨q, hq⟩ := h0.has j y hji hy c z hcz hs
      rw [hm]
      exact ⟨q, findE_more hq⟩
    · obtain rfl : j = i := by omega
      rw [hm, List.getElem?_append_left hil, h.got] at hy
      injection hy with hy
      subst hy
      have := hW.row_has x met 256 hcz hs
      rw [← h.row] at this
      exact this
end
theorem run_le {σ : Type} (W : Bfs σ) (x0 : σ) (f : Nat) : ∀ k, (W.run f 0 [x0]).length ≤ (W.run (f + k) 0 [x0]).length
  | 0 => Nat.le_refl _
  | k + 1 => by
    refine Nat.le_trans (run_le W x0 f k) ?_
    rw [← Nat.add_assoc, W.run_succ]
    split
    · rename_i x _
      obtain ⟨more, hm⟩ := W.row_pre x (W.run (f + k) 0 [x0]) 256
      rw [hm, List.length_append]
      omega
    · exact Nat.le_refl _
section
variable {σ : Type} [DecidableEq σ] {W : Bfs σ}
theorem MadeP.last {fin fin0 : σ → Bool} {x0 : σ} {i : Nat} {met : List σ} {ds : List St} (hW : Plain W) (h : MadeP W fin fin0 x0 i met ds) (hi : i = met.length) : ds = W.out fin met ∧ (∀ x ∈ met, W.Met met x) ∧ ∀ f, (W.run f 0 [x0]).length ≤ met.length := by
  subst hi
  refine ⟨?_, fun x hx c hc y hy => ?_, fun f => ?_⟩
  · have := h.out_
    rw [List.take_length, List.drop_length] at this
    rw [this]
    show _ ++ [] = _
    rw [List.append_nil]
    rfl
  · obtain ⟨j, hj⟩ := List.mem_iff_getElem?.1 hx
    obtain ⟨q, hq⟩ := h.has j x (List.getElem?_eq_some_iff.1 hj).1 hj c y hc hy
    obtain ⟨z, hz, he⟩ := findI_some hq
    have he := of_decide_eq_true he
    subst he
    exact ⟨z, List.mem_of_getElem? hz, by rw [hW.eqv]; simp⟩
  · rcases Nat.le_total f met.length with hf | hf
    · obtain ⟨k, hk⟩ : ∃ k, met.length = f + k := ⟨met.length - f, by omega⟩
      have h1 := run_le W x0 f k
      rw [← hk] at h1
      exact Nat.le_trans h1 (by rw [← h.run]; exact Nat.le_refl _)
    · obtain ⟨k, rfl⟩ : ∃ k, f = met.length + k := ⟨f - met.length, by omega⟩
      have h1 := W.run_end (f := met.length) (i := 0) (met := [x0]) (by rw [Nat.zero_add, ← h.run, List.getElem?_eq_none_iff]; exact Nat.le_refl _) k
      rw [h1, ← h.run]
      exact Nat.le_refl _
end
end Go.Proofs.YtebdffabfimmkaaDoor
