/- What is picked, as a plain function of the list of segments; groups of places by tier, as a map reads. -/
import Derived.Test.YtnhagnjikinimaaTierE
import Derived.Maps.OwnRows
import Derived.Maps.GroupsBeside
import Derived.Maps.Views
namespace Go.Proofs.Ytnhagnjikinimaa
open Go.RowKit Go.ChangeShapes Go.Maps

def Seg.live (s : Seg) : Int := s.docs - s.gone
def liveAt (l : List Seg) (i : Nat) : Int := match l[i]? with | some s => s.live | none => 0
def emptyQ (l : List Seg) (i : Nat) : Bool := decide (liveAt l i = 0)
def tierQ (l : List Seg) (t : Int) (i : Nat) : Bool := decide ((tierN (liveAt l i) : Int) = t)
def idxs (q : Nat → Bool) (n : Nat) : List Int := ((List.range n).filter q).map fun (i : Nat) => (i : Int)
theorem idxs_succ (q : Nat → Bool) (n : Nat) : idxs q (n + 1) = idxs q n ++ (if q n then [(n : Int)] else []) := by
  unfold idxs
  rw [List.range_succ, List.filter_append, List.map_append]
  cases h : q n <;> simp [h]
theorem idxs_hit {q : Nat → Bool} {n : Nat} (h : q n = true) : idxs q (n + 1) = idxs q n ++ [(n : Int)] := by rw [idxs_succ, if_pos h]
theorem idxs_miss {q : Nat → Bool} {n : Nat} (h : q n = false) : idxs q (n + 1) = idxs q n := by rw [idxs_succ, if_neg (by simp [h]), List.append_nil]
theorem idxs_len (q : Nat → Bool) (n : Nat) : (idxs q n).length ≤ n := by
  unfold idxs
  rw [List.length_map]
  have := List.length_filter_le q (List.range n)
  simpa using this

def pickF (l : List Seg) : List Int :=
  if (idxs (emptyQ l) l.length).isEmpty = false then idxs (emptyQ l) l.length
  else match (List.range 21).find? (fun (t : Nat) => decide (4 ≤ (idxs (tierQ l t) l.length).length)) with
    | some t => (idxs (tierQ l t) l.length).take 4
    | none => []
def pickR (l : List Seg) : List Int := if segsOk l then pickF l else []

theorem seg_ok_at {l : List Seg} (h : segsOk l = true) {k : Nat} (hk : k < l.length) : 0 ≤ l[k].docs ∧ l[k].docs ≤ 1048576 ∧ 0 ≤ l[k].gone ∧ l[k].gone ≤ l[k].docs := by
  unfold segsOk at h
  rw [List.all_eq_true] at h
  exact (segOk_iff _).1 (h _ (List.getElem_mem hk))
theorem liveAt_eq {l : List Seg} {k : Nat} (hk : k < l.length) : liveAt l k = l[k].docs - l[k].gone := by
  unfold liveAt; rw [List.getElem?_eq_getElem hk]; rfl
theorem emptyQ_yes {l : List Seg} {k : Nat} (hk : k < l.length) (h : l[k].docs - l[k].gone = 0) : emptyQ l k = true := by
  unfold emptyQ; rw [liveAt_eq hk]; simpa using h
theorem emptyQ_no {l : List Seg} {k : Nat} (hk : k < l.length) (h : l[k].docs - l[k].gone ≠ 0) : emptyQ l k = false := by
  unfold emptyQ; rw [liveAt_eq hk]; simpa using h

/-! ### The map of places -/
def itemsOf {H : Type} : DataW H → List Int
  | .slice es _ => es.filterMap fun | .lit (.int _ z) => some z | _ => none
  | _ => []
theorem itemsOf_lits {H : Type} (q : IntKind) (zs : List Int) (s : List (DataW H)) : itemsOf (.slice (lits q zs) s) = zs := by
  simp only [itemsOf, lits]
  induction zs with
  | nil => rfl
  | cons z zs ih => simp only [List.map_cons, List.filterMap_cons]; rw [ih]
theorem itemsOf_row {H : Type} {w : World} {base : Nat} {e : TypeId} {q : IntKind} {v : Value} {zs : List Int} (h : w.ownsInts base e q v zs) : itemsOf (rowDatum (H := H) q v zs) = zs := by
  rcases h.datum (H := H) with ⟨h1, rfl⟩ | h1
  · rw [h1]; rfl
  · rw [h1, itemsOf_lits]

/-- The map reads as: at the number t the list f t. -/
def GroupsAre {H : Type} (D : DataW H) (f : Int → List Int) : Prop := IsMap D ∧ ∀ t : Int, itemsOf (D.atKey (.int .i64 t) .nil) = f t
theorem groups_start {H : Type} (f : Int → List Int) (hf : ∀ t, f t = []) : GroupsAre (H := H) (.map []) f := ⟨⟨[], rfl⟩, fun t => by rw [hf]; rfl⟩
theorem isMap_put {H : Type} {D : DataW H} (h : IsMap D) (k : Lit) (d : DataW H) : IsMap (D.put k d) := by
  obtain ⟨es, rfl⟩ := h
  exact ⟨_, rfl⟩
theorem groups_put {H : Type} {D : DataW H} {f g : Int → List Int} {t : Int} {d : DataW H} (h : GroupsAre D f) (ht : g t = itemsOf d) (ho : ∀ s, s ≠ t → g s = f s) : GroupsAre (D.put (.int .i64 t) d) g := by
  refine ⟨isMap_put h.1 _ _, fun s => ?_⟩
  by_cases e : s = t
  · subst e
    rw [atKey_put_same h.1 (by trivial), ht]
  · rw [atKey_put_other (by simpa using e), h.2 s, ho s e]

theorem tiers_step {H : Type} {w w1 : World} {base : Nat} {e : TypeId} {v v' : Value} {zs : List Int} {D : DataW H} {l : List Seg} {k : Nat} {t : Int} (hD : GroupsAre D fun t => idxs (tierQ l t) k)
    (ht : t = (tierN (liveAt l k) : Int)) (hat : D.atKey (.int .i64 t) .nil = rowDatum .i64 v zs) (hv : w.ownsInts base e .i64 v zs) (hv' : w1.ownsInts base e .i64 v' (zs ++ [(k : Int)])) :
    GroupsAre (D.put (.int .i64 t) (rowDatum .i64 v' (zs ++ [(k : Int)]))) fun t => idxs (tierQ l t) (k + 1) := by
  have hz : zs = idxs (tierQ l t) k := by
    have := hD.2 t
    rw [hat, itemsOf_row hv] at this
    exact this
  refine groups_put hD ?_ ?_
  · show idxs (tierQ l t) (k + 1) = _
    rw [itemsOf_row hv', hz, idxs_hit (by unfold tierQ; rw [ht]; simp)]
  · intro s hs
    show idxs (tierQ l s) (k + 1) = _
    rw [idxs_miss (by unfold tierQ; rw [decide_eq_false_iff_not]; intro h; exact hs (by rw [ht, h]))]
end Go.Proofs.Ytnhagnjikinimaa
