/- How nodes are built, in plain Lean: the program's way. -/
import Derived.Test.YtheickndnniomaaDoorWrite
import Derived.Test.YtheickndnniomaaDoorEnt
import Derived.Sort.Walk0
namespace Go.Proofs.YtheickndnniomaaDoor
open Go.RowKit

/-- The first place of a text in a list. -/
def idx : List (List UInt8) → List UInt8 → Option Nat
  | [], _ => none
  | x :: r, s => if x = s then some 0 else (idx r s).map (· + 1)
theorem idx_snoc (ss : List (List UInt8)) (x s : List UInt8) : idx (ss ++ [x]) s = match idx ss s with
    | some i => some i
    | none => if x = s then some ss.length else none := by
  induction ss with
  | nil => simp [idx]
  | cons y r ih =>
    rw [List.cons_append, idx, idx, ih]
    by_cases h : y = s
    · simp [h]
    · simp only [h, if_false]
      cases idx r s with
      | some i => rfl
      | none =>
        by_cases h2 : x = s
        · simp [h2]
        · simp [h2]
theorem idx_lt {ss : List (List UInt8)} {s : List UInt8} {i : Nat} (h : idx ss s = some i) : i < ss.length ∧ ss[i]? = some s := by
  induction ss generalizing i with
  | nil => cases h
  | cons y r ih =>
    rw [idx] at h
    split at h
    · rename_i e
      injection h with h
      subst h
      simp [e]
    · obtain ⟨j, hj, rfl⟩ := Option.map_eq_some_iff.1 h
      have := ih hj
      simp only [List.length_cons, List.getElem?_cons_succ]
      exact ⟨by omega, this.2⟩
def byteAt (t : List UInt8) (i : Nat) : Int := ((t.getD i 0).toNat : Int)
/-- So many of the first entries have the first one's byte. -/
def grpN (at_ : Nat) : List Ent → Nat
  | [] => 0
  | e :: r => 1 + (r.takeWhile fun x => decide (byteAt x.1 at_ = byteAt e.1 at_)).length
def headL : List Ent → Nat
  | [] => 0
  | e :: _ => e.1.length
/-- The groups one by one. -/
def waysL (rec_ : List Nd → List Ent → Int → Nat × List Nd) (at_ : Nat) (told : Int) : Nat → List Nd → List (Int × Int × Int) → List Ent → List Nd × List (Int × Int × Int)
  | 0, ds, ws, _ => (ds, ws)
  | _ + 1, ds, ws, [] => (ds, ws)
  | n + 1, ds, ws, e :: r =>
    let g := (e :: r).take (grpN at_ (e :: r))
    let q := rec_ ds g (leastO g)
    waysL rec_ at_ told n q.2 (ws ++ [(byteAt e.1 at_, leastO g - told, (q.1 : Int))]) ((e :: r).drop (grpN at_ (e :: r)))
def isFin (at_ : Nat) (l : List Ent) : Bool := decide (headL l = at_)
def restL (at_ : Nat) (l : List Ent) : List Ent := if headL l = at_ then l.tail else l
def addN (ds : List Nd) (d : Nd) : Nat × List Nd := match idx (ds.map sgn) (sgn d) with
  | some i => (i, ds)
  | none => (ds.length, ds ++ [d])
/-- The number of the node of terms that are alike up to a place, and the nodes. -/
def nodeF : Nat → List Nd → List Ent → Nat → Int → Nat × List Nd
  | 0, ds, _, _, _ => (0, ds)
  | f + 1, ds, l, at_, told =>
    let q := waysL (fun ds g m => nodeF f ds g (at_ + 1) m) at_ told (restL at_ l).length ds [] (restL at_ l)
    addN q.1 ⟨isFin at_ l, if headL l = at_ then headO l - told else 0, q.2⟩
/-- What terms must be like. -/
structure Okl (at_ : Nat) (told : Int) (l : List Ent) : Prop where
  ne : l ≠ []
  srt : l.Pairwise fun a b => a.1 < b.1
  pre : ∃ p : List UInt8, p.length = at_ ∧ ∀ e ∈ l, ∃ q, e.1 = p ++ q
  t0 : 0 ≤ told
  out : ∀ e ∈ l, told ≤ e.2 ∧ e.2 ≤ 9223372036854775807
  len : ∀ e ∈ l, e.1.length ≤ 64
/-- .. and what is left of them behind the one that ends here. -/
structure Okr (at_ : Nat) (told : Int) (l : List Ent) : Prop where
  srt : l.Pairwise fun a b => a.1 < b.1
  pre : ∃ p : List UInt8, p.length = at_ ∧ ∀ e ∈ l, ∃ c q, e.1 = p ++ c :: q
  t0 : 0 ≤ told
  out : ∀ e ∈ l, told ≤ e.2 ∧ e.2 ≤ 9223372036854775807
  len : ∀ e ∈ l, e.1.length ≤ 64
theorem lt_self (a : List UInt8) : ¬ a < a := List.lt_irrefl a
theorem not_lt_pre (p q : List UInt8) : ¬ (p ++ q < p) := by
  induction p with
  | nil => simp
  | cons x p ih => rw [List.cons_append, List.cons_lt_cons_iff]; simp [ih]
theorem Okl.rest {at_ : Nat} {told : Int} {l : List Ent} (h : Okl at_ told l) : Okr at_ told (restL at_ l) := by
  obtain ⟨p, hp, hq⟩ := h.pre
  cases l with
  | nil => exact absurd rfl h.ne
  | cons e r =>
    obtain ⟨q0, e0⟩ := hq e (List.mem_cons_self ..)
    show Okr at_ told (if e.1.length = at_ then r else e :: r)
    split
    · rename_i hl
      refine ⟨(List.pairwise_cons.1 h.srt).2, ⟨p, hp, fun x hx => ?_⟩, h.t0, fun x hx => h.out x (List.mem_cons_of_mem _ hx), fun x hx => h.len x (List.mem_cons_of_mem _ hx)⟩
      obtain ⟨q, hq'⟩ := hq x (List.mem_cons_of_mem _ hx)
      cases q with
      | cons c q => exact ⟨c, q, hq'⟩
      | nil =>
        have hlt := (List.pairwise_cons.1 h.srt).1 x hx
        rw [hq', e0, List.append_nil] at hlt
        exact absurd hlt (not_lt_pre p q0)
    · rename_i hl
      have hq0 : q0 ≠ [] := by
        intro hn
        subst hn
        rw [e0, List.append_nil] at hl
        exact hl hp
      refine ⟨h.srt, ⟨p, hp, fun x hx => ?_⟩, h.t0, h.out, h.len⟩
      obtain ⟨q, hq'⟩ := hq x hx
      cases q with
      | cons c q => exact ⟨c, q, hq'⟩
      | nil =>
        rcases List.mem_cons.1 hx with rfl | hx
        · rw [e0] at hq'
          exact absurd (List.append_cancel_left hq') hq0
        · have hlt := (List.pairwise_cons.1 h.srt).1 x hx
          rw [hq', e0, List.append_nil] at hlt
          exact absurd hlt (not_lt_pre p q0)
theorem foldl_min (l : List Ent) (m : Int) : (l.foldl (fun m e => min m e.2) m ≤ m ∧ ∀ e ∈ l, l.foldl (fun m e => min m e.2) m ≤ e.2) ∧ (∀ z, z ≤ m → (∀ e ∈ l, z ≤ e.2) → z ≤ l.foldl (fun m e => min m e.2) m) := by
  induction l generalizing m with
  | nil => simp
  | cons x r ih =>
    obtain ⟨⟨h1, h2⟩, h3⟩ := ih (min m x.2)
    rw [List.foldl_cons]
    refine ⟨⟨by omega, fun e he => ?_⟩, fun z hz hh => h3 z ?_ fun e he => hh e (List.mem_cons_of_mem _ he)⟩
    · rcases List.mem_cons.1 he with rfl | he
      · omega
      · exact h2 e he
    · have := hh x (List.mem_cons_self ..)
      omega
theorem leastO_le {l : List Ent} {e : Ent} (h : e ∈ l) : leastO l ≤ e.2 := (foldl_min l (headO l)).1.2 e h
theorem le_leastO {l : List Ent} (hl : l ≠ []) {z : Int} (h : ∀ e ∈ l, z ≤ e.2) : z ≤ leastO l := by
  refine (foldl_min l (headO l)).2 z ?_ h
  cases l with
  | nil => exact absurd rfl hl
  | cons x r => exact h x (List.mem_cons_self ..)
theorem grpN_pos (at_ : Nat) (e : Ent) (r : List Ent) : 1 ≤ grpN at_ (e :: r) ∧ grpN at_ (e :: r) ≤ (e :: r).length := by
  unfold grpN
  have := (List.takeWhile_prefix (p := fun x : Ent => decide (byteAt x.1 at_ = byteAt e.1 at_)) (l := r)).length_le
  simp only [List.length_cons]
  omega
theorem grp_take (at_ : Nat) (e : Ent) (r : List Ent) : (e :: r).take (grpN at_ (e :: r)) = e :: r.takeWhile fun x => decide (byteAt x.1 at_ = byteAt e.1 at_) := by
  show List.take (1 + _) _ = _
  rw [Nat.add_comm, List.take_succ_cons]
  congr 1
  exact (List.prefix_iff_eq_take.1 (List.takeWhile_prefix _)).symm
theorem grp_in {at_ : Nat} {e : Ent} {r : List Ent} {k : Nat} (h0 : 1 ≤ k) (h : k < grpN at_ (e :: r)) : ∃ x, (e :: r)[k]? = some x ∧ byteAt x.1 at_ = byteAt e.1 at_ := by
  obtain ⟨j, rfl⟩ : ∃ j, k = j + 1 := ⟨k - 1, by omega⟩
  have h' : j < (r.takeWhile fun x => decide (byteAt x.1 at_ = byteAt e.1 at_)).length := by
    have : grpN at_ (e :: r) = 1 + (r.takeWhile fun x => decide (byteAt x.1 at_ = byteAt e.1 at_)).length := rfl
    omega
  have hp := List.takeWhile_prefix (p := fun x : Ent => decide (byteAt x.1 at_ = byteAt e.1 at_)) (l := r)
  have hall := List.all_takeWhile (p := fun x : Ent => decide (byteAt x.1 at_ = byteAt e.1 at_)) (l := r)
  generalize (r.takeWhile fun x => decide (byteAt x.1 at_ = byteAt e.1 at_)) = T at *
  obtain ⟨x, hx⟩ : ∃ x, T[j]? = some x := ⟨T[j], List.getElem?_eq_getElem h'⟩
  have hb := List.all_eq_true.1 hall x (List.mem_of_getElem? hx)
  refine ⟨x, ?_, by simpa using hb⟩
  obtain ⟨t, ht⟩ := hp
  rw [List.getElem?_cons_succ, ← ht, List.getElem?_append_left h']
  exact hx
theorem grp_out {at_ : Nat} {e : Ent} {r : List Ent} (h : grpN at_ (e :: r) < (e :: r).length) : ∃ x, (e :: r)[grpN at_ (e :: r)]? = some x ∧ byteAt x.1 at_ ≠ byteAt e.1 at_ := by
  have hg : grpN at_ (e :: r) = (r.takeWhile fun x => decide (byteAt x.1 at_ = byteAt e.1 at_)).length + 1 := Nat.add_comm _ _
  have hsplit := List.takeWhile_append_dropWhile (p := fun x : Ent => decide (byteAt x.1 at_ = byteAt e.1 at_)) (l := r)
  cases hd : r.dropWhile fun x => decide (byteAt x.1 at_ = byteAt e.1 at_) with
  | nil =>
    rw [hd, List.append_nil] at hsplit
    rw [hg, hsplit, List.length_cons] at h
    omega
  | cons x t =>
    refine ⟨x, ?_, ?_⟩
    · rw [hg, List.getElem?_cons_succ]
      rw [hd] at hsplit
      generalize (r.takeWhile fun x => decide (byteAt x.1 at_ = byteAt e.1 at_)) = T at *
      rw [← hsplit, List.getElem?_append_right (Nat.le_refl _), Nat.sub_self]
      rfl
    · have := List.head_dropWhile_not (p := fun x : Ent => decide (byteAt x.1 at_ = byteAt e.1 at_)) (l := r) (by rw [hd]; simp)
      simp only [hd, List.head_cons] at this
      simpa using this
theorem Okr.drop {at_ : Nat} {told : Int} {l : List Ent} (h : Okr at_ told l) (k : Nat) : Okr at_ told (l.drop k) := by
  obtain ⟨p, hp, hq⟩ := h.pre
  exact ⟨h.srt.sublist (List.drop_sublist _ _), ⟨p, hp, fun e he => hq e (List.mem_of_mem_drop he)⟩, h.t0, fun e he => h.out e (List.mem_of_mem_drop he), fun e he => h.len e (List.mem_of_mem_drop he)⟩
theorem byteAt_pre (p q : List UInt8) (c : UInt8) : byteAt (p ++ c :: q) p.length = (c.toNat : Int) := by
  unfold byteAt
  rw [List.getD_eq_getElem?_getD, List.getElem?_append_right (Nat.le_refl _), Nat.sub_self]
  rfl
theorem Okr.group {at_ : Nat} {told : Int} {e : Ent} {r : List Ent} (h : Okr at_ told (e :: r)) : Okl (at_ + 1) (leastO ((e :: r).take (grpN at_ (e :: r)))) ((e :: r).take (grpN at_ (e :: r))) := by
  obtain ⟨p, hp, hq⟩ := h.pre
  have hsub : ∀ x ∈ (e :: r).take (grpN at_ (e :: r)), x ∈ e :: r := fun x hx => List.mem_of_mem_take hx
  have hne : (e :: r).take (grpN at_ (e :: r)) ≠ [] := by rw [grp_take]; simp
  obtain ⟨c0, q0, e0⟩ := hq e (List.mem_cons_self ..)
  refine ⟨hne, h.srt.sublist (List.take_sublist _ _), ⟨p ++ [c0], by simp [hp], fun x hx => ?_⟩, ?_, fun x hx => ⟨leastO_le hx, (h.out x (hsub x hx)).2⟩, fun x hx => h.len x (hsub x hx)⟩
  · obtain ⟨c, q, hx'⟩ := hq x (hsub x hx)
    have hc : c = c0 := by
      rw [grp_take] at hx
      rcases List.mem_cons.1 hx with rfl | hx
      · rw [e0] at hx'
        have := List.append_cancel_left hx'
        injection this with this _
        exact this.symm
      · have hb := List.all_takeWhile (p := fun x : Ent => decide (byteAt x.1 at_ = byteAt e.1 at_)) (l := r)
        have hb := List.all_eq_true.1 hb x hx
        simp only [decide_eq_true_eq] at hb
        rw [hx', e0, ← hp, byteAt_pre, byteAt_pre] at hb
        exact UInt8.toNat_inj.1 (by omega)
    subst hc
    exact ⟨q, by rw [hx']; simp⟩
  · exact le_leastO hne fun x hx => by have := (h.out x (hsub x hx)).1; have := h.t0; omega
/-- How many nodes there may be. -/
def cost (at_ : Nat) (l : List Ent) : Nat := (l.map fun e => e.1.length - at_).sum
theorem cost_cons (at_ : Nat) (e : Ent) (r : List Ent) : cost at_ (e :: r) = (e.1.length - at_) + cost at_ r := rfl
theorem cost_append (at_ : Nat) (l m : List Ent) : cost at_ (l ++ m) = cost at_ l + cost at_ m := by
  unfold cost
  rw [List.map_append, List.sum_append]
theorem cost_rest (at_ : Nat) (l : List Ent) : cost at_ (restL at_ l) ≤ cost at_ l := by
  cases l with
  | nil =>
    show cost at_ (if 0 = at_ then [] else []) ≤ _
    split <;> exact Nat.le_refl _
  | cons e r =>
    show cost at_ (if e.1.length = at_ then r else e :: r) ≤ _
    split
    · rw [cost_cons]; omega
    · exact Nat.le_refl _
theorem cost_succ {at_ : Nat} {l : List Ent} (h : ∀ e ∈ l, at_ < e.1.length) : cost (at_ + 1) l + l.length = cost at_ l := by
  induction l with
  | nil => rfl
  | cons e r ih =>
    have h1 := h e (List.mem_cons_self ..)
    have h2 := ih fun x hx => h x (List.mem_cons_of_mem _ hx)
    rw [cost_cons, cost_cons, List.length_cons]
    omega
theorem Okr.long {at_ : Nat} {told : Int} {l : List Ent} (h : Okr at_ told l) : ∀ e ∈ l, at_ < e.1.length := by
  obtain ⟨p, hp, hq⟩ := h.pre
  intro e he
  obtain ⟨c, q, e1⟩ := hq e he
  rw [e1]
  simp
  omega
theorem addN_len (ds : List Nd) (d : Nd) : (addN ds d).2.length ≤ ds.length + 1 := by
  unfold addN
  split
  · show ds.length ≤ _; omega
  · show (ds ++ [d]).length ≤ _; simp
theorem waysL_len {rec_ : List Nd → List Ent → Int → Nat × List Nd} {at_ : Nat} {told : Int} (hr : ∀ ds g m, Okl (at_ + 1) m g → (rec_ ds g m).2.length ≤ ds.length + 1 + cost (at_ + 1) g) :
    ∀ (n : Nat) (ds : List Nd) (ws : List (Int × Int × Int)) (l : List Ent), Okr at_ told l → (waysL rec_ at_ told n ds ws l).1.length ≤ ds.length + cost at_ l
  | 0, ds, ws, l, _ => Nat.le_add_right _ _
  | n + 1, ds, ws, [], _ => Nat.le_add_right _ _
  | n + 1, ds, ws, e :: r, h => by
    rw [waysL]
    have h1 := hr ds _ _ h.group
    have h2 := waysL_len hr n (rec_ ds ((e :: r).take (grpN at_ (e :: r))) (leastO ((e :: r).take (grpN at_ (e :: r))))).2 (ws ++ [(byteAt e.1 at_, leastO ((e :: r).take (grpN at_ (e :: r))) - told, ((rec_ ds ((e :: r).take (grpN at_ (e :: r))) (leastO ((e :: r).take (grpN at_ (e :: r))))).1 : Int))]) _ (h.drop (grpN at_ (e :: r)))
    have h3 := cost_succ (l := (e :: r).take (grpN at_ (e :: r))) fun x hx => h.long x (List.mem_of_mem_take hx)
    have h4 : cost at_ (e :: r) = cost at_ ((e :: r).take (grpN at_ (e :: r))) + cost at_ ((e :: r).drop (grpN at_ (e :: r))) := by rw [← cost_append, List.take_append_drop]
    have h5 : 1 ≤ ((e :: r).take (grpN at_ (e :: r))).length := by rw [grp_take]; simp
    omega
theorem nodeF_len : ∀ (f : Nat) (ds : List Nd) (l : List Ent) (at_ : Nat) (told : Int), Okl at_ told l → (nodeF f ds l at_ told).2.length ≤ ds.length + 1 + cost at_ l
  | 0, ds, l, at_, told, _ => by show ds.length ≤ _; omega
  | f + 1, ds, l, at_, told, h => by
    rw [nodeF]
    have h1 := waysL_len (told := told) (fun ds g m hg => nodeF_len f ds g (at_ + 1) m hg) (restL at_ l).length ds [] (restL at_ l) h.rest
    have h2 := cost_rest at_ l
    refine Nat.le_trans (addN_len _ _) ?_
    omega
/-- The loop's next round. -/
theorem waysL_next (rec_ : List Nd → List Ent → Int → Nat × List Nd) (at_ : Nat) (told : Int) (n : Nat) (ds : List Nd) (ws : List (Int × Int × Int)) (e : Ent) (r : List Ent) : waysL rec_ at_ told (n + 1) ds ws (e :: r) =
    waysL rec_ at_ told n (rec_ ds ((e :: r).take (grpN at_ (e :: r))) (leastO ((e :: r).take (grpN at_ (e :: r))))).2 (ws ++ [(byteAt e.1 at_, leastO ((e :: r).take (grpN at_ (e :: r))) - told, ((rec_ ds ((e :: r).take (grpN at_ (e :: r))) (leastO ((e :: r).take (grpN at_ (e :: r))))).1 : Int))]) ((e :: r).drop (grpN at_ (e :: r))) := rfl
theorem waysL_fuel (rec_ : List Nd → List Ent → Int → Nat × List Nd) (at_ : Nat) (told : Int) : ∀ (n m : Nat) (ds : List Nd) (ws : List (Int × Int × Int)) (l : List Ent), l.length ≤ n → l.length ≤ m → waysL rec_ at_ told n ds ws l = waysL rec_ at_ told m ds ws l
  | 0, m, ds, ws, l, h1, h2 => by
    obtain rfl : l = [] := List.eq_nil_of_length_eq_zero (by omega)
    cases m <;> rfl
  | n + 1, 0, ds, ws, l, h1, h2 => by
    obtain rfl : l = [] := List.eq_nil_of_length_eq_zero (by omega)
    rfl
  | n + 1, m + 1, ds, ws, [], _, _ => rfl
  | n + 1, m + 1, ds, ws, e :: r, h1, h2 => by
    rw [waysL_next, waysL_next]
    have hg := grpN_pos at_ e r
    simp only [List.length_cons] at h1 h2 hg
    exact waysL_fuel rec_ at_ told n m _ _ _ (by rw [List.length_drop, List.length_cons]; omega) (by rw [List.length_drop, List.length_cons]; omega)
end Go.Proofs.YtheickndnniomaaDoor
