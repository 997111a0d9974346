/- How far two lists are from one another (plain Lean): the distance from the ends and from the beginnings; it is a distance. -/
import Derived.Test.YtclahhkcbkpofaaDoorHFz1
import Derived.Test.YtclahhkcbkpofaaDoorHFz14
import Derived.Test.YtclahhkcbkpofaaDoorHFz15
import Derived.Test.YtclahhkcbkpofaaDoorHFz45
namespace Go.Proofs.YtclahhkcbkpofaaDoor
/-- From the beginnings on. -/
def lev : List Int → List Int → Nat
  | [], b => b.length
  | a :: u1, [] => (a :: u1).length
  | a :: u1, b :: v1 => min (lev u1 v1 + if a = b then 0 else 1) (min (lev u1 (b :: v1) + 1) (lev (a :: u1) v1 + 1))
termination_by a b => a.length + b.length
theorem lev_nil (b : List Int) : lev [] b = b.length := by rw [lev]
theorem lev_nil2 (a : List Int) : lev a [] = a.length := by
  cases a with
  | nil => rw [lev]
  | cons a u1 => rw [lev]
theorem lev_cons (a b : Int) (u1 v1 : List Int) : lev (a :: u1) (b :: v1) = min (lev u1 v1 + if a = b then 0 else 1) (min (lev u1 (b :: v1) + 1) (lev (a :: u1) v1 + 1)) := by rw [lev]
/-- One list made of another, in so many steps. -/
inductive Al : List Int → List Int → Nat → Prop
  | nil : Al [] [] 0
  | del {x : Int} {a b : List Int} {n : Nat} (h : Al a b n) : Al (x :: a) b (n + 1)
  | ins {y : Int} {a b : List Int} {n : Nat} (h : Al a b n) : Al a (y :: b) (n + 1)
  | sub {x y : Int} {a b : List Int} {n : Nat} (h : Al a b n) : Al (x :: a) (y :: b) (n + if x = y then 0 else 1)
theorem al_ins : ∀ b : List Int, Al [] b b.length
  | [] => .nil
  | _ :: b => .ins (al_ins b)
theorem al_del : ∀ a : List Int, Al a [] a.length
  | [] => .nil
  | _ :: a => .del (al_del a)
theorem lev_al : ∀ a b : List Int, Al a b (lev a b)
  | [], b => by rw [lev_nil]; exact al_ins b
  | a :: u1, [] => by rw [lev_nil2]; exact al_del _
  | a :: u1, b :: v1 => by
    have h1 := lev_al u1 v1
    have h2 := lev_al u1 (b :: v1)
    have h3 := lev_al (a :: u1) v1
    rw [lev_cons]
    have h4 : Al (a :: u1) (b :: v1) (lev u1 v1 + if a = b then 0 else 1) := .sub h1
    have h5 : Al (a :: u1) (b :: v1) (lev u1 (b :: v1) + 1) := .del h2
    have h6 : Al (a :: u1) (b :: v1) (lev (a :: u1) v1 + 1) := .ins h3
    rcases Nat.le_total (lev u1 v1 + if a = b then 0 else 1) (min (lev u1 (b :: v1) + 1) (lev (a :: u1) v1 + 1)) with h | h
    · rw [Nat.min_eq_left h]; exact h4
    · rw [Nat.min_eq_right h]
      rcases Nat.le_total (lev u1 (b :: v1) + 1) (lev (a :: u1) v1 + 1) with h | h
      · rw [Nat.min_eq_left h]; exact h5
      · rw [Nat.min_eq_right h]; exact h6
termination_by a b => a.length + b.length
theorem lev_del (x : Int) (a b : List Int) : lev (x :: a) b ≤ lev a b + 1 := by
  cases b with
  | nil => rw [lev_nil2, lev_nil2]; simp
  | cons y b => rw [lev_cons]; omega
theorem lev_ins (y : Int) (a b : List Int) : lev a (y :: b) ≤ lev a b + 1 := by
  cases a with
  | nil => rw [lev_nil, lev_nil]; simp
  | cons x a => rw [lev_cons]; omega
theorem lev_least {a b : List Int} {n : Nat} (h : Al a b n) : lev a b ≤ n := by
  induction h with
  | nil => rw [lev_nil]; exact Nat.le_refl _
  | @del x a b n _ ih => have := lev_del x a b; omega
  | @ins y a b n _ ih => have := lev_ins y a b; omega
  | @sub x y a b n _ ih => rw [lev_cons]; omega
theorem Al.app {a b c d : List Int} {n m : Nat} (h : Al a b n) (h' : Al c d m) : Al (a ++ c) (b ++ d) (n + m) := by
  induction h with
  | nil => rw [Nat.zero_add]; exact h'
  | @del x a b n _ ih => rw [show n + 1 + m = n + m + 1 by omega]; exact .del ih
  | @ins y a b n _ ih => rw [show n + 1 + m = n + m + 1 by omega]; exact .ins ih
  | @sub x y a b n _ ih => rw [show (n + if x = y then 0 else 1) + m = n + m + if x = y then 0 else 1 by omega]; exact .sub ih
theorem Al.rev {a b : List Int} {n : Nat} (h : Al a b n) : Al a.reverse b.reverse n := by
  induction h with
  | nil => exact .nil
  | @del x a b n _ ih =>
    have := ih.app (Al.del (x := x) Al.nil)
    rw [List.append_nil] at this
    rw [List.reverse_cons]
    exact this
  | @ins y a b n _ ih =>
    have := ih.app (Al.ins (y := y) Al.nil)
    rw [List.append_nil] at this
    rw [List.reverse_cons]
    exact this
  | @sub x y a b n _ ih =>
    have := ih.app (Al.sub (x := x) (y := y) Al.nil)
    rw [Nat.zero_add] at this
    rw [List.reverse_cons, List.reverse_cons]
    exact this
/-- From the ends or from the beginnings: the same. -/
theorem lev_rev (a b : List Int) : lev a.reverse b.reverse = lev a b := by
  have h1 := lev_least (lev_al a b).rev
  have h2 := lev_least (lev_al a.reverse b.reverse).rev
  rw [List.reverse_reverse, List.reverse_reverse] at h2
  omega
/-! ### A distance -/
theorem Al.symm {a b : List Int} {n : Nat} (h : Al a b n) : Al b a n := by
  induction h with
  | nil => exact .nil
  | del _ ih => exact .ins ih
  | ins _ ih => exact .del ih
  | @sub x y a b n _ ih =>
    have := Al.sub (x := y) (y := x) ih
    rw [show (if y = x then 0 else 1) = (if x = y then 0 else 1 : Nat) by
      by_cases e : x = y
      · rw [if_pos e, if_pos e.symm]
      · rw [if_neg e, if_neg fun h => e h.symm]] at this
    exact this
theorem lev_symm (a b : List Int) : lev a b = lev b a := by
  have h1 := lev_least (lev_al a b).symm
  have h2 := lev_least (lev_al b a).symm
  omega
theorem lev_self : ∀ a : List Int, lev a a = 0
  | [] => by rw [lev_nil]; rfl
  | a :: u1 => by
    have := lev_self u1
    rw [lev_cons, if_pos rfl]
    omega
theorem Al.zero {a b : List Int} {n : Nat} (h : Al a b n) : n = 0 → a = b := by
  induction h with
  | nil => exact fun _ => rfl
  | del _ _ => intro h; omega
  | ins _ _ => intro h; omega
  | @sub x y a b n _ ih =>
    intro h
    by_cases e : x = y
    · rw [e, ih (by omega)]
    · rw [if_neg e] at h; omega
theorem lev_zero {a b : List Int} : lev a b = 0 ↔ a = b := ⟨fun h => (lev_al a b).zero h, fun h => by rw [h]; exact lev_self b⟩
/-- Never more than by way of a third. -/
theorem al_trans : ∀ {a b : List Int} {n : Nat}, Al a b n → ∀ {c : List Int} {m : Nat}, Al b c m → ∃ k, k ≤ n + m ∧ Al a c k := by
  intro a b n h
  induction h with
  | nil => exact fun {c m} h => ⟨m, by omega, h⟩
  | @del x a b n _ ih =>
    intro c m h'
    obtain ⟨k, h1, h2⟩ := ih h'
    exact ⟨k + 1, by omega, .del h2⟩
  | @ins y a b n h ih =>
    intro c m h'
    generalize hb : y :: b = yb at h'
    induction h' with
    | nil => cases hb
    | @del z b' c' m h2 _ =>
      injection hb with e1 e2
      subst e1 e2
      obtain ⟨k, h3, h4⟩ := ih h2
      exact ⟨k, by omega, h4⟩
    | @ins z b' c' m h2 ih2 =>
      obtain ⟨k, h3, h4⟩ := ih2 hb
      exact ⟨k + 1, by omega, .ins h4⟩
    | @sub z v b' c' m h2 _ =>
      injection hb with e1 e2
      subst e1 e2
      obtain ⟨k, h3, h4⟩ := ih h2
      exact ⟨k + 1, by omega, .ins h4⟩
  | @sub x y a b n h ih =>
    intro c m h'
    generalize hb : y :: b = yb at h'
    induction h' with
    | nil => cases hb
    | @del z b' c' m h2 _ =>
      injection hb with e1 e2
      subst e1 e2
      obtain ⟨k, h3, h4⟩ := ih h2
      exact ⟨k + 1, by omega, .del h4⟩
    | @ins z b' c' m h2 ih2 =>
      obtain ⟨k, h3, h4⟩ := ih2 hb
      exact ⟨k + 1, by omega, .ins h4⟩
    | @sub z v b' c' m h2 _ =>
      injection hb with e1 e2
      subst e1 e2
      obtain ⟨k, h3, h4⟩ := ih h2
      refine ⟨k + if x = v then 0 else 1, ?_, .sub h4⟩
      by_cases e1 : x = y
      · subst e1
        omega
      · rw [if_neg e1]
        split <;> omega
theorem lev_trans (a b c : List Int) : lev a c ≤ lev a b + lev b c := by
  obtain ⟨k, h1, h2⟩ := al_trans (lev_al a b) (lev_al b c)
  have := lev_least h2
  omega
theorem Al.len {a b : List Int} {n : Nat} (h : Al a b n) : a.length ≤ b.length + n ∧ b.length ≤ a.length + n := by
  induction h with
  | nil => simp
  | del _ ih => simp only [List.length_cons]; omega
  | ins _ ih => simp only [List.length_cons]; omega
  | sub _ ih => simp only [List.length_cons]; omega
theorem lev_len (a b : List Int) : a.length ≤ b.length + lev a b ∧ b.length ≤ a.length + lev a b := (lev_al a b).len
theorem lev_max : ∀ a b : List Int, lev a b ≤ max a.length b.length
  | [], b => by rw [lev_nil]; simp
  | a :: u1, [] => by rw [lev_nil2]; simp
  | a :: u1, b :: v1 => by
    have := lev_max u1 v1
    rw [lev_cons]
    simp only [List.length_cons]
    split <;> omega
/-! ### By beginnings, u1 a row is made -/
/-- What the row says at k when i characters are done. -/
def levB (a b : List Int) (i k : Nat) : Nat := lev (a.take i).reverse (b.take k).reverse
theorem levB_left (a b : List Int) (k : Nat) (hk : k ≤ b.length) : levB a b 0 k = k := by
  unfold levB
  rw [List.take_zero, List.reverse_nil, lev_nil, List.length_reverse, List.length_take]
  omega
theorem levB_top (a b : List Int) (i : Nat) (hi : i ≤ a.length) : levB a b i 0 = i := by
  unfold levB
  rw [List.take_zero, List.reverse_nil, lev_nil2, List.length_reverse, List.length_take]
  omega
theorem levB_step {a b : List Int} {i k : Nat} {x y : Int} (hx : a[i]? = some x) (hy : b[k]? = some y) : levB a b (i + 1) (k + 1) = min (levB a b i k + if x = y then 0 else 1) (min (levB a b i (k + 1) + 1) (levB a b (i + 1) k + 1)) := by
  obtain ⟨hi, rfl⟩ := List.getElem?_eq_some_iff.1 hx
  obtain ⟨hk, rfl⟩ := List.getElem?_eq_some_iff.1 hy
  unfold levB
  rw [List.take_succ_eq_append_getElem hi, List.take_succ_eq_append_getElem hk, List.reverse_append, List.reverse_append]
  exact lev_cons _ _ _ _
theorem levB_all (a b : List Int) : levB a b a.length b.length = lev a b := by
  unfold levB
  rw [List.take_length, List.take_length, lev_rev]
theorem lev_drop {a b : List Int} {i k : Nat} {x y : Int} (hx : a[i]? = some x) (hy : b[k]? = some y) : lev (a.drop i) (b.drop k) = min (lev (a.drop (i + 1)) (b.drop (k + 1)) + if x = y then 0 else 1) (min (lev (a.drop (i + 1)) (b.drop k) + 1) (lev (a.drop i) (b.drop (k + 1)) + 1)) := by
  obtain ⟨hi, rfl⟩ := List.getElem?_eq_some_iff.1 hx
  obtain ⟨hk, rfl⟩ := List.getElem?_eq_some_iff.1 hy
  rw [List.drop_eq_getElem_cons hi, List.drop_eq_getElem_cons hk]
  exact lev_cons _ _ _ _
end Go.Proofs.YtclahhkcbkpofaaDoor
/- fuzzy.Distance: the row that is made. -/
namespace Go.Proofs.YtclahhkcbkpofaaDoor
open Go.RowKit
set_option linter.unusedVariables false
/-- A row of n + 1 numbers, by a function. -/
def rowF (n : Nat) (F : Nat → Int) : List Value := (List.range (n + 1)).map fun q => .int .i64 (F q)
theorem rowF_at {n : Nat} {F : Nat → Int} {k : Nat} (h : k ≤ n) : (rowF n F)[k]? = some (.int .i64 (F k)) := by
  unfold rowF
  rw [List.getElem?_map, List.getElem?_range (by omega)]
  rfl
theorem rowF_put {n : Nat} {F : Nat → Int} {k : Nat} {v : Int} : (rowF n F).set k (.int .i64 v) = rowF n fun q => if q = k then v else F q := by
  unfold rowF
  apply List.ext_getElem?
  intro j
  by_cases e : k = j
  · subst e
    by_cases hk : k < n + 1
    · rw [List.getElem?_set_self (by simp; omega), List.getElem?_map, List.getElem?_range hk]
      simp
    · rw [List.getElem?_eq_none (by simp; omega), List.getElem?_eq_none (by simp; omega)]
  · rw [List.getElem?_set_ne e, List.getElem?_map, List.getElem?_map]
    by_cases hj : j < n + 1
    · rw [List.getElem?_range hj]
      simp [show ¬ j = k from fun h => e h.symm]
    · rw [List.getElem?_eq_none (by simp; omega)]
      rfl
theorem rowF_zero (n : Nat) : List.replicate (n + 1) (Value.int .i64 0) = rowF n fun _ => 0 := by
  unfold rowF
  apply List.ext_getElem?
  intro j
  by_cases hj : j < n + 1
  · rw [List.getElem?_replicate, if_pos hj, List.getElem?_map, List.getElem?_range hj]
    rfl
  · rw [List.getElem?_eq_none (by simp; omega), List.getElem?_eq_none (by simp; omega)]
/-- A store into such a row. -/
theorem rowF_store {w : World} {b g n c k : Nat} {F : Nat → Int} {v : Int} (h : w.ownsRow b 3 1 (.slice (some ⟨g, 0, none⟩) (n + 1) c) (n + 1) (rowF n F)) : (w.setCell ⟨g, k, none⟩ (.int .i64 v)).ownsRow b 3 1 (.slice (some ⟨g, 0, none⟩) (n + 1) c) (n + 1) (rowF n fun q => if q = k then v else F q) := by
  have := own_put (j := k) (u := .int .i64 v) h
  rwa [rowF_put] at this
theorem levB_bound (a b : List Int) (i k : Nat) : levB a b i k ≤ max a.length b.length := by
  have := lev_max (a.take i).reverse (b.take k).reverse
  unfold levB
  rw [List.length_reverse, List.length_reverse, List.length_take, List.length_take] at this
  omega
set_option maxRecDepth 100000 in
set_option maxHeartbeats 8000000 in
theorem distance_any (w : World) (B : Nat) (hB : B ≤ w.heap.size) (A1 A2 : Option Addr) (m n c1 c2 : Nat) (a b : List Int) (h1 : Sl w B 1 A1 m (a.map (.int .i64))) (h2 : Sl w B 1 A2 n (b.map (.int .i64))) (hm : m ≤ 100) (hn : n ≤ 100) :
    Calls Tryd.prog 22 #[.slice A1 m c1, .slice A2 n c2] w fun e w' => e = .returned (.int .i64 ((lev a b : Nat) : Int)) ∧ Below w.heap.size w w' := by
  have HA : Hid (a.length = m) := by have := h1.1; show _ = _; simpa using this
  have HBL : Hid (b.length = n) := by have := h2.1; show _ = _; simpa using this
  have HS1 := Lib.hid h1
  have HS2 := Lib.hid h2
  have hmk := fun W => make_int (n + 1) (by omega) W
  have hcn : ((n + 1 : Nat) : Int) = (n : Int) + 1 := by omega
  rw [hcn] at hmk
  have ho0 := own_made w (.int .i64 0) (n + 1) (by omega) 3 (nb := w.heap.size) rfl (base := w.heap.size) (Nat.le_refl _)
  rw [rowF_zero] at ho0
  have HO0 := Lib.hid ho0
  have HB0 := Lib.hid (bnew (brefl w) (.cells (madeCells #[.int .i64 0] (n + 1)) 3))
  obtain ⟨G, hG⟩ : ∃ G, w.heap.size = G := ⟨_, rfl⟩
  have HG := Lib.hid hG
  have HBND : Hid (∀ i k, levB a b i k ≤ 100) := fun i k => by
    have := levB_bound a b i k
    rw [HA.out, HBL.out] at this
    omega
  rw [hG] at HO0
  clear h1 h2 ho0 hcn
  go_enter Tryd.func22, Tryd.ntmps22
  go_wp2_with fail
  generalize w.alloc (.cells (madeCells #[.int .i64 0] (n + 1)) 3) = W0 at *
  clear hmk hG
  go_loopw [17] (fun iv wr => ∃ (j : Nat) (F : Nat → Int), j ≤ n + 1 ∧ iv = .int .i64 (j : Int) ∧ Hid (wr.ownsRow G 3 1 (.slice (some ⟨G, 0, none⟩) (n + 1) (n + 1)) (n + 1) (rowF n F)) ∧ Hid (Below w.heap.size w wr) ∧ Hid (∀ q, q < j → F q = (q : Int))) (fun iv _ => n + 1 - (intOf iv).toNat)
  case atStart => exact ⟨0, _, Nat.zero_le _, rfl, HO0, HB0, fun q hq => absurd hq (Nat.not_lt_zero _)⟩
  case round =>
    obtain ⟨j, F, hj, rfl, HO, HB, HF⟩ := hrel
    clear HO0 HB0
    by_cases hjn : j < n + 1
    · have q1 : decide ((j : Int) < (n : Int) + 1) = true := decide_eq_true (by omega)
      have q2 : decide (j < n + 1) = true := decide_eq_true hjn
      obtain ⟨_, hgw, cs, hcs⟩ := own_blk HO.out
      have r0 := own_cell HO.out (rowF_at (k := j) (by omega))
      have f0 := free_at hcs j
      have HON := Lib.hid (rowF_store (k := j) (v := (j : Int)) HO.out)
      have HBN := Lib.hid (below_set (j := j) (u := .int .i64 (j : Int)) HB.out (by rw [HG.out]; exact Nat.le_refl G) (Nat.le_refl _))
      have HFN : Hid (∀ q, q < j + 1 → (if q = j then (j : Int) else F q) = (q : Int)) := fun q hq => by
        by_cases e : q = j
        · rw [if_pos e, e]
        · rw [if_neg e]; exact HF.out q (by omega)
      clear hcs HO HF
      go_wp2_with fail
      go_roundw
      case rel => exact ⟨j + 1, _, by omega, by go_num, HON, HBN, HFN⟩
      case measure => simp [intOf]; omega
    · obtain rfl : j = n + 1 := by omega
      have q1 : decide ((n : Int) + 1 < (n : Int) + 1) = false := decide_eq_false (by omega)
      have HF1 : Hid (∀ k, k ≤ n → F k = ((levB a b 0 k : Nat) : Int)) := fun k hk => by rw [HF.out k (by omega), levB_left a b k (by rw [HBL.out]; exact hk)]
      clear HF
      go_wp2_with fail
      go_loopw [27] (fun iv W => ∃ (i : Nat) (F : Nat → Int), i ≤ m ∧ iv = .int .i64 (i : Int) ∧ Hid (W.ownsRow G 3 1 (.slice (some ⟨G, 0, none⟩) (n + 1) (n + 1)) (n + 1) (rowF n F)) ∧ Hid (Below w.heap.size w W) ∧ Hid (∀ k, k ≤ n → F k = ((levB a b i k : Nat) : Int))) (fun iv _ => m - (intOf iv).toNat)
      case atStart => exact ⟨0, F, Nat.zero_le _, rfl, HO, HB, HF1⟩
      case round =>
        clear HO HB HF1 F
        obtain ⟨i, F, hi, rfl, HO, HB, HF⟩ := hrel
        by_cases him : i < m
        · have q3 : decide ((i : Int) < (m : Int)) = true := decide_eq_true (by omega)
          have q4 : decide (i < m) = true := decide_eq_true him
          obtain ⟨x, hx⟩ : ∃ x, a[i]? = some x := ⟨a[i]'(by rw [HA.out]; exact him), List.getElem?_eq_getElem _⟩
          have HX := Lib.hid hx
          obtain ⟨ba, oa, rfl, hba, hca⟩ := HS1.out.at_ him
          have HCA : Hid (∀ W, Below w.heap.size w W → W.cell? ⟨ba, oa + i, none⟩ = some (.int .i64 x) ∧ ba < W.heap.size) := fun W hW => ⟨(hW.cell (p := ⟨ba, oa + i, none⟩) (by show ba < _; omega)).trans (hca i (.int .i64 x) (by rw [List.getElem?_map, hx]; rfl)), Nat.lt_of_lt_of_le hba (Nat.le_trans hB hW.size)⟩
          obtain ⟨_, hgw, cs, hcs⟩ := own_blk HO.out
          have r0 := own_cell HO.out (rowF_at (k := 0) (Nat.zero_le _))
          have e0 : F 0 = (i : Int) := by rw [HF.out 0 (Nat.zero_le _), levB_top a b i (by rw [HA.out]; exact hi)]
          rw [e0] at r0
          have f0 := free_at hcs 0
          have HON := Lib.hid (rowF_store (k := 0) (v := (i : Int) + 1) HO.out)
          have HBN := Lib.hid (below_set (j := 0) (u := .int .i64 ((i : Int) + 1)) HB.out (by rw [HG.out]; exact Nat.le_refl G) (Nat.le_refl _))
          have HF2 : Hid (∀ q, q ≤ 0 → (if q = 0 then (i : Int) + 1 else F q) = ((levB a b (i + 1) q : Nat) : Int)) := fun q hq => by
            obtain rfl : q = 0 := by omega
            rw [if_pos rfl, levB_top a b (i + 1) (by rw [HA.out]; omega)]
            omega
          have HF3 : Hid (∀ q, 0 < q → q ≤ n → (if q = 0 then (i : Int) + 1 else F q) = ((levB a b i q : Nat) : Int)) := fun q h0 hq => by
            rw [if_neg (by omega)]
            exact HF.out q hq
          have el0 : ((levB a b i 0 : Nat) : Int) = (i : Int) := by rw [levB_top a b i (by rw [HA.out]; exact hi)]
          have HL0 := Lib.hid el0
          clear hcs HO HF e0 hca el0 hx
          go_wp2_with fail
          go_loopw [8, 39] (fun lv kv W => ∃ (k : Nat) (F : Nat → Int), k ≤ n ∧ kv = .int .i64 (k : Int) ∧ lv = .int .i64 ((levB a b i k : Nat) : Int) ∧ Hid (W.ownsRow G 3 1 (.slice (some ⟨G, 0, none⟩) (n + 1) (n + 1)) (n + 1) (rowF n F)) ∧ Hid (Below w.heap.size w W) ∧ Hid (∀ q, q ≤ k → F q = ((levB a b (i + 1) q : Nat) : Int)) ∧ Hid (∀ q, k < q → q ≤ n → F q = ((levB a b i q : Nat) : Int))) (fun _ kv _ => n - (intOf kv).toNat)
          case atStart => exact ⟨0, _, Nat.zero_le _, rfl, by rw [HL0.out], HON, HBN, HF2, HF3⟩
          case round =>
            clear HON HBN HF2 HF3 r0 f0 hgw F HL0
            obtain ⟨k, F, hk, rfl, rfl, HO, HB, HF2, HF3⟩ := hrel
            by_cases hkn : k < n
            · have q5 : decide ((k : Int) < (n : Int)) = true := decide_eq_true (by omega)
              have q6 : decide (k < n) = true := decide_eq_true hkn
              obtain ⟨y, hy⟩ : ∃ y, b[k]? = some y := ⟨b[k]'(by rw [HBL.out]; exact hkn), List.getElem?_eq_getElem _⟩
              obtain ⟨bb, ob, rfl, hbb, hcb⟩ := HS2.out.at_ hkn
              have hcy : wr.cell? ⟨bb, ob + k, none⟩ = some (.int .i64 y) := (HB.out.cell (p := ⟨bb, ob + k, none⟩) (by show bb < _; omega)).trans (hcb k (.int .i64 y) (by rw [List.getElem?_map, hy]; rfl))
              have hbw : bb < wr.heap.size := Nat.lt_of_lt_of_le hbb (Nat.le_trans hB HB.out.size)
              obtain ⟨hcx, haw⟩ := HCA.out wr HB.out
              have HST := Lib.hid (levB_step HX.out hy)
              have b1 := HBND.out i k
              have b2 := HBND.out i (k + 1)
              have b3 := HBND.out (i + 1) k
              obtain ⟨P1, hP1⟩ : ∃ z, levB a b i k = z := ⟨_, rfl⟩
              obtain ⟨P2, hP2⟩ : ∃ z, levB a b i (k + 1) = z := ⟨_, rfl⟩
              obtain ⟨P3, hP3⟩ : ∃ z, levB a b (i + 1) k = z := ⟨_, rfl⟩
              obtain ⟨_, hgw, cs, hcs⟩ := own_blk HO.out
              have r1 := own_cell HO.out (rowF_at (k := k) (by omega))
              have r2 := own_cell HO.out (rowF_at (k := k + 1) (by omega))
              rw [HF2.out k (Nat.le_refl _), hP3] at r1
              rw [HF3.out (k + 1) (by omega) (by omega), hP2] at r2
              have f1 := free_at hcs (k + 1)
              rw [hP1, hP2, hP3] at HST
              rw [hP1] at b1 ⊢
              rw [hP2] at b2
              rw [hP3] at b3
              have HP2 := Lib.hid hP2
              have HGO : Hid (∀ v : Int, v = ((levB a b (i + 1) (k + 1) : Nat) : Int) → Hid ((wr.setCell ⟨G, k + 1, none⟩ (.int .i64 v)).ownsRow G 3 1 (.slice (some ⟨G, 0, none⟩) (n + 1) (n + 1)) (n + 1) (rowF n fun q => if q = k + 1 then v else F q)) ∧ Hid (Below w.heap.size w (wr.setCell ⟨G, k + 1, none⟩ (.int .i64 v))) ∧ Hid (∀ q, q ≤ k + 1 → (if q = k + 1 then v else F q) = ((levB a b (i + 1) q : Nat) : Int)) ∧ Hid (∀ q, k + 1 < q → q ≤ n → (if q = k + 1 then v else F q) = ((levB a b i q : Nat) : Int))) := fun v hv => by
                refine ⟨rowF_store HO.out, below_set HB.out (by rw [HG.out]; exact Nat.le_refl G) (Nat.le_refl _), fun q hq => ?_, fun q h0 hq => ?_⟩
                · by_cases e : q = k + 1
                  · rw [if_pos e, e]; exact hv
                  · rw [if_neg e]; exact HF2.out q (by omega)
                · rw [if_neg (by omega)]
                  exact HF3.out q (by omega) hq
              clear hcs HO HF2 HF3 hcb hy hP1 hP2 hP3
              by_cases hxy : x = y
              · have hne : (x != y) = false := by simp [hxy]
                rw [if_pos hxy] at HST
                obtain ⟨v1, v2, v3, v4⟩ := HGO.out (if (P2 : Int) + 1 < (if (P3 : Int) + 1 < (P1 : Int) then (P3 : Int) + 1 else (P1 : Int)) then (P2 : Int) + 1 else (if (P3 : Int) + 1 < (P1 : Int) then (P3 : Int) + 1 else (P1 : Int))) (by
                  rw [HST.out]
                  split <;> split at * <;> omega)
                clear hxy HGO HST
                go_wp2_with fail
                go_region
                go_wp2_with fail
                go_roundw
                case rel => exact ⟨k + 1, _, by omega, by go_num, by rw [HP2.out], v1, v2.out.drew, v3, v4⟩
                case measure => simp [intOf]; omega
              · have hne : (x != y) = true := by rw [bne_iff_ne]; exact hxy
                rw [if_neg hxy] at HST
                obtain ⟨v1, v2, v3, v4⟩ := HGO.out (if (P2 : Int) + 1 < (if P3 < P1 then (P3 : Int) + 1 else (P1 : Int) + 1) then (P2 : Int) + 1 else (if P3 < P1 then (P3 : Int) + 1 else (P1 : Int) + 1)) (by
                  rw [HST.out]
                  split <;> split at * <;> omega)
                clear hxy HGO HST
                go_wp2_with fail
                go_region
                go_wp2_with fail
                go_roundw
                case rel => exact ⟨k + 1, _, by omega, by go_num, by rw [HP2.out], v1, v2.out.drew, v3, v4⟩
                case measure => simp [intOf]; omega
            · obtain rfl : k = n := by omega
              have q5 : decide ((k : Int) < (k : Int)) = false := decide_eq_false (by omega)
              have HFA : Hid (∀ q, q ≤ k → F q = ((levB a b (i + 1) q : Nat) : Int)) := HF2
              clear HF2 HF3
              go_wp2_with fail
              go_roundw
              case rel => exact ⟨i + 1, F, by omega, by go_num, HO, HB, HFA⟩
              case measure => simp [intOf]; omega
        · obtain rfl : i = m := by omega
          have q3 : decide ((i : Int) < (i : Int)) = false := decide_eq_false (by omega)
          have r0 := own_cell HO.out (rowF_at (k := n) (Nat.le_refl _))
          have e0 : F n = ((lev a b : Nat) : Int) := by rw [HF.out n (Nat.le_refl _), ← levB_all, HA.out, HBL.out]
          rw [e0] at r0
          obtain ⟨_, hgw, _⟩ := own_blk HO.out
          clear e0 HF HO
          go_wp2_with fail
          go_ret
          exact ⟨rfl, HB.out⟩
end Go.Proofs.YtclahhkcbkpofaaDoor
/- Chapter 11's awake. -/
namespace Go.Proofs.YtclahhkcbkpofaaDoor
open Go.RowKit
open Sp
set_option linter.unusedVariables false
theorem fox_fuzA : fuzA [102, 111, 120] 1 1 = leadsL foxL foxE := by
  show leadsL (fuzL 3 1 1 ((3 + 1) * (1 + 1))) (fuzE [102, 111, 120] 1 1 ((3 + 1) * (1 + 1))) = _
  rw [fox_L, fox_E]
theorem fox_lets : letsE (([102, 111, 120] : List Int).map foldI) [] = 0 := by decide
theorem fox_fold : ([102, 111, 120] : List Int).map foldI = [102, 111, 120] := by decide
theorem lev_12_2 : lev [1, 2] [2] = 1 := by simp [lev_cons, lev_nil, lev_nil2]
set_option maxRecDepth 100000 in
set_option maxHeartbeats 8000000 in
theorem fawake_any (w : World) (hT : Tab w) : Calls Tryd.prog 21 #[] w fun e w' => e = .returned (.bool true) ∧ Below w.heap.size w w' := by
  have HW := Lib.hid (fuzzy_any w [102, 111, 120] (by simp) hT [102, 111, 120] dec_word fox_lets [102, 111, 120] fox_fold 1 1 (by omega) (by simp) (fun g => by rw [fox_fuzA]; exact fox_sets g))
  clear hT
  go_enter Tryd.func21, Tryd.ntmps21
  go_wp2_with fail
  refine HW.out.mono ?_
  rintro e w1 ⟨hb1, A, c, hs, rfl, hst, _, _, hmq⟩
  have HB1 := Lib.hid hb1
  have HS1 := Lib.hid hst
  have HT1 := Lib.hid ((hmq [102, 97, 120]).trans ((congrArg (fun l => looseTakes l _) fox_fuzA).trans fox_fax))
  have HT2 := Lib.hid ((hmq [102, 111, 120, 121]).trans ((congrArg (fun l => looseTakes l _) fox_fuzA).trans fox_foxy))
  have HT3 := Lib.hid ((hmq [98, 111, 120]).trans ((congrArg (fun l => looseTakes l _) fox_fuzA).trans fox_box))
  clear hb1 hst hmq HW
  obtain ⟨nx, hnx⟩ : ∃ k, hs.length = k := ⟨_, rfl⟩
  rw [hnx] at HS1 ⊢
  clear hnx
  go_wp2_with fail
  refine (accepts_any w1 w1.heap.size (Nat.le_refl _) A nx c hs HS1.out [102, 97, 120] (by simp)).mono ?_
  rintro e w2 ⟨rfl, hb2⟩
  rw [HT1.out]
  have HS2 := Lib.hid (HS1.out.keep hb2 (Nat.le_refl _))
  have HB2 := Lib.hid (bcall HB1.out hb2)
  have hs2 := hb2.size
  clear hb2
  go_wp2_with fail
  refine (accepts_any w2 w1.heap.size hs2 A nx c hs HS2.out [102, 111, 120, 121] (by simp)).mono ?_
  rintro e w3 ⟨rfl, hb3⟩
  rw [HT2.out]
  have HS3 := Lib.hid (HS2.out.keep (hb3.mono hs2) (Nat.le_refl _))
  have HB3 := Lib.hid (bcall HB2.out hb3)
  have hs3 := hb3.size
  clear hb3
  go_wp2_with fail
  refine (accepts_any w3 w1.heap.size (by omega) A nx c hs HS3.out [98, 111, 120] (by simp)).mono ?_
  rintro e w4 ⟨rfl, hb4⟩
  rw [HT3.out]
  have HB4 := Lib.hid (bcall HB3.out hb4)
  clear hb4
  go_wp2_with fail
  have hl1 := Sl.of_own (own_new w4 #[.int .i64 1, .int .i64 2] 3 1 2 rfl (by unfold maxLen; omega) (nb := w4.heap.size) rfl (base := w4.heap.size) (Nat.le_refl _))
  obtain ⟨w5, hw5⟩ : ∃ W, w4.alloc (.cells #[.int .i64 1, .int .i64 2] 3) = W := ⟨_, rfl⟩
  have hz5 : w4.heap.size + 1 = w5.heap.size := by rw [← hw5]; simp
  have hb5 : Below w4.heap.size w4 w5 := by rw [← hw5]; exact bnew (brefl w4) _
  rw [hw5] at hl1 ⊢
  rw [hz5]
  have hl2 := Sl.of_own (own_new w5 #[.int .i64 2] 3 1 1 rfl (by unfold maxLen; omega) (nb := w5.heap.size) rfl (base := w5.heap.size) (Nat.le_refl _))
  have hb6 : Below w5.heap.size w5 (w5.alloc (.cells #[.int .i64 2] 3)) := bnew (brefl w5) _
  refine (distance_any (w5.alloc (.cells #[.int .i64 2] 3)) _ (Nat.le_refl _) _ _ 2 1 2 1 [1, 2] [2] ((hl1.below hb6).more hb6.size) hl2 (by omega) (by omega)).mono ?_
  rintro e w7 ⟨rfl, hb7⟩
  rw [lev_12_2]
  have HB7 := Lib.hid (bcall (bcall (bcall HB4.out hb5) hb6) hb7)
  clear hl1 hl2 hb5 hb6 hb7 hz5 hw5
  go_wp2_with fail
  go_ret
  exact ⟨rfl, HB7.out⟩
end Go.Proofs.YtclahhkcbkpofaaDoor
