/- How scores are ordered: the plain law of ScoreOrders. -/
import Derived.Test.YtdiekkligpinkaaScs
namespace Go.Proofs.Ytdiekkligpinkaa
open Go.RowKit

theorem div_le_div {a b c d : Nat} (hb : 0 < b) (hd : 0 < d) (h : a * d ≤ c * b) : a / b ≤ c / d := by
  rw [Nat.le_div_iff_mul_le hd]
  refine Nat.le_of_mul_le_mul_right (c := b) ?_ hb
  have h1 : a / b * b ≤ a := Nat.div_mul_le_self a b
  have h2 : a / b * d * b = a / b * b * d := by ac_rfl
  rw [h2]
  exact Nat.le_trans (Nat.mul_le_mul_right _ h1) h

/-- The score out of its parts, in natural numbers. -/
def Sx (v p k : Nat) : Nat := v * (22 * p) / (10 * p + k)
theorem sx_p {v p q k : Nat} (hp : 1 ≤ p) (h : p ≤ q) : Sx v p k ≤ Sx v q k := by
  unfold Sx
  refine div_le_div (by omega) (by omega) ?_
  have e1 : v * (22 * p) * (10 * q + k) = v * 22 * (10 * (p * q)) + v * 22 * (p * k) := by rw [Nat.mul_add]; congr 1 <;> ac_rfl
  have e2 : v * (22 * q) * (10 * p + k) = v * 22 * (10 * (p * q)) + v * 22 * (q * k) := by rw [Nat.mul_add]; congr 1 <;> ac_rfl
  rw [e1, e2]
  exact Nat.add_le_add_left (Nat.mul_le_mul_left _ (Nat.mul_le_mul_right _ h)) _
theorem sx_k {v p k l : Nat} (hp : 1 ≤ p) (h : k ≤ l) : Sx v p l ≤ Sx v p k := by
  unfold Sx
  exact Nat.div_le_div_left (by omega) (by omega)
theorem sx_v {u v p k : Nat} (h : u ≤ v) : Sx u p k ≤ Sx v p k := by
  unfold Sx
  exact Nat.div_le_div_right (Nat.mul_le_mul_right _ h)
theorem sx_top {v p k : Nat} (hp : 1 ≤ p) : 10 * Sx v p k ≤ 22 * v := by
  unfold Sx
  refine Nat.le_of_mul_le_mul_right (c := 10 * p + k) ?_ (by omega)
  have h1 : v * (22 * p) / (10 * p + k) * (10 * p + k) ≤ v * (22 * p) := Nat.div_mul_le_self _ _
  generalize v * (22 * p) / (10 * p + k) = s at *
  have h2 : 10 * s * (10 * p + k) = 10 * (s * (10 * p + k)) := by ac_rfl
  rw [h2]
  refine Nat.le_trans (Nat.mul_le_mul_left 10 h1) ?_
  have h3 : 22 * v * (10 * p + k) = 22 * v * (10 * p) + 22 * v * k := Nat.mul_add _ _ _
  have h4 : 10 * (v * (22 * p)) = 22 * v * (10 * p) := by ac_rfl
  rw [h3, h4]
  omega

theorem scn_sx {c : Counts} (h : CountsOk c) : ScN c = Sx (WtV c.docs c.have_).toNat (c.times * c.total).toNat (3 * c.total + 9 * c.len * c.docs).toNat := by
  have hp := part_bounds h
  have hl := ld_bounds h
  have ht := h.n1
  have ht2 := h.t1
  have ht3 := h.t2
  unfold ScN Num Den Sx
  generalize c.times * c.total = p at *
  generalize 9 * c.len * c.docs = q at *
  rw [show (22 * p).toNat = 22 * p.toNat by omega, show (10 * p + 3 * c.total + q).toNat = 10 * p.toNat + (3 * c.total + q).toNat by omega]

theorem ok_of {c : Counts} (h : CountsOk c) : c.ok = true :=
  (Counts.ok_yes ⟨h.d1, h.d2, h.h1, h.h2, h.t1, h.t2, h.l1, h.n1, h.n2⟩).symm
theorem ord_times {c : Counts} (h : CountsOk c) {t : Int} (h1 : c.times ≤ t) (h2 : t ≤ c.len) : ({ c with times := t } : Counts).ok = true ∧ ScN c ≤ ScN { c with times := t } := by
  have h' : CountsOk { c with times := t } := ⟨h.d1, h.d2, h.h1, h.h2, Int.le_trans h.t1 h1, h2, h.l1, h.n1, h.n2⟩
  refine ⟨ok_of h', ?_⟩
  rw [scn_sx h, scn_sx h']
  have hp := (part_bounds h).1
  have : c.times * c.total ≤ t * c.total := Int.mul_le_mul_of_nonneg_right h1 (by have := h.n1; have := h.t1; have := h.t2; omega)
  exact sx_p (p := (c.times * c.total).toNat) (q := (t * c.total).toNat) (by omega) (by omega)
theorem ord_len {c : Counts} (h : CountsOk c) {l : Int} (h1 : c.len ≤ l) (h2 : l ≤ 4096) (h3 : l ≤ c.total) : ({ c with len := l } : Counts).ok = true ∧ ScN { c with len := l } ≤ ScN c := by
  have h' : CountsOk { c with len := l } := ⟨h.d1, h.d2, h.h1, h.h2, h.t1, Int.le_trans h.t2 h1, h2, h3, h.n2⟩
  refine ⟨ok_of h', ?_⟩
  rw [scn_sx h, scn_sx h']
  have hp := (part_bounds h).1
  have : 9 * c.len * c.docs ≤ 9 * l * c.docs := Int.mul_le_mul_of_nonneg_right (by omega) (by have := h.d1; omega)
  exact sx_k (p := (c.times * c.total).toNat) (by omega) (by show (3 * c.total + 9 * c.len * c.docs).toNat ≤ (3 * c.total + 9 * l * c.docs).toNat; omega)
theorem wt_down {d a b : Int} (h0 : 1 ≤ d ∧ d ≤ 1073741824 ∧ 1 ≤ a ∧ a ≤ d) (h : a ≤ b) (h1 : b ≤ d) : WtV d b ≤ WtV d a := by
  rw [(wt_yes h0).1, (wt_yes (d := d) (h := b) (by omega)).1]
  have := logV_mono (x := 2 * a + 1) (y := 2 * b + 1) (by omega) (by omega)
  omega
theorem ord_have {c : Counts} (h : CountsOk c) {a : Int} (h1 : c.have_ ≤ a) (h2 : a ≤ c.docs) : ({ c with have_ := a } : Counts).ok = true ∧ ScN { c with have_ := a } ≤ ScN c := by
  have h' : CountsOk { c with have_ := a } := ⟨h.d1, h.d2, Int.le_trans h.h1 h1, h2, h.t1, h.t2, h.l1, h.n1, h.n2⟩
  refine ⟨ok_of h', ?_⟩
  rw [scn_sx h, scn_sx h']
  have := wt_down (d := c.docs) (a := c.have_) (b := a) ⟨h.d1, h.d2, h.h1, h.h2⟩ h1 h2
  exact sx_v (u := (WtV c.docs a).toNat) (v := (WtV c.docs c.have_).toNat) (by omega)
theorem ord_top {c : Counts} (h : CountsOk c) : 10 * (ScN c : Int) ≤ 22 * WtV c.docs c.have_ ∧ 0 ≤ WtV c.docs c.have_ := by
  have hw := wt_bounds ⟨h.d1, h.d2, h.h1, h.h2⟩
  have := sx_top (v := (WtV c.docs c.have_).toNat) (p := (c.times * c.total).toNat) (k := (3 * c.total + 9 * c.len * c.docs).toNat) (by have := (part_bounds h).1; omega)
  rw [← scn_sx h] at this
  omega
end Go.Proofs.Ytdiekkligpinkaa
