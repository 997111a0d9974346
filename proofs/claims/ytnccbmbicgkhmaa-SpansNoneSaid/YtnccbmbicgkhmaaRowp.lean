/- The rows of a range: the plain text and its laws. -/
import Derived.Test.YtnccbmbicgkhmaaUtf
namespace Go.Proofs.Ytnccbmbicgkhmaa

def szC (c : Int) : Int := if c < 128 then 1 else if c < 2048 then 2 else if c < 65536 then 3 else 4
theorem szC_len (c : Int) : ((encC c).length : Int) = szC c := by
  unfold encC szC
  split
  · rfl
  · split
    · rfl
    · split <;> rfl
/-- Where a range is cut, if it is. -/
def cutC (lo hi : Int) : Option Int :=
  if lo / 64 ≠ hi / 64 ∧ 1 < szC lo ∧ lo % 64 ≠ 0 then some (lo - lo % 64 + 64)
  else if lo / 64 ≠ hi / 64 ∧ 1 < szC lo ∧ hi % 64 ≠ 63 then some (hi - hi % 64)
  else if lo / 4096 ≠ hi / 4096 ∧ 2 < szC lo ∧ lo % 4096 ≠ 0 then some (lo - lo % 4096 + 4096)
  else if lo / 4096 ≠ hi / 4096 ∧ 2 < szC lo ∧ hi % 4096 ≠ 4095 then some (hi - hi % 4096)
  else if lo / 262144 ≠ hi / 262144 ∧ 3 < szC lo ∧ lo % 262144 ≠ 0 then some (lo - lo % 262144 + 262144)
  else if lo / 262144 ≠ hi / 262144 ∧ 3 < szC lo ∧ hi % 262144 ≠ 262143 then some (hi - hi % 262144)
  else none
theorem cut_in {lo hi c : Int} (h : lo ≤ hi) (hc : cutC lo hi = some c) : lo < c ∧ c ≤ hi := by
  unfold cutC at hc
  split at hc
  · injection hc; omega
  split at hc
  · injection hc; omega
  split at hc
  · injection hc; omega
  split at hc
  · injection hc; omega
  split at hc
  · injection hc; omega
  split at hc
  · injection hc; omega
  · cases hc
def leafC (lo hi : Int) : List (Int × Int) := (encC lo).zip (encC hi)
def rowsF : Nat → Int → Int → List (List (Int × Int))
  | 0, _, _ => []
  | n + 1, lo, hi => match cutC lo hi with
    | some c => rowsF n lo (c - 1) ++ rowsF n c hi
    | none => [leafC lo hi]
theorem rowsF_more : ∀ (n m : Nat) (lo hi : Int), lo ≤ hi → (hi - lo).toNat < n → n ≤ m → rowsF m lo hi = rowsF n lo hi
  | 0, _, _, _, _, h, _ => by omega
  | n + 1, 0, _, _, _, _, h => by omega
  | n + 1, m + 1, lo, hi, h, hn, hm => by
    rw [rowsF, rowsF]
    cases hc : cutC lo hi with
    | none => rfl
    | some c =>
      obtain ⟨h1, h2⟩ := cut_in h hc
      simp only
      rw [rowsF_more n m lo (c - 1) (by omega) (by omega) (by omega), rowsF_more n m c hi (by omega) (by omega) (by omega)]
def rowsP (lo hi : Int) : List (List (Int × Int)) := rowsF ((hi - lo).toNat + 1) lo hi
theorem rowsP_cut {lo hi c : Int} (h : lo ≤ hi) (hc : cutC lo hi = some c) : rowsP lo hi = rowsP lo (c - 1) ++ rowsP c hi := by
  obtain ⟨h1, h2⟩ := cut_in h hc
  unfold rowsP
  rw [rowsF, hc]
  simp only
  rw [rowsF_more ((c - 1 - lo).toNat + 1) _ lo (c - 1) (by omega) (by omega) (by omega), rowsF_more ((hi - c).toNat + 1) _ c hi (by omega) (by omega) (by omega)]
theorem rowsP_leaf {lo hi : Int} (hc : cutC lo hi = none) : rowsP lo hi = [leafC lo hi] := by
  unfold rowsP
  rw [rowsF, hc]
/-- A range within one class of characters. -/
def Cls (lo hi : Int) : Prop := (0 ≤ lo ∧ hi ≤ 127) ∨ (128 ≤ lo ∧ hi ≤ 2047) ∨ (2048 ≤ lo ∧ hi ≤ 55295) ∨ (57344 ≤ lo ∧ hi ≤ 65535) ∨ (65536 ≤ lo ∧ hi ≤ 1114111)
theorem rows_ind {motive : Int → Int → Prop} (cut : ∀ lo hi c, lo ≤ hi → Cls lo hi → cutC lo hi = some c → lo < c → c ≤ hi → motive lo (c - 1) → motive c hi → motive lo hi)
    (leaf : ∀ lo hi, lo ≤ hi → Cls lo hi → cutC lo hi = none → motive lo hi) : ∀ lo hi, lo ≤ hi → Cls lo hi → motive lo hi := by
  have key : ∀ n : Nat, ∀ lo hi, (hi - lo).toNat < n → lo ≤ hi → Cls lo hi → motive lo hi := by
    intro n
    induction n with
    | zero => intro lo hi h; omega
    | succ n ih =>
      intro lo hi hn h hk
      cases hc : cutC lo hi with
      | none => exact leaf lo hi h hk hc
      | some c =>
        obtain ⟨h1, h2⟩ := cut_in h hc
        exact cut lo hi c h hk hc h1 h2 (ih lo (c - 1) (by omega) (by omega) (by unfold Cls at *; omega)) (ih c hi (by omega) (by omega) (by unfold Cls at *; omega))
  intro lo hi h hk
  exact key _ lo hi (Nat.lt_succ_self _) h hk
end Go.Proofs.Ytnccbmbicgkhmaa
