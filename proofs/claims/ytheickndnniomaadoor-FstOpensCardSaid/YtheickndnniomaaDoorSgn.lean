/- A node's text says which node it is (plain Lean). -/
import Derived.Test.YtheickndnniomaaDoorSign
namespace Go.Proofs.YtheickndnniomaaDoor
open Go.RowKit

def valD (l : List UInt8) : Nat := l.foldl (fun a c => a * 10 + (c.toNat - 48)) 0
theorem val_dec : ∀ u : Nat, valD (Lib.decDigits u) = u := by
  intro u
  induction u using Nat.strongRecOn with
  | ind u ih =>
    rw [Lib.decDigits]
    split
    · rename_i h
      unfold valD
      simp
      omega
    · rename_i h
      have h1 := ih (u / 10) (by omega)
      unfold valD at h1 ⊢
      rw [List.foldl_append, h1]
      simp
      omega
theorem dec_inj {u v : Nat} (h : Lib.decDigits u = Lib.decDigits v) : u = v := by
  rw [← val_dec u, h, val_dec]
theorem dec_mem : ∀ u : Nat, ∀ c ∈ Lib.decDigits u, 48 ≤ c.toNat ∧ c.toNat ≤ 57 := by
  intro u
  induction u using Nat.strongRecOn with
  | ind u ih =>
    rw [Lib.decDigits]
    split
    · rename_i h
      intro c hc
      rw [List.mem_singleton.1 hc]
      simp
      omega
    · rename_i h
      intro c hc
      rcases List.mem_append.1 hc with hc | hc
      · exact ih (u / 10) (by omega) c hc
      · rw [List.mem_singleton.1 hc]
        simp
        omega
theorem dec_ne (u : Nat) : Lib.decDigits u ≠ [] := by
  rw [Lib.decDigits]
  split <;> simp
theorem itoa_inj {a b : Int} (h : Lib.itoa a = Lib.itoa b) : a = b := by
  have key : ∀ u v : Nat, Lib.decDigits u ≠ 45 :: Lib.decDigits v := by
    intro u v e
    have := dec_mem u 45 (by rw [e]; exact List.mem_cons_self ..)
    simp at this
  unfold Lib.itoa at h
  by_cases h1 : a < 0 <;> by_cases h2 : b < 0
  · rw [if_pos h1, if_pos h2] at h
    injection h with _ h
    have := dec_inj h
    omega
  · rw [if_pos h1, if_neg h2] at h
    exact absurd h.symm (key _ _)
  · rw [if_neg h1, if_pos h2] at h
    exact absurd h (key _ _)
  · rw [if_neg h1, if_neg h2] at h
    have := dec_inj h
    omega
theorem itoa_no (a : Int) : ∀ c ∈ Lib.itoa a, c ≠ 32 := by
  intro c hc e
  subst e
  unfold Lib.itoa at hc
  split at hc
  · rcases List.mem_cons.1 hc with e | hc
    · exact absurd e (by decide)
    · have := dec_mem _ _ hc
      simp at this
  · have := dec_mem _ _ hc
    simp at this
/-- Nothing, or a blank ahead. -/
def Bl (l : List UInt8) : Prop := l = [] ∨ ∃ r, l = 32 :: r
theorem take_no {l r : List UInt8} (h : ∀ c ∈ l, c ≠ 32) (hr : Bl r) : (l ++ r).takeWhile (fun c => decide (c ≠ 32)) = l := by
  induction l with
  | nil =>
    rcases hr with rfl | ⟨r, rfl⟩
    · rfl
    · rfl
  | cons c l ih =>
    rw [List.cons_append, List.takeWhile_cons, if_pos (by simpa using h c (List.mem_cons_self ..)), ih fun x hx => h x (List.mem_cons_of_mem _ hx)]
theorem itoa_cut {a b : Int} {x y : List UInt8} (hx : Bl x) (hy : Bl y) (h : Lib.itoa a ++ x = Lib.itoa b ++ y) : a = b ∧ x = y := by
  have h1 := take_no (itoa_no a) hx
  have h2 := take_no (itoa_no b) hy
  rw [h] at h1
  have e : Lib.itoa a = Lib.itoa b := h1.symm.trans h2
  have := itoa_inj e
  subst this
  exact ⟨rfl, List.append_cancel_left h⟩
theorem ways_bl (l : List (Int × Int × Int)) : Bl (l.flatMap wayT) := by
  cases l with
  | nil => exact .inl rfl
  | cons x r => exact .inr ⟨_, by rw [List.flatMap_cons]; unfold wayT; simp only [List.cons_append]; rfl⟩
theorem wayT_app (a b c : Int) (r : List UInt8) : wayT (a, b, c) ++ r = 32 :: (Lib.itoa a ++ (32 :: (Lib.itoa b ++ (32 :: (Lib.itoa c ++ r))))) := by
  unfold wayT
  simp
theorem ways_inj : ∀ l m : List (Int × Int × Int), l.flatMap wayT = m.flatMap wayT → l = m
  | [], [], _ => rfl
  | [], (a, b, c) :: m, h => by
    rw [List.flatMap_cons, wayT_app] at h
    cases h
  | (a, b, c) :: l, [], h => by
    rw [List.flatMap_cons, wayT_app] at h
    cases h
  | (a, b, c) :: l, (a', b', c') :: m, h => by
    rw [List.flatMap_cons, List.flatMap_cons, wayT_app, wayT_app] at h
    injection h with _ h1
    obtain ⟨e1, h2⟩ := itoa_cut (.inr ⟨_, rfl⟩) (.inr ⟨_, rfl⟩) h1
    injection h2 with _ h3
    obtain ⟨e2, h4⟩ := itoa_cut (.inr ⟨_, rfl⟩) (.inr ⟨_, rfl⟩) h3
    injection h4 with _ h5
    obtain ⟨e3, h6⟩ := itoa_cut (ways_bl l) (ways_bl m) h5
    rw [ways_inj l m h6, e1, e2, e3]
theorem sgn_inj {d e : Nd} (h : sgn d = sgn e) : d = e := by
  obtain ⟨f, o, l⟩ := d
  obtain ⟨g, p, m⟩ := e
  unfold sgn at h
  simp only [List.append_assoc] at h
  have hf : f = g ∧ Lib.itoa o ++ l.flatMap wayT = Lib.itoa p ++ m.flatMap wayT := by
    have h1 : Lib.formatBool true = [116, 114, 117, 101] := by decide +kernel
    have h2 : Lib.formatBool false = [102, 97, 108, 115, 101] := by decide +kernel
    cases f <;> cases g
    · exact ⟨rfl, List.append_cancel_left h⟩
    · rw [h1, h2] at h
      cases h
    · rw [h1, h2] at h
      cases h
    · exact ⟨rfl, List.append_cancel_left h⟩
  obtain ⟨e1, h1⟩ := hf
  obtain ⟨e2, h2⟩ := itoa_cut (ways_bl l) (ways_bl m) h1
  rw [ways_inj l m h2, e1, e2]
end Go.Proofs.YtheickndnniomaaDoor
