/- A state's text says what it is told apart by (plain Lean). -/
import Derived.Test.YtebdffabfimmkaaDoorSig
namespace Go.Proofs.YtebdffabfimmkaaDoor
open Go.RowKit

def valD (l : List UInt8) : Nat := l.foldl (fun a c => a * 10 + (c.toNat - 48)) 0
theorem val_dec : ∀ u : Nat, valD (Lib.decDigits u) = u := by
  intro u
  induction u using Nat.strongRecOn with
  | ind u ih =>
    rw [Lib.decDigits]
    split
    · rename_i h
      unfold valD
      simp
      omega
    · rename_i h
      have h1 := ih (u / 10) (by omega)
      unfold valD at h1 ⊢
      rw [List.foldl_append, h1]
      simp
      omega
theorem dec_inj {u v : Nat} (h : Lib.decDigits u = Lib.decDigits v) : u = v := by
  rw [← val_dec u, h, val_dec]
theorem dec_mem : ∀ u : Nat, ∀ c ∈ Lib.decDigits u, 48 ≤ c.toNat ∧ c.toNat ≤ 57 := by
  intro u
  induction u using Nat.strongRecOn with
  | ind u ih =>
    rw [Lib.decDigits]
    split
    · rename_i h
      intro c hc
      rw [List.mem_singleton.1 hc]
      simp
      omega
    · rename_i h
      intro c hc
      rcases List.mem_append.1 hc with hc | hc
      · exact ih (u / 10) (by omega) c hc
      · rw [List.mem_singleton.1 hc]
        simp
        omega
theorem dec_ne (u : Nat) : Lib.decDigits u ≠ [] := by
  rw [Lib.decDigits]
  split <;> simp
def isD (c : UInt8) : Bool := decide (48 ≤ c.toNat ∧ c.toNat ≤ 57)
theorem itoa_nat {z : Int} (h : 0 ≤ z) : Lib.itoa z = Lib.decDigits z.toNat := by
  unfold Lib.itoa
  rw [if_neg (by omega)]
/-- Empty, or it begins with no digit. -/
def Stop (r : List UInt8) : Prop := r = [] ∨ ∃ c t, r = c :: t ∧ isD c = false
theorem digits_cut : ∀ {a b r s : List UInt8}, (∀ x ∈ a, isD x = true) → (∀ x ∈ b, isD x = true) → Stop r → Stop s → a ++ r = b ++ s → a = b ∧ r = s
  | [], [], _, _, _, _, _, _, h => ⟨rfl, h⟩
  | [], y :: b, r, s, _, hb, hr, _, h => by
    rcases hr with rfl | ⟨c, t, rfl, hc⟩
    · cases h
    · injection h with h1 _
      have := hb y (List.mem_cons_self ..)
      rw [← h1, hc] at this
      cases this
  | x :: a, [], r, s, ha, _, _, hs, h => by
    rcases hs with rfl | ⟨c, t, rfl, hc⟩
    · cases h
    · injection h with h1 _
      have := ha x (List.mem_cons_self ..)
      rw [h1, hc] at this
      cases this
  | x :: a, y :: b, r, s, ha, hb, hr, hs, h => by
    injection h with h1 h2
    obtain ⟨e1, e2⟩ := digits_cut (fun z hz => ha z (List.mem_cons_of_mem _ hz)) (fun z hz => hb z (List.mem_cons_of_mem _ hz)) hr hs h2
    exact ⟨by rw [h1, e1], e2⟩
theorem itoa_dig {z : Int} (h : 0 ≤ z) : ∀ x ∈ Lib.itoa z, isD x = true := by
  rw [itoa_nat h]
  intro x hx
  have := dec_mem _ x hx
  unfold isD
  exact decide_eq_true this
theorem itoa_inj {a b : Int} (ha : 0 ≤ a) (hb : 0 ≤ b) (h : Lib.itoa a = Lib.itoa b) : a = b := by
  rw [itoa_nat ha, itoa_nat hb] at h
  have := dec_inj h
  omega
/-- Numbers, then something that is no digit. -/
theorem num_cut {a b : Int} (ha : 0 ≤ a) (hb : 0 ≤ b) {r s : List UInt8} (hr : Stop r) (hs : Stop s) (h : Lib.itoa a ++ r = Lib.itoa b ++ s) : a = b ∧ r = s := by
  obtain ⟨h1, h2⟩ := digits_cut (itoa_dig ha) (itoa_dig hb) hr hs h
  exact ⟨itoa_inj ha hb h1, h2⟩
theorem stop_cons {c : UInt8} {t : List UInt8} (h : isD c = false) : Stop (c :: t) := .inr ⟨c, t, rfl, h⟩
def Pos3 (a : Arc3) : Prop := 0 ≤ a.1 ∧ 0 ≤ a.2.1 ∧ 0 ≤ a.2.2
theorem arcs_stop : ∀ l : List Arc3, Stop (l.flatMap arcT)
  | [] => .inl rfl
  | a :: r => by
    rw [List.flatMap_cons]
    exact stop_cons (by decide)
theorem arcs_inj : ∀ {l l' : List Arc3}, (∀ a ∈ l, Pos3 a) → (∀ a ∈ l', Pos3 a) → l.flatMap arcT = l'.flatMap arcT → l = l'
  | [], [], _, _, _ => rfl
  | [], b :: r, _, _, h => by
    rw [List.flatMap_cons] at h
    cases h
  | a :: r, [], _, _, h => by
    rw [List.flatMap_cons] at h
    cases h
  | a :: r, b :: s, ha, hb, h => by
    rw [List.flatMap_cons, List.flatMap_cons] at h
    obtain ⟨p1, p2, p3⟩ := ha a (List.mem_cons_self ..)
    obtain ⟨q1, q2, q3⟩ := hb b (List.mem_cons_self ..)
    unfold arcT at h
    simp only [List.cons_append, List.append_assoc] at h
    injection h with _ h
    obtain ⟨e1, h⟩ := num_cut p1 q1 (stop_cons (by decide)) (stop_cons (by decide)) h
    injection h with _ h
    obtain ⟨e2, h⟩ := num_cut p2 q2 (stop_cons (by decide)) (stop_cons (by decide)) h
    injection h with _ h
    obtain ⟨e3, h⟩ := num_cut p3 q3 (arcs_stop r) (arcs_stop s) h
    rw [arcs_inj (fun x hx => ha x (List.mem_cons_of_mem _ hx)) (fun x hx => hb x (List.mem_cons_of_mem _ hx)) h]
    congr 1
    exact Prod.ext e1 (Prod.ext e2 e3)
/-- The text says the class, whether it is final, and the arcs. -/
theorem sigT_inj {c c' : Int} {f f' : Bool} {l l' : List Arc3} (hc : 0 ≤ c) (hc' : 0 ≤ c') (hl : ∀ a ∈ l, Pos3 a) (hl' : ∀ a ∈ l', Pos3 a) (h : sigT c f l = sigT c' f' l') : c = c' ∧ f = f' ∧ l = l' := by
  unfold sigT at h
  rw [List.append_assoc, List.append_assoc] at h
  have stop : ∀ (f : Bool) (l : List Arc3), Stop ((if f then [33] else []) ++ l.flatMap arcT) := by
    intro f l
    cases f
    · exact arcs_stop l
    · exact stop_cons (by decide)
  obtain ⟨e1, h2⟩ := num_cut hc hc' (stop f l) (stop f' l') h
  refine ⟨e1, ?_⟩
  have hne : ∀ (l l' : List Arc3), (33 : UInt8) :: l.flatMap arcT ≠ l'.flatMap arcT := by
    intro l l' e
    cases l' with
    | nil => cases e
    | cons b s =>
      rw [List.flatMap_cons] at e
      unfold arcT at e
      injection e with e _
      exact absurd e (by decide)
  cases f <;> cases f'
  · exact ⟨rfl, arcs_inj hl hl' h2⟩
  · exact absurd h2.symm (hne l' l)
  · exact absurd h2 (hne l l')
  · refine ⟨rfl, arcs_inj hl hl' ?_⟩
    simpa using h2
theorem sigT_ne (c : Int) (f : Bool) (l : List Arc3) (hc : 0 ≤ c) : sigT c f l ≠ [] := by
  unfold sigT
  rw [itoa_nat hc]
  intro h
  have h1 := List.append_eq_nil_iff.1 h
  have h2 := List.append_eq_nil_iff.1 h1.1
  exact dec_ne _ h2.1
end Go.Proofs.YtebdffabfimmkaaDoor
