/- The reference's Near. -/
import Derived.Test.YtclahhkcbkpofaaDoorHFt47
import Derived.Test.YtclahhkcbkpofaaDoorHFt49
import Derived.Test.YtclahhkcbkpofaaDoorHFt19
namespace Go.Proofs.YtclahhkcbkpofaaDoor
open Go.RowKit
open Sp
set_option linter.unusedVariables false
set_option linter.unusedSimpArgs false
theorem near_iff {f : List Int} {E X : Nat} {l : List Int} (hX : X ≤ f.length) : (f.take X <+: l ∧ lev (f.drop X) (l.drop X) ≤ E) ↔ nearL f E X l := by
  constructor
  · rintro ⟨⟨u, rfl⟩, h⟩
    refine ⟨u, rfl, ?_⟩
    rw [List.drop_left' (by rw [List.length_take]; omega), lev_symm] at h
    exact h
  · rintro ⟨u, rfl, h⟩
    refine ⟨⟨u, rfl⟩, ?_⟩
    rw [List.drop_left' (by rw [List.length_take]; omega), lev_symm]
    exact h
set_option maxRecDepth 100000 in
set_option maxHeartbeats 8000000 in
theorem near_any (w : World) (B : Nat) (hB : B ≤ w.heap.size) (A1 A2 : Option Addr) (n1 n2 c1 c2 : Nat) (f l : List Int) (h1 : Sl w B 1 A1 n1 (f.map (.int .i64))) (h2 : Sl w B 1 A2 n2 (l.map (.int .i64))) (hn1 : n1 ≤ 16) (hn2 : n2 ≤ 100) (hc1 : n1 ≤ c1) (hc2 : n2 ≤ c2) (E X : Nat) (hE : E ≤ 2) (hX : X ≤ n1) :
    Calls Tryd.prog 27 #[.slice A1 n1 c1, .int .i64 (E : Int), .int .i64 (X : Int), .slice A2 n2 c2] w fun e w' => e = .returned (.bool (decide (f.take X <+: l ∧ lev (f.drop X) (l.drop X) ≤ E))) ∧ Below w.heap.size w w' := by
  have HS1 := Lib.hid h1
  have HS2 := Lib.hid h2
  have d1 := (h1.more hB).below (Below.drew (brefl w))
  have d2 := (h2.more hB).below (Below.drew (brefl w))
  have p1 := d1.pre hX
  rw [Nat.mul_one, ← List.map_take] at p1
  have HBG := Lib.hid (begins_any w.drew w.heap.size (Nat.le_refl _) A2 A1 n2 X c2 c1 l (f.take X) d2 p1 (by omega) (by omega))
  have HDI : Hid (X ≤ n2 → ∀ W, Below w.heap.size w W → Calls Tryd.prog 23 #[.slice (if c1 = X then A1 else A1.map (·.add X)) (n1 - X) (c1 - X), .slice (if c2 = X then A2 else A2.map (·.add X)) (n2 - X) (c2 - X)] W fun e w' => e = .returned (.int .i64 ((lev (f.drop X) (l.drop X) : Nat) : Int)) ∧ Below W.heap.size W w') := fun hx W hb => by
    have s1 := ((h1.cut hX hc1).more hB).below hb
    have s2 := ((h2.cut hx hc2).more hB).below hb
    simp only [Nat.mul_one, ← List.map_drop] at s1 s2
    exact rdistance_any W w.heap.size hb.size _ _ (n1 - X) (n2 - X) (c1 - X) (c2 - X) (f.drop X) (l.drop X) s1 s2 (by omega) (by omega)
  clear h1 h2 d1 d2 p1
  go_enter Tryd.func27, Tryd.ntmps27
  go_wp2_with fail
  obtain ⟨bg, hbg⟩ : ∃ b, decide (f.take X <+: l) = b := ⟨_, rfl⟩
  have hxc : X ≤ c1 := by omega
  cases bg
  · skip
    refine wp_region_held_drew (S := fun _ => True) (by kernel_rfl) ?_ (fun hHeld => ?_)
    · (try dsimp only); (first | trivial | skip)
    refine wpAnyH_take (i := 0) (v := ?_) rfl (by kernel_rfl) (by kernel_rfl) (by kernel_rfl) (fun _ _ _ h => h) (Or.inl ⟨by rfl, ?_⟩) (by assumption) ?_
    rotate_left
    · intro w hSw; (try dsimp only at hSw); go_simp; (try with_reducible rfl)
    try simp only [Act.put, List.setIfInBounds_toArray, List.set_cons_zero, List.set_cons_succ]
    refine wpAnyH_take (i := 1) (v := ?_) rfl (by kernel_rfl) (by kernel_rfl) (by kernel_rfl) (fun _ _ _ h => h) (Or.inl ⟨by rfl, ?_⟩) (by assumption) ?_
    rotate_left
    · intro w hSw; (try dsimp only at hSw); go_simp; (try with_reducible rfl)
    try simp only [Act.put, List.setIfInBounds_toArray, List.set_cons_zero, List.set_cons_succ]
    refine wpAnyH_take (i := 2) (v := ?_) rfl (by kernel_rfl) (by kernel_rfl) (by kernel_rfl) (fun _ _ _ h => h) (Or.inl ⟨by rfl, ?_⟩) (by assumption) ?_
    rotate_left
    · intro w hSw; (try dsimp only at hSw); go_simp; (try with_reducible rfl)
    try simp only [Act.put, List.setIfInBounds_toArray, List.set_cons_zero, List.set_cons_succ]
    refine wpAnyH_take (i := 3) (v := ?_) rfl (by kernel_rfl) (by kernel_rfl) (by kernel_rfl) (fun _ _ _ h => h) (Or.inl ⟨by rfl, ?_⟩) (by assumption) ?_
    rotate_left
    · intro w hSw; (try dsimp only at hSw); go_simp; (try with_reducible rfl)
    try simp only [Act.put, List.setIfInBounds_toArray, List.set_cons_zero, List.set_cons_succ]
    refine wpAnyH_ready (rs := [4]) (by kernel_rfl) (by simp) ?_
    refine AllReadyH.cons rfl (fun K hK => ?_) AllReadyH.nil
    go_simp
    go_at_call 30
    refine HBG.out.mono ?_
    rintro e w1 ⟨rfl, hb1⟩
    have HB1 : Hid (Below w.heap.size w w1) := bcall (Below.drew (brefl w)) hb1
    clear hb1 HBG
    rw [hbg]
    refine hK.out _ _ ?_ (fun hHeld => ?_)
    · (try dsimp only); (first | trivial | skip)
    clear hK K
    try simp only [Act.put, List.setIfInBounds_toArray, List.set_cons_zero, List.set_cons_succ]
    refine wpAnyH_take (i := 5) (v := ?_) rfl (by kernel_rfl) (by kernel_rfl) (by kernel_rfl) (fun _ _ _ h => h) (Or.inl ⟨by rfl, ?_⟩) (by assumption) ?_
    rotate_left
    · intro w hSw; (try dsimp only at hSw); go_simp; (try with_reducible rfl)
    try simp only [Act.put, List.setIfInBounds_toArray, List.set_cons_zero, List.set_cons_succ]
    refine wpAnyH_take (i := 6) (v := undef) rfl (by kernel_rfl) (by kernel_rfl) (by kernel_rfl) (fun _ _ _ h => h) (Or.inr ⟨by kernel_rfl, rfl⟩) (by assumption) ?_
    try simp only [Act.put, List.setIfInBounds_toArray, List.set_cons_zero, List.set_cons_succ]
    refine wpAnyH_take (i := 7) (v := undef) rfl (by kernel_rfl) (by kernel_rfl) (by kernel_rfl) (fun _ _ _ h => h) (Or.inr ⟨by kernel_rfl, rfl⟩) (by assumption) ?_
    try simp only [Act.put, List.setIfInBounds_toArray, List.set_cons_zero, List.set_cons_succ]
    refine wpAnyH_take (i := 8) (v := undef) rfl (by kernel_rfl) (by kernel_rfl) (by kernel_rfl) (fun _ _ _ h => h) (Or.inr ⟨by kernel_rfl, rfl⟩) (by assumption) ?_
    try simp only [Act.put, List.setIfInBounds_toArray, List.set_cons_zero, List.set_cons_succ]
    refine wpAnyH_take (i := 9) (v := undef) rfl (by kernel_rfl) (by kernel_rfl) (by kernel_rfl) (fun _ _ _ h => h) (Or.inr ⟨by kernel_rfl, rfl⟩) (by assumption) ?_
    try simp only [Act.put, List.setIfInBounds_toArray, List.set_cons_zero, List.set_cons_succ]
    refine wpAnyH_take (i := 10) (v := undef) rfl (by kernel_rfl) (by kernel_rfl) (by kernel_rfl) (fun _ _ _ h => h) (Or.inr ⟨by kernel_rfl, rfl⟩) (by assumption) ?_
    try simp only [Act.put, List.setIfInBounds_toArray, List.set_cons_zero, List.set_cons_succ]
    refine wpAnyH_take (i := 11) (v := undef) rfl (by kernel_rfl) (by kernel_rfl) (by kernel_rfl) (fun _ _ _ h => h) (Or.inr ⟨by kernel_rfl, rfl⟩) (by assumption) ?_
    try simp only [Act.put, List.setIfInBounds_toArray, List.set_cons_zero, List.set_cons_succ]
    refine wpAnyH_take (i := 12) (v := undef) rfl (by kernel_rfl) (by kernel_rfl) (by kernel_rfl) (fun _ _ _ h => h) (Or.inr ⟨by kernel_rfl, rfl⟩) (by assumption) ?_
    try simp only [Act.put, List.setIfInBounds_toArray, List.set_cons_zero, List.set_cons_succ]
    refine wpAnyH_take (i := 13) (v := undef) rfl (by kernel_rfl) (by kernel_rfl) (by kernel_rfl) (fun _ _ _ h => h) (Or.inr ⟨by kernel_rfl, rfl⟩) (by assumption) ?_
    try simp only [Act.put, List.setIfInBounds_toArray, List.set_cons_zero, List.set_cons_succ]
    refine wpAnyH_take (i := 14) (v := undef) rfl (by kernel_rfl) (by kernel_rfl) (by kernel_rfl) (fun _ _ _ h => h) (Or.inr ⟨by kernel_rfl, rfl⟩) (by assumption) ?_
    try simp only [Act.put, List.setIfInBounds_toArray, List.set_cons_zero, List.set_cons_succ]
    refine wpAnyH_take (i := 15) (v := ?_) rfl (by kernel_rfl) (by kernel_rfl) (by kernel_rfl) (fun _ _ _ h => h) (Or.inl ⟨by rfl, ?_⟩) (by assumption) ?_
    rotate_left
    · intro w hSw; (try dsimp only at hSw); go_simp; (try with_reducible rfl)
    try simp only [Act.put, List.setIfInBounds_toArray, List.set_cons_zero, List.set_cons_succ]
    refine wpAnyH_take (i := 16) (v := ?_) rfl (by kernel_rfl) (by kernel_rfl) (by kernel_rfl) (fun _ _ _ h => h) (Or.inl ⟨by rfl, ?_⟩) (by assumption) ?_
    rotate_left
    · intro w hSw; (try dsimp only at hSw); go_simp; (try with_reducible rfl)
    try simp only [Act.put, List.setIfInBounds_toArray, List.set_cons_zero, List.set_cons_succ]
    refine wpAnyH_done (by kernel_rfl) ?_ _
    simp only [List.getElem_toArray, List.getElem_cons_zero, List.getElem_cons_succ, Act.put, List.setIfInBounds_toArray, List.set_cons_zero, List.set_cons_succ]
    clear hHeld
    go_wp2_with fail
    go_ret
    exact ⟨by rw [decide_eq_false (fun h => absurd h.1 (of_decide_eq_false hbg))]; rfl, HB1.out⟩
  · have hXn : X ≤ n2 := by
      have h1 := (of_decide_eq_true hbg).length_le
      have h2 := HS1.out.1
      have h3 := HS2.out.1
      rw [List.length_map] at h2 h3
      rw [List.length_take] at h1
      omega
    have hxc2 : X ≤ c2 := by omega
    refine wp_region_held_drew (S := fun _ => True) (by kernel_rfl) ?_ (fun hHeld => ?_)
    · (try dsimp only); (first | trivial | skip)
    refine wpAnyH_take (i := 0) (v := ?_) rfl (by kernel_rfl) (by kernel_rfl) (by kernel_rfl) (fun _ _ _ h => h) (Or.inl ⟨by rfl, ?_⟩) (by assumption) ?_
    rotate_left
    · intro w hSw; (try dsimp only at hSw); go_simp; (try with_reducible rfl)
    try simp only [Act.put, List.setIfInBounds_toArray, List.set_cons_zero, List.set_cons_succ]
    refine wpAnyH_take (i := 1) (v := ?_) rfl (by kernel_rfl) (by kernel_rfl) (by kernel_rfl) (fun _ _ _ h => h) (Or.inl ⟨by rfl, ?_⟩) (by assumption) ?_
    rotate_left
    · intro w hSw; (try dsimp only at hSw); go_simp; (try with_reducible rfl)
    try simp only [Act.put, List.setIfInBounds_toArray, List.set_cons_zero, List.set_cons_succ]
    refine wpAnyH_take (i := 2) (v := ?_) rfl (by kernel_rfl) (by kernel_rfl) (by kernel_rfl) (fun _ _ _ h => h) (Or.inl ⟨by rfl, ?_⟩) (by assumption) ?_
    rotate_left
    · intro w hSw; (try dsimp only at hSw); go_simp; (try with_reducible rfl)
    try simp only [Act.put, List.setIfInBounds_toArray, List.set_cons_zero, List.set_cons_succ]
    refine wpAnyH_take (i := 3) (v := ?_) rfl (by kernel_rfl) (by kernel_rfl) (by kernel_rfl) (fun _ _ _ h => h) (Or.inl ⟨by rfl, ?_⟩) (by assumption) ?_
    rotate_left
    · intro w hSw; (try dsimp only at hSw); go_simp; (try with_reducible rfl)
    try simp only [Act.put, List.setIfInBounds_toArray, List.set_cons_zero, List.set_cons_succ]
    refine wpAnyH_ready (rs := [4]) (by kernel_rfl) (by simp) ?_
    refine AllReadyH.cons rfl (fun K hK => ?_) AllReadyH.nil
    go_simp
    go_at_call 30
    refine HBG.out.mono ?_
    rintro e w1 ⟨rfl, hb1⟩
    have HB1 : Hid (Below w.heap.size w w1) := bcall (Below.drew (brefl w)) hb1
    clear hb1 HBG
    rw [hbg]
    refine hK.out _ _ ?_ (fun hHeld => ?_)
    · (try dsimp only); (first | trivial | skip)
    clear hK K
    try simp only [Act.put, List.setIfInBounds_toArray, List.set_cons_zero, List.set_cons_succ]
    refine wpAnyH_take (i := 5) (v := ?_) rfl (by kernel_rfl) (by kernel_rfl) (by kernel_rfl) (fun _ _ _ h => h) (Or.inl ⟨by rfl, ?_⟩) (by assumption) ?_
    rotate_left
    · intro w hSw; (try dsimp only at hSw); go_simp; (try with_reducible rfl)
    try simp only [Act.put, List.setIfInBounds_toArray, List.set_cons_zero, List.set_cons_succ]
    refine wpAnyH_take (i := 6) (v := ?_) rfl (by kernel_rfl) (by kernel_rfl) (by kernel_rfl) (fun _ _ _ h => h) (Or.inl ⟨by rfl, ?_⟩) (by assumption) ?_
    rotate_left
    · intro w hSw; (try dsimp only at hSw); go_simp; (try with_reducible rfl)
    try simp only [Act.put, List.setIfInBounds_toArray, List.set_cons_zero, List.set_cons_succ]
    refine wpAnyH_take (i := 7) (v := ?_) rfl (by kernel_rfl) (by kernel_rfl) (by kernel_rfl) (fun _ _ _ h => h) (Or.inl ⟨by rfl, ?_⟩) (by assumption) ?_
    rotate_left
    · intro w hSw; (try dsimp only at hSw); go_simp; (try with_reducible rfl)
    try simp only [Act.put, List.setIfInBounds_toArray, List.set_cons_zero, List.set_cons_succ]
    refine wpAnyH_take (i := 8) (v := ?_) rfl (by kernel_rfl) (by kernel_rfl) (by kernel_rfl) (fun _ _ _ h => h) (Or.inl ⟨by rfl, ?_⟩) (by assumption) ?_
    rotate_left
    · intro w hSw; (try dsimp only at hSw); go_simp; (try with_reducible rfl)
    try simp only [Act.put, List.setIfInBounds_toArray, List.set_cons_zero, List.set_cons_succ]
    refine wpAnyH_take (i := 9) (v := ?_) rfl (by kernel_rfl) (by kernel_rfl) (by kernel_rfl) (fun _ _ _ h => h) (Or.inl ⟨by rfl, ?_⟩) (by assumption) ?_
    rotate_left
    · intro w hSw; (try dsimp only at hSw); go_simp; (try with_reducible rfl)
    try simp only [Act.put, List.setIfInBounds_toArray, List.set_cons_zero, List.set_cons_succ]
    refine wpAnyH_take (i := 10) (v := ?_) rfl (by kernel_rfl) (by kernel_rfl) (by kernel_rfl) (fun _ _ _ h => h) (Or.inl ⟨by rfl, ?_⟩) (by assumption) ?_
    rotate_left
    · intro w hSw; (try dsimp only at hSw); go_simp; (try with_reducible rfl)
    try simp only [Act.put, List.setIfInBounds_toArray, List.set_cons_zero, List.set_cons_succ]
    refine wpAnyH_take (i := 11) (v := ?_) rfl (by kernel_rfl) (by kernel_rfl) (by kernel_rfl) (fun _ _ _ h => h) (Or.inl ⟨by rfl, ?_⟩) (by assumption) ?_
    rotate_left
    · intro w hSw; (try dsimp only at hSw); go_simp; (try with_reducible rfl)
    try simp only [Act.put, List.setIfInBounds_toArray, List.set_cons_zero, List.set_cons_succ]
    refine wpAnyH_take (i := 13) (v := ?_) rfl (by kernel_rfl) (by kernel_rfl) (by kernel_rfl) (fun _ _ _ h => h) (Or.inl ⟨by rfl, ?_⟩) (by assumption) ?_
    rotate_left
    · intro w hSw; (try dsimp only at hSw); go_simp; (try with_reducible rfl)
    try simp only [Act.put, List.setIfInBounds_toArray, List.set_cons_zero, List.set_cons_succ]
    refine wpAnyH_ready (rs := [12]) (by kernel_rfl) (by simp) ?_
    refine AllReadyH.cons rfl (fun K hK => ?_) AllReadyH.nil
    go_simp
    go_at_call 23
    refine (HDI.out hXn _ HB1.out).mono ?_
    rintro e w2 ⟨rfl, hb2⟩
    have HB2 : Hid (Below w.heap.size w w2) := bcall HB1.out hb2
    clear hb2 HDI
    refine hK.out _ _ ?_ (fun hHeld => ?_)
    · (try dsimp only); (first | trivial | skip)
    clear hK K
    try simp only [Act.put, List.setIfInBounds_toArray, List.set_cons_zero, List.set_cons_succ]
    refine wpAnyH_take (i := 14) (v := ?_) rfl (by kernel_rfl) (by kernel_rfl) (by kernel_rfl) (fun _ _ _ h => h) (Or.inl ⟨by rfl, ?_⟩) (by assumption) ?_
    rotate_left
    · intro w hSw; (try dsimp only at hSw); go_simp; (try with_reducible rfl)
    try simp only [Act.put, List.setIfInBounds_toArray, List.set_cons_zero, List.set_cons_succ]
    refine wpAnyH_take (i := 15) (v := ?_) rfl (by kernel_rfl) (by kernel_rfl) (by kernel_rfl) (fun _ _ _ h => h) (Or.inl ⟨by rfl, ?_⟩) (by assumption) ?_
    rotate_left
    · intro w hSw; (try dsimp only at hSw); go_simp; (try with_reducible rfl)
    try simp only [Act.put, List.setIfInBounds_toArray, List.set_cons_zero, List.set_cons_succ]
    refine wpAnyH_take (i := 16) (v := ?_) rfl (by kernel_rfl) (by kernel_rfl) (by kernel_rfl) (fun _ _ _ h => h) (Or.inl ⟨by rfl, ?_⟩) (by assumption) ?_
    rotate_left
    · intro w hSw; (try dsimp only at hSw); go_simp; (try with_reducible rfl)
    try simp only [Act.put, List.setIfInBounds_toArray, List.set_cons_zero, List.set_cons_succ]
    refine wpAnyH_done (by kernel_rfl) ?_ _
    go_wp2_with fail
    all_goals
      go_ret
      exact ⟨by first | rfl | (simp; done), HB2.out⟩
end Go.Proofs.YtclahhkcbkpofaaDoor
/- The beginnings of all characters: eighteen stand for all (plain Lean). -/
namespace Go.Proofs.YtclahhkcbkpofaaDoor
open Sp
/-- The least bytes of a row. -/
def repR (r : List (Int × Int)) (m : Nat) : List Nat := (r.take m).map fun p => p.1.toNat
def fullR : List (List (Int × Int)) := [[(0, 127)], [(194, 223), (128, 191)], [(224, 224), (160, 191), (128, 191)], [(225, 236), (128, 191), (128, 191)], [(237, 237), (128, 159), (128, 191)], [(238, 239), (128, 191), (128, 191)], [(240, 240), (144, 191), (128, 191), (128, 191)], [(241, 243), (128, 191), (128, 191), (128, 191)], [(244, 244), (128, 143), (128, 191), (128, 191)]]
theorem full_rows : allP 0 1114111 = fullR := by decide +kernel
def reps18 : List (List Nat) := fullR.flatMap fun r => (List.range (r.length - 1)).map fun m => repR r (m + 1)
theorem reps_len : reps18.length = 18 := by decide
theorem full_apart : ∀ r ∈ fullR, ∀ r' ∈ fullR, r = r' ∨ ∃ p ∈ r.head?, ∃ p' ∈ r'.head?, p.2 < p'.1 ∨ p'.2 < p.1 := by decide
theorem full_rep : ∀ r ∈ fullR, ∀ m ∈ List.range 4, m < r.length → (repR r m).length = m ∧ (∀ k ∈ List.range m, ∀ p ∈ r[k]?, ∀ c ∈ (repR r m)[k]?, p.1 ≤ (c : Int) ∧ (c : Int) ≤ p.2) := by decide
theorem fit_build : ∀ {q : List (Int × Int)} {u : List Nat}, q.length = u.length → (∀ (k : Nat) p c, q[k]? = some p → u[k]? = some c → p.1 ≤ (c : Int) ∧ (c : Int) ≤ p.2) → fitN q u
  | [], [], _, _ => trivial
  | [], _ :: _, h, _ => by simp at h
  | _ :: _, [], h, _ => by simp at h
  | p :: q, c :: u, h, hk => by
    have h0 := hk 0 p c rfl rfl
    exact ⟨h0.1, h0.2, fit_build (by simpa using h) fun k p' c' hp hc => hk (k + 1) p' c' (by simpa using hp) (by simpa using hc)⟩
theorem rep_fits {r : List (Int × Int)} (hr : r ∈ fullR) {m : Nat} (hm : m < r.length) (h4 : m < 4) : (repR r m).length = m ∧ fitN (r.take m) (repR r m) := by
  obtain ⟨h1, h2⟩ := full_rep r hr m (List.mem_range.2 h4) hm
  refine ⟨h1, fit_build (by rw [h1, List.length_take]; omega) fun k p c hp hc => ?_⟩
  have hk := (List.getElem?_eq_some_iff.1 hc).1
  rw [h1] at hk
  rw [List.getElem?_take_of_lt hk] at hp
  exact h2 k (List.mem_range.2 hk) p hp c hc
/-- Bytes that begin one row begin no other. -/
theorem fit_only {r r' : List (Int × Int)} (hr : r ∈ fullR) (hr' : r' ∈ fullR) {m : Nat} (hm : 0 < m) {u : List Nat} (h : fitN (r.take m) u) (h' : fitN (r'.take m) u) : r = r' := by
  rcases full_apart r hr r' hr' with e | ⟨p, hp, p', hp', hd⟩
  · exact e
  · exfalso
    have g : ∀ {r : List (Int × Int)} {p : Int × Int}, p ∈ r.head? → fitN (r.take m) u → ∃ c : Nat, u[0]? = some c ∧ p.1 ≤ (c : Int) ∧ (c : Int) ≤ p.2 := fun {r p} hp h => by
      have hl := fitN_len h
      cases r with
      | nil => cases hp
      | cons x r =>
        have hx : x = p := by simpa using hp
        subst hx
        obtain ⟨m, rfl⟩ : ∃ k, m = k + 1 := ⟨m - 1, by omega⟩
        rw [List.take_succ_cons] at h hl
        cases u with
        | nil => simp at hl
        | cons c u => exact ⟨c, rfl, h.1, h.2.1⟩
    obtain ⟨c, h1, h2⟩ := g hp h
    obtain ⟨c', h3, h4⟩ := g hp' h'
    rw [h1] at h3
    injection h3 with h3
    subst h3
    omega
theorem mids_same {u v : List Nat} (hl : u.length = v.length) : ∀ {rs : List (List (Int × Int))} {N y : Nat}, (∀ r ∈ rs, fitN (r.take u.length) u ↔ fitN (r.take v.length) v) → (midsP N rs u y ↔ midsP N rs v y)
  | [], _, _, _ => Iff.rfl
  | r :: rs, N, y, h => by
    unfold midsP
    refine or_congr ?_ (mids_same hl fun r hr => h r (List.mem_cons_of_mem _ hr))
    unfold midP
    have h1 := h r (List.mem_cons_self ..)
    rw [hl] at h1 ⊢
    exact and_congr Iff.rfl (and_congr Iff.rfl (and_congr Iff.rfl h1))
theorem mids_some {u : List Nat} {y : Nat} : ∀ {rs : List (List (Int × Int))} {N : Nat}, midsP N rs u y → ∃ r ∈ rs, 0 < u.length ∧ u.length < r.length ∧ fitN (r.take u.length) u
  | [], _, h => h.elim
  | r :: rs, _, h => by
    rcases h with ⟨h1, h2, _, h4⟩ | h
    · exact ⟨r, List.mem_cons_self .., h1, h2, h4⟩
    · obtain ⟨r, hr, h⟩ := mids_some h
      exact ⟨r, List.mem_cons_of_mem _ hr, h⟩
/-- One of eighteen does as well. -/
theorem full_one18 {N0 y0 : Nat} {u : List Nat} (h : midsP N0 (allP 0 1114111) u y0) : ∃ v ∈ reps18, ∀ N y, midsP N (allP 0 1114111) u y ↔ midsP N (allP 0 1114111) v y := by
  rw [full_rows] at h ⊢
  obtain ⟨r, hr, h1, h2, h3⟩ := mids_some h
  have h4 : r.length ≤ 4 := by
    have : ∀ r ∈ fullR, r.length ≤ 4 := by decide
    exact this r hr
  obtain ⟨k1, k2⟩ := rep_fits hr h2 (by omega)
  refine ⟨repR r u.length, List.mem_flatMap.2 ⟨r, hr, List.mem_map.2 ⟨u.length - 1, List.mem_range.2 (by omega), by rw [show u.length - 1 + 1 = u.length by omega]⟩⟩, fun N y => mids_same k1.symm fun r' hr' => ?_⟩
  rw [k1]
  constructor
  · intro h5
    rw [← fit_only hr hr' h1 h3 h5]
    exact k2
  · intro h5
    rw [← fit_only hr hr' h1 k2 h5]
    exact h3
end Go.Proofs.YtclahhkcbkpofaaDoor
/- One character's row (plain Lean). -/
namespace Go.Proofs.YtclahhkcbkpofaaDoor.Sp
theorem one_in {α : Type} {a : α} {L : List α} (h : a ∈ L) (hl : L.length ≤ 1) : L = [a] := by
  match L, h, hl with
  | [x], h, _ => rw [List.mem_singleton.1 h]
  | _ :: _ :: _, _, hl => simp at hl
theorem allP_self {c : Int} (hw : wholeB c = true) : allP c c = [leafC c c] := by
  have hc : 0 ≤ c ∧ c ≤ 1114111 ∧ (c < 55296 ∨ 57343 < c) := of_decide_eq_true hw
  have hp : ∀ {x y : Int}, x ≤ c → c ≤ y → leafC c c ∈ part (max c 0) (min c 1114111) x y := fun {x y} h1 h2 => by
    unfold part
    rw [show max (max c 0) x = c by omega, show min (min c 1114111) y = c by omega, if_pos (by omega), rowsP_leaf (by unfold cutC; simp)]
    exact List.mem_singleton.2 rfl
  refine one_in ?_ (all_one c)
  rw [all_parts0]
  simp only [List.mem_append]
  by_cases h1 : c ≤ 127
  · exact .inl (hp hc.1 h1)
  by_cases h2 : c ≤ 2047
  · exact .inr (.inl (hp (by omega) h2))
  by_cases h3 : c ≤ 55295
  · exact .inr (.inr (.inl (hp (by omega) h3)))
  by_cases h4 : c ≤ 65535
  · exact .inr (.inr (.inr (.inl (hp (by omega) h4))))
  · exact .inr (.inr (.inr (.inr (hp (by omega) hc.2.1))))
theorem fit_zip : ∀ {l : List Int} {u : List Nat}, fitN (l.zip l) u → u = l.map Int.toNat
  | [], [], _ => rfl
  | [], _ :: _, h => h.elim
  | _ :: _, [], h => h.elim
  | x :: l, c :: u, h => by
    have h1 : x ≤ (c : Int) := h.1
    have h2 : (c : Int) ≤ x := h.2.1
    rw [List.map_cons, ← fit_zip h.2.2, show x.toNat = c by omega]
theorem zip_take {l : List Int} : ∀ {m : Nat}, (l.zip l).take m = (l.take m).zip (l.take m) := by
  induction l with
  | nil => intro m; simp
  | cons x l ih =>
    intro m
    cases m with
    | zero => rfl
    | succ m => rw [List.take_succ_cons, List.zip_cons_cons, List.take_succ_cons, List.zip_cons_cons, ih]
/-- Part of one character: its first bytes. -/
theorem mid_letter {c : Int} (hw : wholeB c = true) {N y : Nat} {u : List Nat} (h : midsP N (allP c c) u y) : 0 < u.length ∧ u.length < (encC c).length ∧ u = (encN c).take u.length := by
  rw [allP_self hw] at h
  rcases h with ⟨h1, h2, _, h4⟩ | h
  · have h5 : (leafC c c).length = (encC c).length := by unfold leafC; rw [List.length_zip]; omega
    rw [h5] at h2
    refine ⟨h1, h2, ?_⟩
    unfold leafC at h4
    rw [zip_take] at h4
    have h6 := fit_zip h4
    unfold encN
    rw [← List.map_take]
    exact h6
  · exact h.elim
theorem enc3 {c : Int} (h : c ≤ 65535) : (encC c).length ≤ 3 := by
  unfold encC
  split
  · simp
  · split
    · simp
    · rw [if_pos (by omega)]; simp
end Go.Proofs.YtclahhkcbkpofaaDoor.Sp
/- What fits a row of all characters is one character (plain Lean). -/
namespace Go.Proofs.YtclahhkcbkpofaaDoor
open Sp
theorem fit1 {p : Int × Int} {u : List Nat} (h : fitN [p] u) : ∃ a : Nat, u = [a] ∧ p.1 ≤ (a : Int) ∧ (a : Int) ≤ p.2 := by
  match u, h with
  | [a], h => exact ⟨a, rfl, h.1, h.2.1⟩
  | [], h => exact h.elim
  | _ :: _ :: _, h => exact h.2.2.elim
theorem fit_cons {p : Int × Int} {q : List (Int × Int)} {u : List Nat} (h : fitN (p :: q) u) : ∃ (a : Nat) (t : List Nat), u = a :: t ∧ p.1 ≤ (a : Int) ∧ (a : Int) ≤ p.2 ∧ fitN q t := by
  match u, h with
  | a :: t, h => exact ⟨a, t, rfl, h.1, h.2.1, h.2.2⟩
  | [], h => exact h.elim
theorem full_enc {r : List (Int × Int)} (hr : r ∈ fullR) {u : List Nat} (h : fitN r u) : ∃ c, wholeB c = true ∧ u = encN c := by
  have two : ∀ {x y : Int}, 194 ≤ x → y ≤ 223 → fitN [(x, y), (128, 191)] u → ∃ c, wholeB c = true ∧ u = encN c := fun {x y} hx hy h => by
    obtain ⟨a, t, rfl, h1, h2, h⟩ := fit_cons h
    obtain ⟨b, rfl, h3, h4⟩ := fit1 h
    simp only at h1 h2 h3 h4
    exact ⟨((a : Int) - 192) * 64 + (b - 128), wholeB_yes (by omega), (enc_two (by omega) (by omega) (by omega) (by omega) (by omega)).symm⟩
  have three : ∀ {x y z w : Int}, 224 ≤ x → y ≤ 239 → 128 ≤ z → w ≤ 191 → (∀ a b : Int, x ≤ a → a ≤ y → z ≤ b → b ≤ w → (2048 ≤ ((a - 224) * 64 + (b - 128)) * 64) ∧ (((a - 224) * 64 + (b - 128)) * 64 + 63 < 55296 ∨ 57343 < ((a - 224) * 64 + (b - 128)) * 64)) → fitN [(x, y), (z, w), (128, 191)] u → ∃ c, wholeB c = true ∧ u = encN c := fun {x y z w} hx hy hz hw hh h => by
    obtain ⟨a, t, rfl, h1, h2, h⟩ := fit_cons h
    obtain ⟨b, t, rfl, h3, h4, h⟩ := fit_cons h
    obtain ⟨d, rfl, h5, h6⟩ := fit1 h
    simp only at h1 h2 h3 h4 h5 h6
    have := hh a b h1 h2 h3 h4
    exact ⟨(((a : Int) - 224) * 64 + (b - 128)) * 64 + (d - 128), wholeB_yes (by omega), (enc_three (by omega) (by omega) (by omega) (by omega) (by omega) (by omega) (by omega)).symm⟩
  have four : ∀ {x y z w : Int}, 240 ≤ x → y ≤ 244 → 128 ≤ z → w ≤ 191 → (∀ a b : Int, x ≤ a → a ≤ y → z ≤ b → b ≤ w → 65536 ≤ ((a - 240) * 64 + (b - 128)) * 4096 ∧ ((a - 240) * 64 + (b - 128)) * 4096 + 4095 ≤ 1114111) → fitN [(x, y), (z, w), (128, 191), (128, 191)] u → ∃ c, wholeB c = true ∧ u = encN c := fun {x y z w} hx hy hz hw hh h => by
    obtain ⟨a, t, rfl, h1, h2, h⟩ := fit_cons h
    obtain ⟨b, t, rfl, h3, h4, h⟩ := fit_cons h
    obtain ⟨d, t, rfl, h5, h6, h⟩ := fit_cons h
    obtain ⟨e, rfl, h7, h8⟩ := fit1 h
    simp only at h1 h2 h3 h4 h5 h6 h7 h8
    have := hh a b h1 h2 h3 h4
    exact ⟨((((a : Int) - 240) * 64 + (b - 128)) * 64 + (d - 128)) * 64 + (e - 128), wholeB_yes (by omega), (enc_four (by omega) (by omega) (by omega) (by omega) (by omega) (by omega) (by omega) (by omega) (by omega)).symm⟩
  unfold fullR at hr
  simp only [List.mem_cons, List.not_mem_nil, or_false] at hr
  rcases hr with rfl | rfl | rfl | rfl | rfl | rfl | rfl | rfl | rfl
  · obtain ⟨a, rfl, h1, h2⟩ := fit1 h
    simp only at h1 h2
    exact ⟨(a : Int), wholeB_yes (by omega), (enc_one (by omega)).symm⟩
  · exact two (by omega) (by omega) h
  · exact three (by omega) (by omega) (by omega) (by omega) (fun a b h1 h2 h3 h4 => by omega) h
  · exact three (by omega) (by omega) (by omega) (by omega) (fun a b h1 h2 h3 h4 => by omega) h
  · exact three (by omega) (by omega) (by omega) (by omega) (fun a b h1 h2 h3 h4 => by omega) h
  · exact three (by omega) (by omega) (by omega) (by omega) (fun a b h1 h2 h3 h4 => by omega) h
  · exact four (by omega) (by omega) (by omega) (by omega) (fun a b h1 h2 h3 h4 => by omega) h
  · exact four (by omega) (by omega) (by omega) (by omega) (fun a b h1 h2 h3 h4 => by omega) h
  · exact four (by omega) (by omega) (by omega) (by omega) (fun a b h1 h2 h3 h4 => by omega) h
/-- Ranges of all characters, or of one. -/
def FullOr (e : Ld) : Prop := (e.2.2.1 = 0 ∧ e.2.2.2 = 1114111) ∨ (wholeB e.2.2.1 = true ∧ e.2.2.2 = e.2.2.1)
theorem fit_enc {e : Ld} (he : FullOr e) {u : List Nat} (h : ∃ r ∈ allP e.2.2.1 e.2.2.2, fitN r u) : ∃ c, wholeB c = true ∧ u = encN c := by
  obtain ⟨r, hr, hf⟩ := h
  rcases he with ⟨h1, h2⟩ | ⟨h1, h2⟩
  · rw [h1, h2, full_rows] at hr
    exact full_enc hr hf
  · rw [h2, allP_self h1] at hr
    rw [List.mem_singleton.1 hr] at hf
    exact ⟨_, h1, fit_zip hf⟩
/-- A way's text is one of characters. -/
theorem way_enc {E : Edge} {es : List Ld} (hE : ∀ x t y, E x t y → t = []) (he : ∀ e ∈ es, FullOr e) {x y : Nat} {t : List Nat} (h : Way (orE E (esE es)) x t y) : ∃ l : List Int, (∀ c ∈ l, wholeB c = true) ∧ t = encs l := by
  induction h with
  | nil => exact ⟨[], fun c h => absurd h List.not_mem_nil, rfl⟩
  | @cons x y z t u h1 _ ih =>
    obtain ⟨l, h2, rfl⟩ := ih
    rcases h1 with h1 | ⟨e, h3, _, _, h4⟩
    · rw [hE _ _ _ h1]
      exact ⟨l, h2, rfl⟩
    · obtain ⟨c, h5, rfl⟩ := fit_enc (he e h3) h4
      refine ⟨c :: l, fun d hd => ?_, rfl⟩
      rcases List.mem_cons.1 hd with rfl | hd
      · exact h5
      · exact h2 d hd
end Go.Proofs.YtclahhkcbkpofaaDoor
