/- The score, as the document reckons it; the walk of ScoreScores. -/
import Derived.Test.YtdiekkligpinkaaRat
namespace Go.Proofs.Ytdiekkligpinkaa
open Go.RowKit

theorem ratio_int (A B C : Int) (a0 : 0 ≤ A) (a1 : A < 2199023255552) (b0 : 0 ≤ B) (b1 : B ≤ 1152921504606846976) (c0 : 1 ≤ C) (c1 : C ≤ 1152921504606846976) (hq : A.toNat * B.toNat / C.toNat ≤ 1152921504606846976) (w : World) :
    Calls Try.prog 19 #[.int .i64 A, .int .i64 B, .int .i64 C] w fun e w' => e = .returned (.int .i64 (A.toNat * B.toNat / C.toNat : Nat)) ∧ w = w' := by
  have h := ratio_any A.toNat B.toNat C.toNat (by omega) (by omega) (by omega) (by omega) hq w
  rw [Int.toNat_of_nonneg a0, Int.toNat_of_nonneg b0, Int.toNat_of_nonneg (show 0 ≤ C by omega)] at h
  exact h

set_option maxRecDepth 100000 in
set_option maxHeartbeats 2000000 in
theorem rscore_ok (c : Counts) (hc : c.ok = true) (w : World) : Calls Try.prog 11 #[c.val] w fun e w' => e = .returned (.tuple #[.int .i64 (ScN c), .int .i64 0]) ∧ Below w.heap.size w w' := by
  have ho := counts_ok hc
  have hp := part_bounds ho
  have hl := ld_bounds ho
  have hw := wt_bounds ⟨ho.d1, ho.d2, ho.h1, ho.h2⟩
  have hn := num_bound ho
  have HC := Lib.hid (rchk_any c)
  have HW := Lib.hid (wt_yes ⟨ho.d1, ho.d2, ho.h1, ho.h2⟩).2
  have hsc : Hid (ScN c = Num c / (Den c).toNat) := rfl
  have hT : 1 ≤ c.total ∧ c.total ≤ 1099511627776 := ⟨by have := ho.n1; have := ho.t1; have := ho.t2; omega, ho.n2⟩
  have htm : 1 ≤ c.times ∧ c.times ≤ 4096 := ⟨ho.t1, by have := ho.t2; have := ho.l1; omega⟩
  have hln : 1 ≤ c.len ∧ c.len ≤ 4096 := ⟨by have := ho.t1; have := ho.t2; omega, ho.l1⟩
  have HO := Lib.hid hc
  clear hc ho
  unfold Counts.val at *
  obtain ⟨p, ep⟩ : ∃ p : Int, c.times * c.total = p := ⟨_, rfl⟩
  obtain ⟨q, eq⟩ : ∃ q : Int, 9 * c.len * c.docs = q := ⟨_, rfl⟩
  obtain ⟨v, ev⟩ : ∃ v : Int, WtV c.docs c.have_ = v := ⟨_, rfl⟩
  have hnum : Hid (Num c = v.toNat * (22 * p).toNat) := by show _ = _; unfold Num; rw [ev, ep]
  have hden : Hid (Den c = 10 * p + 3 * c.total + q) := by show _ = _; unfold Den; rw [ep, eq]
  rw [ep] at hp
  rw [eq] at hl
  rw [ev] at hw
  obtain ⟨hp1, hp2⟩ := hp
  obtain ⟨hl1, hl2⟩ := hl
  obtain ⟨hw1, hw2⟩ := hw
  obtain ⟨hT1, hT2⟩ := hT
  obtain ⟨ht1, ht2⟩ := htm
  obtain ⟨hn1, hn2⟩ := hln
  have hsb : Hid (ScN c ≤ 9227467) := by
    show _ ≤ _
    rw [hsc.out, Nat.div_le_iff_le_mul_add_pred (by rw [hden.out]; omega)]
    rw [Nat.mul_comm]
    omega
  have hquot : Hid (v.toNat * (22 * p).toNat / (10 * p + 3 * c.total + q).toNat = ScN c) := by
    show _ = _
    rw [hsc.out, hden.out, hnum.out]
  clear hn hnum hden hsc
  have e22 : 22 * c.times * c.total = 22 * p := by rw [Int.mul_assoc, ep]
  have e10 : 10 * c.times * c.total = 10 * p := by rw [Int.mul_assoc, ep]
  obtain ⟨u, hu⟩ : ∃ u : Int, u = 22 * p := ⟨_, rfl⟩
  obtain ⟨x, hx⟩ : ∃ x : Int, x = 10 * p := ⟨_, rfl⟩
  have hpw : IntKind.i64.wrap (22 * c.times * c.total) = u := by rw [e22, ← hu]; exact IntWalk.i64_in _ (by omega)
  have hxw : IntKind.i64.wrap (10 * c.times * c.total) = x := by rw [e10, ← hx]; exact IntWalk.i64_in _ (by omega)
  have hqw : IntKind.i64.wrap (9 * c.len * c.docs) = q := by rw [eq]; exact IntWalk.i64_in _ (by omega)
  rw [← hu, ← hx] at hquot
  have u0 : 0 ≤ u ∧ u ≤ 1152921504606846976 := by omega
  have x0 : 1 ≤ x ∧ x ≤ 45035996273704960 := by omega
  obtain ⟨u0, u1⟩ := u0
  obtain ⟨x0, x1⟩ := x0
  have HEV := Lib.hid ev
  clear e22 e10 ep eq ev hu hx hp1 hp2
  go_enter Try.func11, Try.ntmps11
  go_wp2_with fail
  refine (HC.out _).mono ?_
  rw [HO.out]
  rintro e w1 ⟨rfl, hb1⟩
  have hB1 := bcall (bnew (brefl w) _) hb1
  have hcell : ∀ w2 : World, Below (w.heap.size + 1) (w.alloc (.cells #[.int .i64 c.docs, .int .i64 c.total, .int .i64 c.have_, .int .i64 c.times, .int .i64 c.len] 30)) w2 → ∀ j u, ([.int .i64 c.docs, .int .i64 c.total, .int .i64 c.have_, .int .i64 c.times, .int .i64 c.len] : List Value)[j]? = some u → w2.cell? ⟨w.heap.size, j, none⟩ = some u := by
    intro w2 hb j u hu
    have h := news_at w #[.int .i64 c.docs, .int .i64 c.total, .int .i64 c.have_, .int .i64 c.times, .int .i64 c.len] 30 j u hu
    rw [Addr.add_lit, Nat.zero_add] at h
    exact (hb.cell (p := ⟨w.heap.size, j, none⟩) (Nat.lt_succ_self _)).trans h
  have hb1' : Below (w.heap.size + 1) (w.alloc (.cells #[.int .i64 c.docs, .int .i64 c.total, .int .i64 c.have_, .int .i64 c.times, .int .i64 c.len] 30)) w1 := hb1.mono (by simp)
  have a0 := hcell w1 hb1' 0 _ rfl
  have a1 := hcell w1 hb1' 1 _ rfl
  have a2 := hcell w1 hb1' 2 _ rfl
  have a3 := hcell w1 hb1' 3 _ rfl
  have a4 := hcell w1 hb1' 4 _ rfl
  clear hcell hb1 hb1' HC
  go_wp2_with fail
  refine (rweight_any _ _ _).mono ?_
  rw [HEV.out, HW.out]
  rintro e w2 ⟨rfl, rfl⟩
  go_wp2_with fail
  refine (ratio_int _ _ _ (by omega) (by omega) (by omega) (by omega) (by omega) (by omega) (by rw [hquot.out]; have := hsb.out; omega) _).mono ?_
  rw [hquot.out]
  rintro e w3 ⟨rfl, rfl⟩
  go_wp2
  go_ret2
  exact ⟨rfl, hB1⟩

set_option maxHeartbeats 1000000 in
theorem rscore_any (c : Counts) (w : World) : Calls Try.prog 11 #[c.val] w fun e w' => e = .returned (.tuple #[.int .i64 (ScV c), .int .i64 (ScE c)]) ∧ Below w.heap.size w w' := by
  cases hc : c.ok with
  | true =>
    have e1 : ScV c = (ScN c : Int) := by unfold ScV; rw [if_pos hc]
    have e2 : ScE c = 0 := by unfold ScE; rw [if_pos hc]
    rw [e1, e2]
    exact rscore_ok c hc w
  | false =>
    have e1 : ScV c = 0 := by unfold ScV; rw [if_neg (by rw [hc]; simp)]
    have e2 : ScE c = 1 := by unfold ScE; rw [if_neg (by rw [hc]; simp)]
    rw [e1, e2]
    have HC := Lib.hid (rchk_any c)
    have HO := Lib.hid hc
    clear hc e1 e2
    unfold Counts.val at *
    go_enter Try.func11, Try.ntmps11
    go_wp2_with fail
    refine (HC.out _).mono ?_
    rw [HO.out]
    rintro e w1 ⟨rfl, hb1⟩
    have hB1 := bcall (bnew (brefl w) _) hb1
    go_wp2
    go_ret2
    exact ⟨rfl, hB1⟩
end Go.Proofs.Ytdiekkligpinkaa
