/- The law ScoreScores: its walk. -/
import Derived.Test.YtdiekkligpinkaaRsc
import Derived.Deep.RegionHeld3
namespace Go.Proofs.Ytdiekkligpinkaa
open Go.RowKit

theorem held_keep {w wa wb : World} {c : Counts} (h : wa.cell? ⟨w.heap.size, 0, none⟩ = some (.int .i64 c.docs) ∧ wa.cell? ⟨w.heap.size, 1, none⟩ = some (.int .i64 c.total) ∧ wa.cell? ⟨w.heap.size, 2, none⟩ = some (.int .i64 c.have_) ∧ wa.cell? ⟨w.heap.size, 3, none⟩ = some (.int .i64 c.times) ∧ wa.cell? ⟨w.heap.size, 4, none⟩ = some (.int .i64 c.len) ∧ w.heap.size + 1 ≤ wa.heap.size ∧ Below w.heap.size w wa) (hb : Below wa.heap.size wa wb) : wb.cell? ⟨w.heap.size, 0, none⟩ = some (.int .i64 c.docs) ∧ wb.cell? ⟨w.heap.size, 1, none⟩ = some (.int .i64 c.total) ∧ wb.cell? ⟨w.heap.size, 2, none⟩ = some (.int .i64 c.have_) ∧ wb.cell? ⟨w.heap.size, 3, none⟩ = some (.int .i64 c.times) ∧ wb.cell? ⟨w.heap.size, 4, none⟩ = some (.int .i64 c.len) ∧ w.heap.size + 1 ≤ wb.heap.size ∧ Below w.heap.size w wb := by
  obtain ⟨h0, h1, h2, h3, h4, hs, hB⟩ := h
  have hl : w.heap.size < wa.heap.size := by omega
  exact ⟨(hb.cell (p := ⟨w.heap.size, 0, none⟩) hl).trans h0, (hb.cell (p := ⟨w.heap.size, 1, none⟩) hl).trans h1, (hb.cell (p := ⟨w.heap.size, 2, none⟩) hl).trans h2, (hb.cell (p := ⟨w.heap.size, 3, none⟩) hl).trans h3, (hb.cell (p := ⟨w.heap.size, 4, none⟩) hl).trans h4, by have := hb.size; omega, bcall hB hb⟩

set_option maxRecDepth 100000 in
set_option maxHeartbeats 2000000 in
theorem scores_walk (w : World) (c : Counts) (_ : (Lit.int .i64 c.docs).wf = true ∧ (Lit.int .i64 c.total).wf = true ∧ (Lit.int .i64 c.have_).wf = true ∧ (Lit.int .i64 c.times).wf = true ∧ (Lit.int .i64 c.len).wf = true) : Calls Try.prog 4 #[c.val] w fun e w' => e = .returned (.bool true) ∧ Below w.heap.size w w' := by
  have H1 := Lib.hid (score_any c)
  have H2 := Lib.hid (rscore_any c)
  have H3 := Lib.hid (chk_any c)
  have H4 := Lib.hid (rchk_any c)
  have e0 : ScE c = 0 ∨ ScE c = 1 := by unfold ScE; split <;> simp
  have g0 : WtE c.docs c.have_ = 0 ∨ WtE c.docs c.have_ = 1 := by unfold WtE; split <;> simp
  generalize ScV c = s at *
  generalize ScE c = t at *
  obtain ⟨u, hu⟩ : ∃ u : Int, WtV c.docs c.have_ = u := ⟨_, rfl⟩
  obtain ⟨v, hv⟩ : ∃ v : Int, WtE c.docs c.have_ = v := ⟨_, rfl⟩
  rw [hv] at g0
  have HU := Lib.hid hu
  have HV := Lib.hid hv
  obtain ⟨b, hb⟩ : ∃ b : Bool, c.ok = b := ⟨_, rfl⟩
  have HB := Lib.hid hb
  clear hu hv hb
  have z1 : (s == s) = true := by simp
  have z2 : (t == t) = true := by simp
  have z3 : (u == u) = true := by simp
  have z4 : (v == v) = true := by simp
  have z5 : (b == b) = true := by simp
  unfold Counts.val at *
  go_enter Try.func4, Try.ntmps4
  go_wp2_with fail
  refine (H1.out _).mono ?_
  rintro e w1 ⟨rfl, hb1⟩
  have hB1 := bcall (bnew (brefl w) _) hb1
  have hcell : ∀ w2 : World, Below (w.heap.size + 1) (w.alloc (.cells #[.int .i64 c.docs, .int .i64 c.total, .int .i64 c.have_, .int .i64 c.times, .int .i64 c.len] 30)) w2 → ∀ j u, ([.int .i64 c.docs, .int .i64 c.total, .int .i64 c.have_, .int .i64 c.times, .int .i64 c.len] : List Value)[j]? = some u → w2.cell? ⟨w.heap.size, j, none⟩ = some u := by
    intro w2 hb j u hu
    have h := news_at w #[.int .i64 c.docs, .int .i64 c.total, .int .i64 c.have_, .int .i64 c.times, .int .i64 c.len] 30 j u hu
    rw [Addr.add_lit, Nat.zero_add] at h
    exact (hb.cell (p := ⟨w.heap.size, j, none⟩) (Nat.lt_succ_self _)).trans h
  have hb1' : Below (w.heap.size + 1) (w.alloc (.cells #[.int .i64 c.docs, .int .i64 c.total, .int .i64 c.have_, .int .i64 c.times, .int .i64 c.len] 30)) w1 := hb1.mono (by simp)
  have a0 := hcell w1 hb1' 0 _ rfl
  have a1 := hcell w1 hb1' 1 _ rfl
  have a2 := hcell w1 hb1' 2 _ rfl
  have a3 := hcell w1 hb1' 3 _ rfl
  have a4 := hcell w1 hb1' 4 _ rfl
  go_wp2_with fail
  refine (H2.out _).mono ?_
  rintro e w2 ⟨rfl, hb2⟩
  have hB2 := bcall hB1 hb2
  have hb2' := hb1'.trans (hb2.mono (by have := hb1'.size; simpa using this))
  clear a0 a1 a2 a3 a4
  have b0 := hcell w2 hb2' 0 _ rfl
  have b1 := hcell w2 hb2' 1 _ rfl
  have b2 := hcell w2 hb2' 2 _ rfl
  have b3 := hcell w2 hb2' 3 _ rfl
  have b4 := hcell w2 hb2' 4 _ rfl
  go_wp2_with fail
  refine (weight_any _ _ _).mono ?_
  rw [HU.out, HV.out]
  rintro e w3 ⟨rfl, hb3⟩
  have hB3 := bcall hB2 hb3
  have hb3' := hb2'.trans (hb3.mono (by have := hb2'.size; simpa using this))
  clear b0 b1 b2 b3 b4
  have c0 := hcell w3 hb3' 0 _ rfl
  have c1 := hcell w3 hb3' 1 _ rfl
  have c2 := hcell w3 hb3' 2 _ rfl
  have c3 := hcell w3 hb3' 3 _ rfl
  have c4 := hcell w3 hb3' 4 _ rfl
  go_wp2_with fail
  refine (rweight_any _ _ _).mono ?_
  rw [HU.out, HV.out]
  rintro e w4 ⟨rfl, rfl⟩
  have hsz : w.heap.size + 1 ≤ w3.heap.size := by have := hb3'.size; simpa using this
  have keep : ∀ wa wb : World, Below wa.heap.size wa wb → wa.heap.size ≥ w.heap.size + 1 → wb.heap.size ≥ w.heap.size + 1 := by
    intro wa wb h g
    have := h.size
    omega
  clear hcell hb1 hb2 hb3 hb1' hb2' hb3' hB1 hB2
  go_wp2_with fail
  go_region_held3 (fun w' => w'.cell? ⟨w.heap.size, 0, none⟩ = some (.int .i64 c.docs) ∧ w'.cell? ⟨w.heap.size, 1, none⟩ = some (.int .i64 c.total) ∧ w'.cell? ⟨w.heap.size, 2, none⟩ = some (.int .i64 c.have_) ∧ w'.cell? ⟨w.heap.size, 3, none⟩ = some (.int .i64 c.times) ∧ w'.cell? ⟨w.heap.size, 4, none⟩ = some (.int .i64 c.len) ∧ w.heap.size + 1 ≤ w'.heap.size ∧ Below w.heap.size w w') (first | exact ⟨c0, c1, c2, c3, c4, hsz, below_drewN hB3 1⟩ | assumption | go_keep)
    (first
      | (go_at_call 9; refine (awake_any _).mono ?_; rintro e wn ⟨rfl, hbn⟩; have hk := held_keep (by assumption) hbn)
      | (go_at_call 14; refine (H3.out _).mono ?_; rw [HB.out]; rintro e wn ⟨rfl, hbn⟩; have hk := held_keep (by assumption) hbn)
      | (go_at_call 15; refine (H4.out _).mono ?_; rw [HB.out]; rintro e wn ⟨rfl, hbn⟩; have hk := held_keep (by assumption) hbn))
  all_goals
    go_wp2_with fail
    go_ret
    have hz : ∀ {x : World}, (x.cell? ⟨w.heap.size, 0, none⟩ = some (.int .i64 c.docs) ∧ x.cell? ⟨w.heap.size, 1, none⟩ = some (.int .i64 c.total) ∧ x.cell? ⟨w.heap.size, 2, none⟩ = some (.int .i64 c.have_) ∧ x.cell? ⟨w.heap.size, 3, none⟩ = some (.int .i64 c.times) ∧ x.cell? ⟨w.heap.size, 4, none⟩ = some (.int .i64 c.len) ∧ w.heap.size + 1 ≤ x.heap.size ∧ Below w.heap.size w x) → Below w.heap.size w x := fun h => h.2.2.2.2.2.2
    exact ⟨rfl, hz (by assumption)⟩
end Go.Proofs.Ytdiekkligpinkaa
