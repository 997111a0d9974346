/- The law ScoreOrders: its walk. -/
import Derived.Test.YtdiekkligpinkaaOrd
namespace Go.Proofs.Ytdiekkligpinkaa
open Go.RowKit

set_option maxRecDepth 100000 in
set_option maxHeartbeats 2000000 in
theorem orders_no (w : World) (c : Counts) (m : Int) (hc : c.ok = false) : Calls Try.prog 6 #[c.val, .int .i64 m] w fun e w' => e = .returned (.bool true) ∧ Below w.heap.size w w' := by
  have e1 : ScV c = 0 := by unfold ScV; rw [if_neg (by rw [hc]; simp)]
  have e2 : ScE c = 1 := by unfold ScE; rw [if_neg (by rw [hc]; simp)]
  have H1 := score_any c
  rw [e1, e2] at H1
  have H1 := Lib.hid H1
  clear hc e1 e2
  unfold Counts.val at *
  go_enter Try.func6, Try.ntmps6
  go_wp2_with fail
  refine (H1.out _).mono ?_
  rintro e w1 ⟨rfl, hb1⟩
  have hB1 := bcall (bnew (brefl w) _) hb1
  go_wp2_with fail
  refine (awake_any _).mono ?_
  rintro e w2 ⟨rfl, hb2⟩
  have hB2 := bcall hB1 hb2
  go_wp2_with fail
  refine (awake_any _).mono ?_
  rintro e w3 ⟨rfl, hb3⟩
  have hB3 := bcall hB2 hb3
  go_wp2_with fail
  go_ret
  exact ⟨rfl, hB3⟩

/-- The block of the argument, known whole. -/
def Five (w : World) (b : Nat) (c : Counts) : Prop := w.cell? ⟨b, 0, none⟩ = some (.int .i64 c.docs) ∧ w.cell? ⟨b, 1, none⟩ = some (.int .i64 c.total) ∧ w.cell? ⟨b, 2, none⟩ = some (.int .i64 c.have_) ∧ w.cell? ⟨b, 3, none⟩ = some (.int .i64 c.times) ∧ w.cell? ⟨b, 4, none⟩ = some (.int .i64 c.len)
theorem Five.keep {w w' : World} {b : Nat} {c : Counts} (h : Five w b c) (hb : Below w.heap.size w w') : Five w' b c := by
  obtain ⟨h0, h1, h2, h3, h4⟩ := h
  have hl : b < w.heap.size := (lt_of_cell h0).1
  exact ⟨(hb.cell (p := ⟨b, 0, none⟩) hl).trans h0, (hb.cell (p := ⟨b, 1, none⟩) hl).trans h1, (hb.cell (p := ⟨b, 2, none⟩) hl).trans h2, (hb.cell (p := ⟨b, 3, none⟩) hl).trans h3, (hb.cell (p := ⟨b, 4, none⟩) hl).trans h4⟩
theorem Five.new (w : World) (c : Counts) (t : TypeId) : Five (w.alloc (.cells #[.int .i64 c.docs, .int .i64 c.total, .int .i64 c.have_, .int .i64 c.times, .int .i64 c.len] t)) w.heap.size c := by
  have f : ∀ j u, ([.int .i64 c.docs, .int .i64 c.total, .int .i64 c.have_, .int .i64 c.times, .int .i64 c.len] : List Value)[j]? = some u → (w.alloc (.cells #[.int .i64 c.docs, .int .i64 c.total, .int .i64 c.have_, .int .i64 c.times, .int .i64 c.len] t)).cell? ⟨w.heap.size, j, none⟩ = some u := by
    intro j u hu
    have h := news_at w #[.int .i64 c.docs, .int .i64 c.total, .int .i64 c.have_, .int .i64 c.times, .int .i64 c.len] t j u hu
    rwa [Addr.add_lit, Nat.zero_add] at h
  exact ⟨f 0 _ rfl, f 1 _ rfl, f 2 _ rfl, f 3 _ rfl, f 4 _ rfl⟩

set_option maxRecDepth 100000 in
set_option maxHeartbeats 4000000 in
theorem orders_yes (w : World) (c : Counts) (m : Int) (hc : c.ok = true) : Calls Try.prog 6 #[c.val, .int .i64 m] w fun e w' => e = .returned (.bool true) ∧ Below w.heap.size w w' := by
  have ho := counts_ok hc
  obtain ⟨s, hs⟩ : ∃ s : Int, (ScN c : Int) = s := ⟨_, rfl⟩
  obtain ⟨v, hv⟩ : ∃ v : Int, WtV c.docs c.have_ = v := ⟨_, rfl⟩
  have hvb := wt_bounds ⟨ho.d1, ho.d2, ho.h1, ho.h2⟩
  have htop := ord_top ho
  have HW := (wt_yes ⟨ho.d1, ho.d2, ho.h1, ho.h2⟩).2
  have s0 : 0 ≤ s := by omega
  rw [hs, hv] at htop
  rw [hv] at hvb
  obtain ⟨htop, v0⟩ := htop
  have v1 := hvb.2
  clear hvb
  have H1 := score_ok c hc
  rw [hs] at H1
  have H1 := Lib.hid H1
  have H2 := weight_any c.docs c.have_
  rw [hv, HW] at H2
  have H2 := Lib.hid H2
  obtain ⟨mm, hmm⟩ : ∃ mm : Int, max 0 (min m 4096) = mm := ⟨_, rfl⟩
  have hm0 : 0 ≤ mm ∧ mm ≤ 4096 := by omega
  have hd1 := ho.d1
  have hd2 := ho.d2
  have hd3 := ho.h1
  have hd4 := ho.h2
  have hd5 := ho.t1
  have hd6 := ho.t2
  have hd7 := ho.l1
  have hd8 := ho.n1
  have hd9 := ho.n2
  obtain ⟨ok1, le1⟩ := ord_times ho (t := min c.len (c.times + mm)) (by omega) (by omega)
  obtain ⟨ok2, le2⟩ := ord_len ho (l := min 4096 (min c.total (c.len + mm))) (by omega) (by omega) (by omega)
  obtain ⟨ok3, le3⟩ := ord_have ho (a := min c.docs (c.have_ + mm)) (by omega) (by omega)
  have HT := score_ok _ ok1
  have HL := score_ok _ ok2
  have HH := score_ok _ ok3
  obtain ⟨r1, hr1⟩ : ∃ r : Int, (ScN { c with times := min c.len (c.times + mm) } : Int) = r := ⟨_, rfl⟩
  obtain ⟨r2, hr2⟩ : ∃ r : Int, (ScN { c with len := min 4096 (min c.total (c.len + mm)) } : Int) = r := ⟨_, rfl⟩
  obtain ⟨r3, hr3⟩ : ∃ r : Int, (ScN { c with have_ := min c.docs (c.have_ + mm) } : Int) = r := ⟨_, rfl⟩
  rw [hr1] at HT
  rw [hr2] at HL
  rw [hr3] at HH
  have g1 : s ≤ r1 := by omega
  have g2 : r2 ≤ s := by omega
  have g3 : r3 ≤ s := by omega
  unfold Counts.val at HT HL HH
  dsimp only at HT HL HH
  subst hmm
  have HT := Lib.hid HT
  have HL := Lib.hid HL
  have HH := Lib.hid HH
  clear hr1 hr2 hr3 le1 le2 le3 ok1 ok2 ok3 hm0 hd1 hd2 hd3 hd4 hd5 hd6 hd7 hd8 hd9
  obtain ⟨d1, d2, h1, h2, t1, t2, l1, n1, n2⟩ := ho
  clear hs hv HW hc
  have q1 : decide (s < 0) = false := by simpa using s0
  have q2 : decide (22 * v < 10 * s) = false := by simpa using htop
  have q3 : decide (v < 0) = false := by simpa using v0
  have q4 : decide (s ≤ r1) = true := by simpa using g1
  have q5 : decide (r2 ≤ s) = true := by simpa using g2
  have q6 : decide (r3 ≤ s) = true := by simpa using g3
  have F1 := Lib.hid (Five.new w c 30)
  unfold Counts.val at H1 ⊢
  go_enter Try.func6, Try.ntmps6
  go_wp2_with fail
  refine (H1.out _).mono ?_
  rintro e w1 ⟨rfl, hb1⟩
  have F2 := Lib.hid (F1.out.keep hb1)
  have hB1 := bcall (bnew (brefl w) _) hb1
  clear F1 hb1
  go_wp2_with fail
  refine (awake_any _).mono ?_
  rintro e w2 ⟨rfl, hb2⟩
  have F3 := Lib.hid (F2.out.keep hb2)
  have hB2 := bcall hB1 hb2
  clear F2 hb2 hB1
  obtain ⟨f0, f1, f2, f3, f4⟩ := F3.out
  go_wp2_with fail
  refine (H2.out _).mono ?_
  rintro e w3 ⟨rfl, hb3⟩
  have F4 := Lib.hid (F3.out.keep hb3)
  have hB3 := bcall hB2 hb3
  clear f0 f1 f2 f3 f4 F3 hb3 hB2
  obtain ⟨f0, f1, f2, f3, f4⟩ := F4.out
  have hl4 := (lt_of_cell f0).1
  simp only at hl4
  go_wp2_with fail
  all_goals try (exfalso; omega)
  (with_reducible refine (HT.out _).mono ?_)
  rintro e w4 ⟨rfl, hb4⟩
  have F5 := Lib.hid ((F4.out.keep ((brefl w3).alloc (Nat.le_refl _) _)).keep hb4)
  have hB4 := bcall (bnew hB3 _) hb4
  clear f0 f1 f2 f3 f4 F4 hb4 hB3 HT hl4
  obtain ⟨f0, f1, f2, f3, f4⟩ := F5.out
  have hl4 := (lt_of_cell f0).1
  simp only at hl4
  go_wp2_with fail
  (with_reducible refine (HL.out _).mono ?_)
  rintro e w5 ⟨rfl, hb5⟩
  have F6 := Lib.hid ((F5.out.keep ((brefl w4).alloc (Nat.le_refl _) _)).keep hb5)
  have hB5 := bcall (bnew hB4 _) hb5
  clear f0 f1 f2 f3 f4 F5 hb5 hB4 HL hl4
  obtain ⟨f0, f1, f2, f3, f4⟩ := F6.out
  have hl4 := (lt_of_cell f0).1
  simp only at hl4
  go_wp2_with fail
  (with_reducible refine (HH.out _).mono ?_)
  rintro e w6 ⟨rfl, hb6⟩
  have hB6 := bcall (bnew hB5 _) hb6
  clear f0 f1 f2 f3 f4 hb6 hB5 HH hl4
  go_wp2_with fail
  go_ret
  exact ⟨rfl, hB6⟩

theorem orders_walk (w : World) (c : Counts) (_ : (Lit.int .i64 c.docs).wf = true ∧ (Lit.int .i64 c.total).wf = true ∧ (Lit.int .i64 c.have_).wf = true ∧ (Lit.int .i64 c.times).wf = true ∧ (Lit.int .i64 c.len).wf = true) (m : Int) (_ : (Lit.int .i64 m).wf = true) : Calls Try.prog 6 #[c.val, .int .i64 m] w fun e w' => e = .returned (.bool true) ∧ Below w.heap.size w w' := by
  cases hc : c.ok with
  | true => exact orders_yes w c m hc
  | false => exact orders_no w c m hc
end Go.Proofs.Ytdiekkligpinkaa
