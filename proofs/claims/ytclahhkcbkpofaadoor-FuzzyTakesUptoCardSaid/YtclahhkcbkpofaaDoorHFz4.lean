/- Rows: its walk. -/
import Derived.Test.YtclahhkcbkpofaaDoorHFz3
namespace Go.Proofs.YtclahhkcbkpofaaDoor.Sp
open Go.RowKit
def part (lo hi x0 x1 : Int) : List (List (Int × Int)) := if max lo x0 ≤ min hi x1 then rowsP (max lo x0) (min hi x1) else []
def upto (j : Nat) (lo hi : Int) : List (List (Int × Int)) :=
  ([part lo hi 0 127, part lo hi 128 2047, part lo hi 2048 55295, part lo hi 57344 65535, part lo hi 65536 1114111].take j).flatten
def allP (lo hi : Int) : List (List (Int × Int)) := upto 5 (max lo 0) (min hi 1114111)

def AllR (w : World) (lo hi : Int) (v i : Value) (wr : World) : Prop :=
  ∃ (j : Nat) (l : List RR), (j = 0 ∨ j = 1 ∨ j = 2 ∨ j = 3 ∨ j = 4 ∨ j = 5) ∧ i = .int .i64 j ∧ RowsAt wr w.heap.size v l ∧ l.map RR.r = upto j lo hi ∧ Below w.heap.size w wr
theorem rowsAt_lit (w : World) {nb : Nat} (h : nb = w.heap.size) : RowsAt (w.alloc (.cells #[] 59)) w.heap.size (.slice (some ⟨nb, 0, none⟩) 0 0) [] :=
  ⟨own_lit w 59 1 h (Nat.le_refl _), fun R hR => by simp at hR, by simp⟩
theorem part_len {lo hi : Int} (h0 : 0 ≤ lo) (h1 : hi ≤ 1114111) {x y : Int} (hc : ∀ a b, x ≤ a → b ≤ y → 0 ≤ a → b ≤ 1114111 → Cls a b) : (part lo hi x y).length ≤ 1114112 := by
  unfold part
  split
  · have := rows_len ‹_› (hc _ _ (by omega) (by omega) (by omega) (by omega))
    omega
  · simp
theorem upto_len (lo hi : Int) (h0 : 0 ≤ lo) (h1 : hi ≤ 1114111) (j : Nat) (hj : j ≤ 5) : (upto j lo hi).length ≤ 5 * 1114112 := by
  have p0 := part_len h0 h1 (x := 0) (y := 127) (fun a b _ _ _ _ => by unfold Cls; omega)
  have p1 := part_len h0 h1 (x := 128) (y := 2047) (fun a b _ _ _ _ => by unfold Cls; omega)
  have p2 := part_len h0 h1 (x := 2048) (y := 55295) (fun a b _ _ _ _ => by unfold Cls; omega)
  have p3 := part_len h0 h1 (x := 57344) (y := 65535) (fun a b _ _ _ _ => by unfold Cls; omega)
  have p4 := part_len h0 h1 (x := 65536) (y := 1114111) (fun a b _ _ _ _ => by unfold Cls; omega)
  unfold upto
  obtain rfl | rfl | rfl | rfl | rfl | rfl : j = 0 ∨ j = 1 ∨ j = 2 ∨ j = 3 ∨ j = 4 ∨ j = 5 := by omega
  all_goals
    simp only [List.take_succ_cons, List.take_zero, List.flatten_cons, List.flatten_nil, List.length_append, List.length_nil]
    omega

theorem idx0 (w : World) : (Instr.index 89 (.agg #[.int .i64 0, .int .i64 127, .int .i64 128, .int .i64 2047, .int .i64 2048, .int .i64 55295, .int .i64 57344, .int .i64 65535, .int .i64 65536, .int .i64 1114111]) (.int .i64 0)).run Tryd.prog w = .ok (.agg #[.int .i64 0, .int .i64 127]) w := by kernel_rfl
theorem upto0 (lo hi : Int) : upto 1 lo hi = upto 0 lo hi ++ part lo hi 0 127 := by simp [upto]
theorem idx1 (w : World) : (Instr.index 89 (.agg #[.int .i64 0, .int .i64 127, .int .i64 128, .int .i64 2047, .int .i64 2048, .int .i64 55295, .int .i64 57344, .int .i64 65535, .int .i64 65536, .int .i64 1114111]) (.int .i64 1)).run Tryd.prog w = .ok (.agg #[.int .i64 128, .int .i64 2047]) w := by kernel_rfl
theorem upto1 (lo hi : Int) : upto 2 lo hi = upto 1 lo hi ++ part lo hi 128 2047 := by simp [upto]
theorem idx2 (w : World) : (Instr.index 89 (.agg #[.int .i64 0, .int .i64 127, .int .i64 128, .int .i64 2047, .int .i64 2048, .int .i64 55295, .int .i64 57344, .int .i64 65535, .int .i64 65536, .int .i64 1114111]) (.int .i64 2)).run Tryd.prog w = .ok (.agg #[.int .i64 2048, .int .i64 55295]) w := by kernel_rfl
theorem upto2 (lo hi : Int) : upto 3 lo hi = upto 2 lo hi ++ part lo hi 2048 55295 := by simp [upto]
theorem idx3 (w : World) : (Instr.index 89 (.agg #[.int .i64 0, .int .i64 127, .int .i64 128, .int .i64 2047, .int .i64 2048, .int .i64 55295, .int .i64 57344, .int .i64 65535, .int .i64 65536, .int .i64 1114111]) (.int .i64 3)).run Tryd.prog w = .ok (.agg #[.int .i64 57344, .int .i64 65535]) w := by kernel_rfl
theorem upto3 (lo hi : Int) : upto 4 lo hi = upto 3 lo hi ++ part lo hi 57344 65535 := by simp [upto]
theorem idx4 (w : World) : (Instr.index 89 (.agg #[.int .i64 0, .int .i64 127, .int .i64 128, .int .i64 2047, .int .i64 2048, .int .i64 55295, .int .i64 57344, .int .i64 65535, .int .i64 65536, .int .i64 1114111]) (.int .i64 4)).run Tryd.prog w = .ok (.agg #[.int .i64 65536, .int .i64 1114111]) w := by kernel_rfl
theorem upto4 (lo hi : Int) : upto 5 lo hi = upto 4 lo hi ++ part lo hi 65536 1114111 := by simp [upto]

set_option maxRecDepth 100000 in
set_option maxHeartbeats 40000000 in
theorem all_any (lo hi : Int) (w : World) : Calls Tryd.prog 33 #[.int .i64 lo, .int .i64 hi] w (RowsOf w (allP lo hi)) := by
  have hall : Hid (allP lo hi = upto 5 (max lo 0) (min hi 1114111)) := rfl
  go_enter Tryd.func33, Tryd.ntmps33
  go_wp2_with fail
  obtain ⟨a, ha⟩ : ∃ a, max lo 0 = a := ⟨_, rfl⟩
  obtain ⟨b, hb⟩ : ∃ b, min hi 1114111 = b := ⟨_, rfl⟩
  have a0 : 0 ≤ a := by omega
  have b0 : b ≤ 1114111 := by omega
  rw [ha, hb] at hall
  rw [ha, hb]
  clear ha hb
  go_loopw [5, 21] (fun v i wr => AllR w a b v i wr) (fun _ i _ => 5 - (intOf i).toNat)
  case atStart => exact ⟨0, [], by omega, rfl, rowsAt_lit w rfl, rfl, bnew (brefl w) _⟩
  case round =>
    obtain ⟨j, l, hj, rfl, hr, hm, hbw⟩ := hrel
    have HR := Lib.hid hr
    have HM := Lib.hid hm
    have HB := Lib.hid hbw
    have hsz := hbw.size
    have hlen : l.length ≤ 5 * 1114112 := by
      have := congrArg List.length hm
      rw [List.length_map] at this
      rw [this]
      exact upto_len a b a0 b0 _ (by omega)
    clear hr hm hbw
    obtain rfl | rfl | rfl | rfl | rfl | rfl := hj
    · have ix := idx0
      by_cases hx : max a 0 ≤ min b 127
      · have hcl : Cls (max a 0) (min b 127) := by unfold Cls; omega
        have hp : part a b 0 127 = rowsP (max a 0) (min b 127) := by unfold part; rw [if_pos hx]
        have HP := Lib.hid hp
        have hrl := rows_len hx hcl
        have hq : ((rowsP (max a 0) (min b 127)).length : Int) ≤ 1114112 := by omega
        have q1 : decide (max a 0 ≤ min b 127) = true := by simpa using hx
        have HC := Lib.hid (fun w => rows_any (max a 0) (min b 127) w hx hcl)
        clear hcl hp hrl
        go_wp2_with fail
        go_region_held3 (fun w' => w'.cell? ⟨wr.heap.size, 0, none⟩ = some (.int .i64 0) ∧ w'.cell? ⟨wr.heap.size, 1, none⟩ = some (.int .i64 127)) (go_keep) (fail)
        all_goals
          clear ix
          go_wp2_with fail
          ((with_reducible refine (HC.out _).mono ?_))
          rintro e w1 ⟨v1, l1, rfl, hr1, hm1, hb1⟩
          have hl1 : l1.length ≤ 1114112 := by
            have := congrArg List.length hm1
            rw [List.length_map] at this
            omega
          have HR1 := Lib.hid hr1
          have HM1 := Lib.hid hm1
          have HB1 := Lib.hid (bcall (bnew (brefl wr) _).drew hb1)
          have hs1 := hb1.size
          simp only [World.size_drew, World.size_alloc] at hs1
          obtain ⟨A2, c2, rfl, _⟩ := own_shape hr1.own
          have hnn : A2 = none → l1.length = 0 := by
            intro e
            subst e
            rcases hr1.own.2 with ⟨_, h0⟩ | ⟨g, cap, cur, hv, _⟩
            · exact h0
            · cases hv
          clear hr1 hm1 hb1 HC q1 hq hx
          go_wp2_with (at_builtin; refine wpList_append_sl w1 w1 rfl _ _ _ rfl el_row _ _ _ rfl (own_kept HR.out.own HB1.out) rfl (Sl.of_own HR1.out.own) hnn (vals_one l1) (by unfold maxLen; omega) (by omega) (by omega) (brefl _ |>.mono (by omega)) ?_; intro v3 w4 hown3 hb3 hgr _)
          go_roundw
          case rel =>
            refine ⟨1, l ++ l1, by omega, rfl, HR.out.join HB1.out (HR1.out.base (by simp)) hown3 hgr (by omega), ?_, (bcall HB.out HB1.out).trans (hb3.mono (by omega))⟩
            rw [List.map_append, HM.out, HM1.out, upto0, HP.out]
          case measure => simp [intOf]
      · have hp : part a b 0 127 = [] := by unfold part; rw [if_neg hx]
        have HP := Lib.hid hp
        have q1 : decide (max a 0 ≤ min b 127) = false := by simpa using hx
        clear hp
        go_wp2_with fail
        go_region_held3 (fun w' => w'.cell? ⟨wr.heap.size, 0, none⟩ = some (.int .i64 0) ∧ w'.cell? ⟨wr.heap.size, 1, none⟩ = some (.int .i64 127)) (go_keep) (fail)
        all_goals
          clear ix hx
          go_wp2_with fail
          go_roundw
          case rel =>
            refine ⟨1, l, by omega, rfl, HR.out.kept (bnew (brefl wr) _).drew, ?_, bcall HB.out (bnew (brefl wr) _).drew⟩
            rw [HM.out, upto0, HP.out, List.append_nil]
          case measure => simp [intOf]
    · have ix := idx1
      by_cases hx : max a 128 ≤ min b 2047
      · have hcl : Cls (max a 128) (min b 2047) := by unfold Cls; omega
        have hp : part a b 128 2047 = rowsP (max a 128) (min b 2047) := by unfold part; rw [if_pos hx]
        have HP := Lib.hid hp
        have hrl := rows_len hx hcl
        have hq : ((rowsP (max a 128) (min b 2047)).length : Int) ≤ 1114112 := by omega
        have q1 : decide (max a 128 ≤ min b 2047) = true := by simpa using hx
        have HC := Lib.hid (fun w => rows_any (max a 128) (min b 2047) w hx hcl)
        clear hcl hp hrl
        go_wp2_with fail
        go_region_held3 (fun w' => w'.cell? ⟨wr.heap.size, 0, none⟩ = some (.int .i64 128) ∧ w'.cell? ⟨wr.heap.size, 1, none⟩ = some (.int .i64 2047)) (go_keep) (fail)
        all_goals
          clear ix
          go_wp2_with fail
          ((with_reducible refine (HC.out _).mono ?_))
          rintro e w1 ⟨v1, l1, rfl, hr1, hm1, hb1⟩
          have hl1 : l1.length ≤ 1114112 := by
            have := congrArg List.length hm1
            rw [List.length_map] at this
            omega
          have HR1 := Lib.hid hr1
          have HM1 := Lib.hid hm1
          have HB1 := Lib.hid (bcall (bnew (brefl wr) _).drew hb1)
          have hs1 := hb1.size
          simp only [World.size_drew, World.size_alloc] at hs1
          obtain ⟨A2, c2, rfl, _⟩ := own_shape hr1.own
          have hnn : A2 = none → l1.length = 0 := by
            intro e
            subst e
            rcases hr1.own.2 with ⟨_, h0⟩ | ⟨g, cap, cur, hv, _⟩
            · exact h0
            · cases hv
          clear hr1 hm1 hb1 HC q1 hq hx
          go_wp2_with (at_builtin; refine wpList_append_sl w1 w1 rfl _ _ _ rfl el_row _ _ _ rfl (own_kept HR.out.own HB1.out) rfl (Sl.of_own HR1.out.own) hnn (vals_one l1) (by unfold maxLen; omega) (by omega) (by omega) (brefl _ |>.mono (by omega)) ?_; intro v3 w4 hown3 hb3 hgr _)
          go_roundw
          case rel =>
            refine ⟨2, l ++ l1, by omega, rfl, HR.out.join HB1.out (HR1.out.base (by simp)) hown3 hgr (by omega), ?_, (bcall HB.out HB1.out).trans (hb3.mono (by omega))⟩
            rw [List.map_append, HM.out, HM1.out, upto1, HP.out]
          case measure => simp [intOf]
      · have hp : part a b 128 2047 = [] := by unfold part; rw [if_neg hx]
        have HP := Lib.hid hp
        have q1 : decide (max a 128 ≤ min b 2047) = false := by simpa using hx
        clear hp
        go_wp2_with fail
        go_region_held3 (fun w' => w'.cell? ⟨wr.heap.size, 0, none⟩ = some (.int .i64 128) ∧ w'.cell? ⟨wr.heap.size, 1, none⟩ = some (.int .i64 2047)) (go_keep) (fail)
        all_goals
          clear ix hx
          go_wp2_with fail
          go_roundw
          case rel =>
            refine ⟨2, l, by omega, rfl, HR.out.kept (bnew (brefl wr) _).drew, ?_, bcall HB.out (bnew (brefl wr) _).drew⟩
            rw [HM.out, upto1, HP.out, List.append_nil]
          case measure => simp [intOf]
    · have ix := idx2
      by_cases hx : max a 2048 ≤ min b 55295
      · have hcl : Cls (max a 2048) (min b 55295) := by unfold Cls; omega
        have hp : part a b 2048 55295 = rowsP (max a 2048) (min b 55295) := by unfold part; rw [if_pos hx]
        have HP := Lib.hid hp
        have hrl := rows_len hx hcl
        have hq : ((rowsP (max a 2048) (min b 55295)).length : Int) ≤ 1114112 := by omega
        have q1 : decide (max a 2048 ≤ min b 55295) = true := by simpa using hx
        have HC := Lib.hid (fun w => rows_any (max a 2048) (min b 55295) w hx hcl)
        clear hcl hp hrl
        go_wp2_with fail
        go_region_held3 (fun w' => w'.cell? ⟨wr.heap.size, 0, none⟩ = some (.int .i64 2048) ∧ w'.cell? ⟨wr.heap.size, 1, none⟩ = some (.int .i64 55295)) (go_keep) (fail)
        all_goals
          clear ix
          go_wp2_with fail
          ((with_reducible refine (HC.out _).mono ?_))
          rintro e w1 ⟨v1, l1, rfl, hr1, hm1, hb1⟩
          have hl1 : l1.length ≤ 1114112 := by
            have := congrArg List.length hm1
            rw [List.length_map] at this
            omega
          have HR1 := Lib.hid hr1
          have HM1 := Lib.hid hm1
          have HB1 := Lib.hid (bcall (bnew (brefl wr) _).drew hb1)
          have hs1 := hb1.size
          simp only [World.size_drew, World.size_alloc] at hs1
          obtain ⟨A2, c2, rfl, _⟩ := own_shape hr1.own
          have hnn : A2 = none → l1.length = 0 := by
            intro e
            subst e
            rcases hr1.own.2 with ⟨_, h0⟩ | ⟨g, cap, cur, hv, _⟩
            · exact h0
            · cases hv
          clear hr1 hm1 hb1 HC q1 hq hx
          go_wp2_with (at_builtin; refine wpList_append_sl w1 w1 rfl _ _ _ rfl el_row _ _ _ rfl (own_kept HR.out.own HB1.out) rfl (Sl.of_own HR1.out.own) hnn (vals_one l1) (by unfold maxLen; omega) (by omega) (by omega) (brefl _ |>.mono (by omega)) ?_; intro v3 w4 hown3 hb3 hgr _)
          go_roundw
          case rel =>
            refine ⟨3, l ++ l1, by omega, rfl, HR.out.join HB1.out (HR1.out.base (by simp)) hown3 hgr (by omega), ?_, (bcall HB.out HB1.out).trans (hb3.mono (by omega))⟩
            rw [List.map_append, HM.out, HM1.out, upto2, HP.out]
          case measure => simp [intOf]
      · have hp : part a b 2048 55295 = [] := by unfold part; rw [if_neg hx]
        have HP := Lib.hid hp
        have q1 : decide (max a 2048 ≤ min b 55295) = false := by simpa using hx
        clear hp
        go_wp2_with fail
        go_region_held3 (fun w' => w'.cell? ⟨wr.heap.size, 0, none⟩ = some (.int .i64 2048) ∧ w'.cell? ⟨wr.heap.size, 1, none⟩ = some (.int .i64 55295)) (go_keep) (fail)
        all_goals
          clear ix hx
          go_wp2_with fail
          go_roundw
          case rel =>
            refine ⟨3, l, by omega, rfl, HR.out.kept (bnew (brefl wr) _).drew, ?_, bcall HB.out (bnew (brefl wr) _).drew⟩
            rw [HM.out, upto2, HP.out, List.append_nil]
          case measure => simp [intOf]
    · have ix := idx3
      by_cases hx : max a 57344 ≤ min b 65535
      · have hcl : Cls (max a 57344) (min b 65535) := by unfold Cls; omega
        have hp : part a b 57344 65535 = rowsP (max a 57344) (min b 65535) := by unfold part; rw [if_pos hx]
        have HP := Lib.hid hp
        have hrl := rows_len hx hcl
        have hq : ((rowsP (max a 57344) (min b 65535)).length : Int) ≤ 1114112 := by omega
        have q1 : decide (max a 57344 ≤ min b 65535) = true := by simpa using hx
        have HC := Lib.hid (fun w => rows_any (max a 57344) (min b 65535) w hx hcl)
        clear hcl hp hrl
        go_wp2_with fail
        go_region_held3 (fun w' => w'.cell? ⟨wr.heap.size, 0, none⟩ = some (.int .i64 57344) ∧ w'.cell? ⟨wr.heap.size, 1, none⟩ = some (.int .i64 65535)) (go_keep) (fail)
        all_goals
          clear ix
          go_wp2_with fail
          ((with_reducible refine (HC.out _).mono ?_))
          rintro e w1 ⟨v1, l1, rfl, hr1, hm1, hb1⟩
          have hl1 : l1.length ≤ 1114112 := by
            have := congrArg List.length hm1
            rw [List.length_map] at this
            omega
          have HR1 := Lib.hid hr1
          have HM1 := Lib.hid hm1
          have HB1 := Lib.hid (bcall (bnew (brefl wr) _).drew hb1)
          have hs1 := hb1.size
          simp only [World.size_drew, World.size_alloc] at hs1
          obtain ⟨A2, c2, rfl, _⟩ := own_shape hr1.own
          have hnn : A2 = none → l1.length = 0 := by
            intro e
            subst e
            rcases hr1.own.2 with ⟨_, h0⟩ | ⟨g, cap, cur, hv, _⟩
            · exact h0
            · cases hv
          clear hr1 hm1 hb1 HC q1 hq hx
          go_wp2_with (at_builtin; refine wpList_append_sl w1 w1 rfl _ _ _ rfl el_row _ _ _ rfl (own_kept HR.out.own HB1.out) rfl (Sl.of_own HR1.out.own) hnn (vals_one l1) (by unfold maxLen; omega) (by omega) (by omega) (brefl _ |>.mono (by omega)) ?_; intro v3 w4 hown3 hb3 hgr _)
          go_roundw
          case rel =>
            refine ⟨4, l ++ l1, by omega, rfl, HR.out.join HB1.out (HR1.out.base (by simp)) hown3 hgr (by omega), ?_, (bcall HB.out HB1.out).trans (hb3.mono (by omega))⟩
            rw [List.map_append, HM.out, HM1.out, upto3, HP.out]
          case measure => simp [intOf]
      · have hp : part a b 57344 65535 = [] := by unfold part; rw [if_neg hx]
        have HP := Lib.hid hp
        have q1 : decide (max a 57344 ≤ min b 65535) = false := by simpa using hx
        clear hp
        go_wp2_with fail
        go_region_held3 (fun w' => w'.cell? ⟨wr.heap.size, 0, none⟩ = some (.int .i64 57344) ∧ w'.cell? ⟨wr.heap.size, 1, none⟩ = some (.int .i64 65535)) (go_keep) (fail)
        all_goals
          clear ix hx
          go_wp2_with fail
          go_roundw
          case rel =>
            refine ⟨4, l, by omega, rfl, HR.out.kept (bnew (brefl wr) _).drew, ?_, bcall HB.out (bnew (brefl wr) _).drew⟩
            rw [HM.out, upto3, HP.out, List.append_nil]
          case measure => simp [intOf]
    · have ix := idx4
      by_cases hx : max a 65536 ≤ min b 1114111
      · have hcl : Cls (max a 65536) (min b 1114111) := by unfold Cls; omega
        have hp : part a b 65536 1114111 = rowsP (max a 65536) (min b 1114111) := by unfold part; rw [if_pos hx]
        have HP := Lib.hid hp
        have hrl := rows_len hx hcl
        have hq : ((rowsP (max a 65536) (min b 1114111)).length : Int) ≤ 1114112 := by omega
        have q1 : decide (max a 65536 ≤ min b 1114111) = true := by simpa using hx
        have HC := Lib.hid (fun w => rows_any (max a 65536) (min b 1114111) w hx hcl)
        clear hcl hp hrl
        go_wp2_with fail
        go_region_held3 (fun w' => w'.cell? ⟨wr.heap.size, 0, none⟩ = some (.int .i64 65536) ∧ w'.cell? ⟨wr.heap.size, 1, none⟩ = some (.int .i64 1114111)) (go_keep) (fail)
        all_goals
          clear ix
          go_wp2_with fail
          ((with_reducible refine (HC.out _).mono ?_))
          rintro e w1 ⟨v1, l1, rfl, hr1, hm1, hb1⟩
          have hl1 : l1.length ≤ 1114112 := by
            have := congrArg List.length hm1
            rw [List.length_map] at this
            omega
          have HR1 := Lib.hid hr1
          have HM1 := Lib.hid hm1
          have HB1 := Lib.hid (bcall (bnew (brefl wr) _).drew hb1)
          have hs1 := hb1.size
          simp only [World.size_drew, World.size_alloc] at hs1
          obtain ⟨A2, c2, rfl, _⟩ := own_shape hr1.own
          have hnn : A2 = none → l1.length = 0 := by
            intro e
            subst e
            rcases hr1.own.2 with ⟨_, h0⟩ | ⟨g, cap, cur, hv, _⟩
            · exact h0
            · cases hv
          clear hr1 hm1 hb1 HC q1 hq hx
          go_wp2_with (at_builtin; refine wpList_append_sl w1 w1 rfl _ _ _ rfl el_row _ _ _ rfl (own_kept HR.out.own HB1.out) rfl (Sl.of_own HR1.out.own) hnn (vals_one l1) (by unfold maxLen; omega) (by omega) (by omega) (brefl _ |>.mono (by omega)) ?_; intro v3 w4 hown3 hb3 hgr _)
          go_roundw
          case rel =>
            refine ⟨5, l ++ l1, by omega, rfl, HR.out.join HB1.out (HR1.out.base (by simp)) hown3 hgr (by omega), ?_, (bcall HB.out HB1.out).trans (hb3.mono (by omega))⟩
            rw [List.map_append, HM.out, HM1.out, upto4, HP.out]
          case measure => simp [intOf]
      · have hp : part a b 65536 1114111 = [] := by unfold part; rw [if_neg hx]
        have HP := Lib.hid hp
        have q1 : decide (max a 65536 ≤ min b 1114111) = false := by simpa using hx
        clear hp
        go_wp2_with fail
        go_region_held3 (fun w' => w'.cell? ⟨wr.heap.size, 0, none⟩ = some (.int .i64 65536) ∧ w'.cell? ⟨wr.heap.size, 1, none⟩ = some (.int .i64 1114111)) (go_keep) (fail)
        all_goals
          clear ix hx
          go_wp2_with fail
          go_roundw
          case rel =>
            refine ⟨5, l, by omega, rfl, HR.out.kept (bnew (brefl wr) _).drew, ?_, bcall HB.out (bnew (brefl wr) _).drew⟩
            rw [HM.out, upto4, HP.out, List.append_nil]
          case measure => simp [intOf]
    · go_wp2_with fail
      go_ret
      exact ⟨_, l, rfl, HR.out, HM.out.trans hall.out.symm, HB.out⟩
end Go.Proofs.YtclahhkcbkpofaaDoor.Sp
/- That the layer is awake. -/
namespace Go.Proofs.YtclahhkcbkpofaaDoor.Sp
open Go.RowKit
/-- The cells of a row. -/
theorem own_cell {w : World} {base e size n cap g : Nat} {xs : List Value} (h : w.ownsRow base e size (.slice (some ⟨g, 0, none⟩) n cap) n xs) (j : Nat) (u : Value) (hu : xs[j]? = some u) : w.cell? ⟨g, j, none⟩ = some u := by
  have := h.cells (g := g) rfl j u hu
  rwa [Addr.add_lit, Nat.zero_add] at this
end Go.Proofs.YtclahhkcbkpofaaDoor.Sp
