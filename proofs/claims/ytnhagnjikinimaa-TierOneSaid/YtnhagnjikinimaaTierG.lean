/- The reference's Pick: what it returns. -/
import Derived.Test.YtnhagnjikinimaaTierC
import Derived.Test.YtnhagnjikinimaaTierF
namespace Go.Proofs.Ytnhagnjikinimaa
open Go.RowKit

theorem rtier_same (n : Int) (hn : n ≤ 9223372036854775807) (w : World) : Calls Try.prog 14 #[.int .i64 n] w fun e w' => e = .returned (.int .i64 (tierN n)) ∧ w' = w :=
  (rtier_any n hn w).mono fun _ _ h => ⟨h.1, h.2.symm⟩

def OutIs (w : World) (q : Nat → Bool) (k : Nat) (v : Value) (wr : World) : Prop :=
  wr.ownsRow w.heap.size 3 1 v (idxs q k).length (ints (idxs q k)) ∧ Below w.heap.size w wr
theorem out_nil (w wr : World) (q : Nat → Bool) (h : Below w.heap.size w wr) : OutIs w q 0 (.slice none 0 0) wr := ⟨World.ownsRow_nil _ _ _ _, h⟩
theorem out_skip {w wr : World} {q : Nat → Bool} {k m : Nat} {v : Value} (h : OutIs w q k v wr) (hq : q k = false) : OutIs w q (k + 1) v (wr.drewN m) :=
  ⟨by rw [idxs_miss hq]; exact h.1, below_drewN h.2 m⟩
theorem out_push {w wr : World} {q : Nat → Bool} {k : Nat} {v : Value} (hown : wr.ownsRow w.heap.size 3 1 v ((idxs q k).length + 1) (ints (idxs q k) ++ [.int .i64 (k : Int)])) (hb : Below w.heap.size w wr) (hq : q k = true) : OutIs w q (k + 1) v wr :=
  ⟨by rw [idxs_hit hq]; simpa [ints] using hown, hb⟩
theorem own_drewN {w : World} {base e size n : Nat} {v : Value} {xs : List Value} (h : w.ownsRow base e size v n xs) (m : Nat) : (w.drewN m).ownsRow base e size v n xs := h

theorem idxs_mono (q : Nat → Bool) (n k : Nat) : ∃ t, idxs q (n + k) = idxs q n ++ t := by
  induction k with
  | zero => exact ⟨[], by simp⟩
  | succ k ih =>
    obtain ⟨t, ht⟩ := ih
    refine ⟨t ++ (if q (n + k) then [((n + k : Nat) : Int)] else []), ?_⟩
    rw [← Nat.add_assoc, idxs_succ, ht, List.append_assoc]
theorem idxs_pre {q : Nat → Bool} {n k : Nat} (h : k ≤ n) (h4 : (idxs q k).length = 4) : (idxs q n).take 4 = idxs q k ∧ 4 ≤ (idxs q n).length := by
  obtain ⟨t, ht⟩ := idxs_mono q k (n - k)
  rw [show k + (n - k) = n by omega] at ht
  rw [ht]
  constructor
  · rw [← h4, List.take_left]
  · rw [List.length_append]; omega

theorem tierQ_yes {l : List Seg} {k t : Nat} (hk : k < l.length) (h : (tierN (l[k].docs - l[k].gone) : Int) = t) : tierQ l t k = true := by
  unfold tierQ; rw [liveAt_eq hk]; simpa using h
theorem tierQ_no {l : List Seg} {k t : Nat} (hk : k < l.length) (h : (tierN (l[k].docs - l[k].gone) : Int) ≠ t) : tierQ l t k = false := by
  unfold tierQ; rw [liveAt_eq hk]; simpa using h
theorem rpick_hit {l : List Seg} {t k : Nat} (hE : ¬ 0 < (idxs (emptyQ l) l.length).length) (ht : t < 21) (hn : NoTier l t) (hk : k ≤ l.length) (hf : (idxs (tierQ l t) k).length = 4) : pickF l = idxs (tierQ l t) k := by
  obtain ⟨e1, e2⟩ := idxs_pre (n := l.length) hk hf
  rw [pickF_tier hE ht hn e2, e1]

set_option maxHeartbeats 2000000 in
theorem rpick_ok (A : Option Addr) (c : Nat) (l : List Seg) (w : World) (h : Sl w w.heap.size 4 A l.length (segCells l)) (hl : l.length ≤ 4398046511104) (hok : Hid (segsOk l = true)) :
    Calls Try.prog 8 #[.slice A l.length c] w fun e w' => ∃ v, e = .returned (.tuple #[v, .int .i64 0]) ∧ w'.ownsRow w.heap.size 3 1 v (pickF l).length (ints (pickF l)) ∧ Below w.heap.size w w' := by
  have hcheck : Calls Try.prog 12 #[.slice A l.length c] w fun e w' => e = .returned (.int .i64 0) ∧ Below w.heap.size w w' := by
    have h0 := rcheck_any A c l w h hl
    rw [hok.out] at h0
    exact h0
  have HC := Lib.hid hcheck
  clear hcheck
  go_enter Try.func8, Try.ntmps8
  go_wp2_with (go_at_call 12; refine HC.out.mono ?_; rintro e w1 ⟨rfl, hb1⟩)
  go_loopw [4, 5] (fun v i wr => ∃ k : Nat, k ≤ l.length ∧ i = .int .i64 k ∧ OutIs w (emptyQ l) k v wr) (fun _ i _ => l.length - (intOf i).toNat)
  case atStart => exact ⟨0, by omega, rfl, out_nil _ _ _ hb1⟩
  case round =>
    obtain ⟨k, hk, rfl, hp⟩ := hrel
    by_cases hlt : k < l.length
    · obtain ⟨b, off, rfl, hbB, h0, h1, h2, h3⟩ := seg_at (h.below hp.2) hlt
      obtain ⟨g1, g2, g3, g4⟩ := seg_ok_at hok.out hlt
      by_cases he : l[k].docs = l[k].gone
      · have hq := Lib.hid (emptyQ_yes hlt (by omega : l[k].docs - l[k].gone = 0))
        have he1 : (l[k].docs == l[k].gone) = true := by simpa using he
        clear he
        have hown := hp.1
        have hbw := hp.2
        have hil := idxs_len (emptyQ l) k
        go_wp2
        go_quiet (fail)
        go_wp2_with (at_builtin; refine wpList_push w _ _ rfl _ _ _ rfl el_int _ _ _ rfl (own_drewN hown _) rfl (by simp) rfl (by simp [Value.oneCell']) (by unfold maxLen; omega) (by omega) (below_drewN hbw _).size (below_drewN hbw _) ?_; intro v' w3 hown3 hb3 hg3 hl3)
        go_roundw
        case rel => exact ⟨k + 1, by omega, by go_num, out_push hown3 hb3 hq.out⟩
        case measure => simp [intOf]; omega
      · have hq := Lib.hid (emptyQ_no hlt (by omega : l[k].docs - l[k].gone ≠ 0))
        have he1 : (l[k].docs == l[k].gone) = false := by simpa using he
        clear he
        go_wp2
        go_quiet (fail)
        go_wp2
        go_roundw
        case rel => exact ⟨k + 1, by omega, by go_num, out_skip hp hq.out⟩
        case measure => simp [intOf]; omega
    · obtain rfl : k = l.length := by omega
      obtain ⟨hown, hb⟩ := hp
      obtain ⟨A5, c5, rfl, hc5⟩ := own_shape hown
      have hil := idxs_len (emptyQ l) l.length
      by_cases hemp : 0 < (idxs (emptyQ l) l.length).length
      · have hd : decide ((0 : Int) < ((idxs (emptyQ l) l.length).length : Int)) = true := by simpa using hemp
        go_wp2
        go_ret2
        exact ⟨_, rfl, by rw [pickF_empty hemp]; exact hown, hb⟩
      · have hd : decide ((0 : Int) < ((idxs (emptyQ l) l.length).length : Int)) = false := by simpa using hemp
        have hE := Lib.hid hemp
        clear hemp hown
        go_wp2
        go_loopw [4, 6, 7] (fun v i j wr => ∃ t : Nat, t ≤ 21 ∧ i = .int .i64 t ∧ NoTier l t ∧ Below w.heap.size w wr) (fun _ i _ _ => 21 - (intOf i).toNat)
        case atStart => exact ⟨0, by omega, rfl, fun s hs => absurd hs (by omega), hb⟩
        case round =>
          obtain ⟨t, ht, rfl, hno, hbo⟩ := hrel
          by_cases h21 : t < 21
          · go_wp2
            go_loopw [4, 7] (fun v j wr => ∃ k : Nat, k ≤ l.length ∧ j = .int .i64 k ∧ OutIs w (tierQ l t) k v wr ∧ (idxs (tierQ l t) k).length ≤ 4) (fun _ j _ => l.length - (intOf j).toNat)
            case atStart => exact ⟨0, by omega, rfl, out_nil _ _ _ hbo, by simp [idxs]⟩
            case round =>
              obtain ⟨k, hk, rfl, ⟨hown, hbw⟩, hle⟩ := hrel
              obtain ⟨Av, cv, rfl, hcv⟩ := own_shape hown
              by_cases hlt : k < l.length
              · by_cases hl4 : (idxs (tierQ l t) k).length < 4
                · obtain ⟨b, off, rfl, hbB, h0, h1, h2, h3⟩ := seg_at (h.below hbw) hlt
                  obtain ⟨g1, g2, g3, g4⟩ := seg_ok_at hok.out hlt
                  by_cases he : (tierN (l[k].docs - l[k].gone) : Int) = t
                  · have hq := Lib.hid (tierQ_yes hlt he)
                    have he1 : ((tierN (l[k].docs - l[k].gone) : Int) == (t : Int)) = true := by simpa using he
                    clear he
                    go_wp2
                    go_quiet ((go_at_call 14; exact Calls.quiet_of_same (rtier_same _ (by omega) _)))
                    go_wp2_with (at_builtin; refine wpList_push w _ _ rfl _ _ _ rfl el_int _ _ _ rfl (own_drewN hown _) rfl (by simp) rfl (by simp [Value.oneCell']) (by unfold maxLen; omega) (by omega) (below_drewN hbw _).size (below_drewN hbw _) ?_; intro v' w3 hown3 hb3 hg3 hl3)
                    go_roundw
                    case rel => exact ⟨k + 1, by omega, by go_num, out_push hown3 hb3 hq.out, by rw [idxs_hit hq.out]; simp; omega⟩
                    case measure => simp [intOf]; omega
                  · have hq := Lib.hid (tierQ_no hlt he)
                    have he1 : ((tierN (l[k].docs - l[k].gone) : Int) == (t : Int)) = false := by simpa using he
                    clear he
                    go_wp2
                    go_quiet ((go_at_call 14; exact Calls.quiet_of_same (rtier_same _ (by omega) _)))
                    go_wp2
                    go_roundw
                    case rel => exact ⟨k + 1, by omega, by go_num, out_skip ⟨hown, hbw⟩ hq.out, by rw [idxs_miss hq.out]; omega⟩
                    case measure => simp [intOf]; omega
                · by_cases hf : (idxs (tierQ l t) k).length = 4
                  · have hd4 : (((idxs (tierQ l t) k).length : Int) == 4) = true := by simp; omega
                    have hF := Lib.hid hf
                    clear hf
                    go_wp2
                    go_ret2
                    exact ⟨_, rfl, by rw [rpick_hit hE.out h21 hno hk hF.out]; exact hown, hbw⟩
                  · have hd4 : (((idxs (tierQ l t) k).length : Int) == 4) = false := by simp; omega
                    have hKL : Hid (k = l.length) := Lib.hid (by omega)
                    have hF := Lib.hid hf
                    clear hf
                    go_wp2
                    go_roundw
                    case rel => exact ⟨t + 1, by omega, by go_num, noTier_succ hno (by have := hKL.out; rw [← this]; have := hF.out; omega), hbw⟩
                    case measure => simp [intOf]; omega
              · by_cases hf : (idxs (tierQ l t) k).length = 4
                · have hd4 : (((idxs (tierQ l t) k).length : Int) == 4) = true := by simp; omega
                  have hF := Lib.hid hf
                  clear hf
                  go_wp2
                  go_ret2
                  exact ⟨_, rfl, by rw [rpick_hit hE.out h21 hno hk hF.out]; exact hown, hbw⟩
                · have hd4 : (((idxs (tierQ l t) k).length : Int) == 4) = false := by simp; omega
                  have hKL : Hid (k = l.length) := Lib.hid (by omega)
                  have hF := Lib.hid hf
                  clear hf
                  go_wp2
                  go_roundw
                  case rel => exact ⟨t + 1, by omega, by go_num, noTier_succ hno (by have := hKL.out; rw [← this]; have := hF.out; omega), hbw⟩
                  case measure => simp [intOf]; omega
          · obtain rfl : t = 21 := by omega
            go_wp2
            go_ret2
            exact ⟨_, rfl, by rw [pickF_none hE.out hno]; exact World.ownsRow_nil _ _ _ _, hbo⟩
end Go.Proofs.Ytnhagnjikinimaa
