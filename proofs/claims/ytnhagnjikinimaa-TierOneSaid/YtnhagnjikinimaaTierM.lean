/- The law TierOne: its walk. -/
import Derived.Test.YtnhagnjikinimaaTierL
namespace Go.Proofs.Ytnhagnjikinimaa
open Go.RowKit

theorem tier_same (n : Int) (w : World) : Calls Try.prog 13 #[.int .i64 n] w fun e w' => e = .returned (.int .i64 (tierN n)) ∧ w' = w :=
  (tier_any n w).mono fun _ _ h => ⟨h.1, h.2.symm⟩
theorem dcell (w : World) (n : Nat) (a : Addr) : (w.drewN n).cell? a = w.cell? a := rfl
theorem emptyN_succ_yes {l : List Seg} {k : Nat} (h : emptyQ l k = true) : EmptyN l (k + 1) = EmptyN l k + 1 := by unfold EmptyN; rw [idxs_hit h]; simp
theorem emptyN_succ_no {l : List Seg} {k : Nat} (h : emptyQ l k = false) : EmptyN l (k + 1) = EmptyN l k := by unfold EmptyN; rw [idxs_miss h]
theorem emptyN_le (l : List Seg) (k : Nat) : EmptyN l k ≤ k := idxs_len _ _

set_option maxRecDepth 100000 in
set_option maxHeartbeats 20000000 in
theorem one_walk (w : World) (A : Option Addr) (n c : Nat) (l : List Seg) (hin : SegsIn w A n c l) :
    Calls Try.prog 6 #[.slice A n c] w fun e w' => e = .returned (.bool true) ∧ Below w.heap.size w w' := by
  obtain ⟨hlen, hcap, hcm, hnone, hreach, hsl⟩ := hin
  subst hlen
  cases hok : segsOk l with
  | false =>
    have he : Err (segsOk l) = 1 := err_bad hok
    have hp : pickR l = [] := by unfold pickR; rw [if_neg (by rw [hok]; simp)]
    have hpick := pick_any A c l w hsl (by omega)
    rw [he, hp] at hpick
    have HP := Lib.hid hpick
    clear hpick he hp hok
    go_enter Try.func6, Try.ntmps6
    go_wp2_with fail
    refine HP.out.mono ?_
    rintro e w3 ⟨v, rfl, hv, hb3⟩
    obtain ⟨Av, cv, rfl, _⟩ := own_shape hv
    go_wp2_with fail
    refine (awake_any _).mono ?_
    rintro e w4 ⟨rfl, hb4⟩
    have hb := bcall hb3 hb4
    go_wp2_with fail
    refine (awake_any _).mono ?_
    rintro e w5 ⟨rfl, hb5⟩
    go_wp2
    go_ret
    exact ⟨rfl, bcall hb hb5⟩
  | true =>
    have he : Err (segsOk l) = 0 := err_ok hok
    have hp : pickR l = pickF l := by unfold pickR; rw [if_pos hok]
    have hpick := pick_any A c l w hsl (by omega)
    rw [he, hp] at hpick
    have hpl := pickR_len l
    rw [hp] at hpl
    have hgood := pick_good l
    have HP := Lib.hid hpick
    have HO := Lib.hid hok
    clear hpick he hp hok
    generalize hpp : pickF l = p at *
    clear hpp
    go_enter Try.func6, Try.ntmps6
    go_wp2_with fail
    refine HP.out.mono ?_
    clear HP
    rintro e w3 ⟨v, rfl, hv, hb3⟩
    obtain ⟨Av, cv, rfl, _⟩ := own_shape hv
    go_wp2_with fail
    refine (awake_any _).mono ?_
    rintro e w4 ⟨rfl, hb4⟩
    have hb := bcall hb3 hb4
    have hS : Sl w4 w4.heap.size 4 A l.length (segCells l) := (hsl.below hb).more hb.size
    have hV : Sl w4 w4.heap.size 1 Av p.length (ints p) := ((Sl.of_own hv).below hb4).more hb4.size
    clear hsl hv hb3 hb4 hnone
    go_wp2
    go_loopw [5, 6] (fun z i wr => ∃ k : Nat, k ≤ l.length ∧ i = .int .i64 k ∧ z = .int .i64 (EmptyN l k) ∧ ∃ q, wr = w4.drewN q) (fun _ i _ => l.length - (intOf i).toNat)
    case atStart => exact ⟨0, by omega, rfl, rfl, 0, rfl⟩
    case round =>
      obtain ⟨k, hk, rfl, rfl, q, rfl⟩ := hrel
      have hek := emptyN_le l k
      by_cases hlt : k < l.length
      · obtain ⟨b, off, rfl, hbB, h0, h1, h2, h3⟩ := seg_at hS hlt
        clear hS hV hgood
        by_cases he : l[k].docs = l[k].gone
        · have hq := Lib.hid (emptyQ_yes hlt (by omega : l[k].docs - l[k].gone = 0))
          have he1 : (l[k].docs == l[k].gone) = true := by simpa using he
          clear he
          go_wp2
          go_quiet (fail)
          go_wp2
          go_roundw
          case rel => exact ⟨k + 1, by omega, by go_num, by rw [emptyN_succ_yes hq.out]; go_num, _, rfl⟩
          case measure => simp [intOf]; omega
        · have hq := Lib.hid (emptyQ_no hlt (by omega : l[k].docs - l[k].gone ≠ 0))
          have he1 : (l[k].docs == l[k].gone) = false := by simpa using he
          clear he
          go_wp2
          go_quiet (fail)
          go_wp2
          go_roundw
          case rel => exact ⟨k + 1, by omega, by go_num, by rw [emptyN_succ_no hq.out], _, rfl⟩
          case measure => simp [intOf]; omega
      · obtain rfl : k = l.length := by omega
        have hbq : Below w.heap.size w (w4.drewN q) := below_drewN hb q
        have hS1 : Sl (w4.drewN q) (w4.drewN q).heap.size 4 A l.length (segCells l) := hS
        have hV1 : Sl (w4.drewN q) (w4.drewN q).heap.size 1 Av p.length (ints p) := hV
        clear hS hV hb
        generalize w4.drewN q = W at *
        go_wp2
        go_loopw [7] (fun i wr => ∃ k : Nat, k ≤ p.length ∧ i = .int .i64 k ∧ Below W.heap.size W wr) (fun i _ => p.length - (intOf i).toNat)
        case atStart => exact ⟨0, by omega, rfl, brefl W⟩
        case round =>
          obtain ⟨k, hk, rfl, hbr⟩ := hrel
          by_cases hltp : k < p.length
          · obtain ⟨j, hj, hjl, hej⟩ := hgood.place k hltp
            obtain ⟨bp, op, rfl, _, hcp⟩ := ints_at (hV1.below hbr) rfl hltp
            rw [hj] at hcp
            obtain ⟨b, off, rfl, hbB, s0, s1, s2, s3⟩ := seg_at (hS1.below hbr) hjl
            have hiff : l[j].docs = l[j].gone ↔ 0 < EmptyN l l.length := by
              unfold emptyQ at hej
              rw [liveAt_eq hjl, decide_eq_decide] at hej
              omega
            obtain ⟨g1, g2, g3, g4⟩ := seg_ok_at HO.out hjl
            have d1 : decide ((j : Int) < 0) = false := by simp
            have d2 : decide ((l.length : Int) ≤ (j : Int)) = false := by simp; omega
            have d2n : decide (l.length ≤ j) = false := by simp; omega
            obtain ⟨j0, hj0, hj0l, _⟩ := hgood.place 0 (by omega)
            obtain ⟨bp', op', ep, _, hcp0⟩ := ints_at (hV1.below hbr) rfl (show 0 < p.length by omega)
            obtain ⟨rfl, rfl⟩ : bp = bp' ∧ op = op' := by simpa using ep
            rw [hj0, Nat.add_zero] at hcp0
            obtain ⟨b', off', eb, _, t0, t1, t2, t3⟩ := seg_at (hS1.below hbr) hj0l
            obtain ⟨rfl, rfl⟩ : b = b' ∧ off = off' := by simpa using eb
            obtain ⟨q1, q2, q3, q4⟩ := seg_ok_at HO.out hj0l
            have htier : EmptyN l l.length = 0 → tierN (l[j].docs - l[j].gone) = tierN (l[j0].docs - l[j0].gone) := fun h => by
              obtain ⟨t, ht⟩ := hgood.tier h
              have x1 := ht k hltp j hj
              have x2 := ht 0 (by omega) j0 hj0
              rw [liveAt_eq hjl] at x1
              rw [liveAt_eq hj0l] at x2
              rw [x1, x2]
            by_cases hk0 : 0 < k
            · obtain ⟨jp, hjp, hjpl, _⟩ := hgood.place (k - 1) (by omega)
              obtain ⟨bp', op', ep, _, hcpp⟩ := ints_at (hV1.below hbr) rfl (show k - 1 < p.length by omega)
              obtain ⟨rfl, rfl⟩ : bp = bp' ∧ op = op' := by simpa using ep
              have hr := hgood.rise k hltp hk0
              rw [hj, hjp] at hr
              rw [hjp] at hcpp
              have d3 : decide ((0 : Int) < (k : Int)) = true := by simp; omega
              have d4 : decide ((j : Int) ≤ (jp : Int)) = false := by simp; omega
              have w1 : IntKind.i64.wrap ((k : Int) - 1) = (k : Int) - 1 := IntWalk.i64_in _ (by omega)
              have w2 : (0 : Int) ≤ (k : Int) - 1 := by omega
              have w3 : ((k : Int) - 1).toNat = k - 1 := by omega
              have w4 : (1 : Int) ≤ (k : Int) := by omega
              have w5 : (k : Int) - 1 < (p.length : Int) := by omega
              clear hjp hj hj0 ep eb hS1 hV1 hgood hej
              by_cases hE : 0 < EmptyN l l.length
              · have hdg := hiff.2 hE
                clear hiff htier
                have e1 : (l[j].docs == l[j].gone) = true := by simpa using (show l[j].docs = l[j].gone by omega)
                have e2 : decide ((0 : Int) < (EmptyN l l.length : Int)) = true := by simp; omega
                have e3 : ((EmptyN l l.length : Int) == 0) = false := by simp; omega
                go_wp2
                go_quiet (fail)
                have hbr2 := below_drewN hbr nq
                have s0 := (dcell wr nq _).trans s0
                have s1 := (dcell wr nq _).trans s1
                have s2 := (dcell wr nq _).trans s2
                have s3 := (dcell wr nq _).trans s3
                have t1 := (dcell wr nq _).trans t1
                have t3 := (dcell wr nq _).trans t3
                have hcp := (dcell wr nq _).trans hcp
                have hcp0 := (dcell wr nq _).trans hcp0
                clear hbr
                have hbp : bp < (wr.drewN nq).heap.size := (lt_of_cell hcp0).1
                have hbb : b < (wr.drewN nq).heap.size := (lt_of_cell s1).1
                generalize wr.drewN nq = W2 at *
                go_wp2
                go_quiet ((go_at_call 13; exact Calls.quiet_of_same (tier_same _ _)))
                go_wp2
                go_roundw
                case rel => exact ⟨k + 1, by omega, by go_num, below_drewN (bnew hbr2 _) _⟩
                case measure => simp [intOf]; omega
              · have hdg : ¬ l[j].docs = l[j].gone := fun h => hE (hiff.1 h)
                have ht := htier (by omega)
                clear hiff htier
                have e1 : (l[j].docs == l[j].gone) = false := by simpa using (show ¬ l[j].docs = l[j].gone by omega)
                have e2 : decide ((0 : Int) < (EmptyN l l.length : Int)) = false := by simp; omega
                have e3 : ((EmptyN l l.length : Int) == 0) = true := by simp; omega
                have hp0 : 0 < p.length := by omega
                have hp1 : (0 : Int) < (p.length : Int) := by omega
                have e4 : ((tierN (l[j].docs - l[j].gone) : Int) != (tierN (l[j0].docs - l[j0].gone) : Int)) = false := by rw [ht]; simp
                clear ht
                go_wp2
                go_quiet (fail)
                have hbr2 := below_drewN hbr nq
                have s0 := (dcell wr nq _).trans s0
                have s1 := (dcell wr nq _).trans s1
                have s2 := (dcell wr nq _).trans s2
                have s3 := (dcell wr nq _).trans s3
                have t1 := (dcell wr nq _).trans t1
                have t3 := (dcell wr nq _).trans t3
                have hcp := (dcell wr nq _).trans hcp
                have hcp0 := (dcell wr nq _).trans hcp0
                clear hbr
                have hbp : bp < (wr.drewN nq).heap.size := (lt_of_cell hcp0).1
                have hbb : b < (wr.drewN nq).heap.size := (lt_of_cell s1).1
                generalize wr.drewN nq = W2 at *
                go_wp2
                go_quiet ((go_at_call 13; exact Calls.quiet_of_same (tier_same _ _)))
                go_wp2
                go_roundw
                case rel => exact ⟨k + 1, by omega, by go_num, below_drewN (bnew hbr2 _) _⟩
                case measure => simp [intOf]; omega
            · have d3 : decide ((0 : Int) < (k : Int)) = false := by simp; omega
              have d3n : decide (0 < k) = false := by simp; omega
              clear hk0 hj hj0 ep eb hS1 hV1 hgood hej
              by_cases hE : 0 < EmptyN l l.length
              · have hdg := hiff.2 hE
                clear hiff htier
                have e1 : (l[j].docs == l[j].gone) = true := by simpa using (show l[j].docs = l[j].gone by omega)
                have e2 : decide ((0 : Int) < (EmptyN l l.length : Int)) = true := by simp; omega
                have e3 : ((EmptyN l l.length : Int) == 0) = false := by simp; omega
                go_wp2
                go_quiet (fail)
                have hbr2 := below_drewN hbr nq
                have s0 := (dcell wr nq _).trans s0
                have s1 := (dcell wr nq _).trans s1
                have s2 := (dcell wr nq _).trans s2
                have s3 := (dcell wr nq _).trans s3
                have t1 := (dcell wr nq _).trans t1
                have t3 := (dcell wr nq _).trans t3
                have hcp := (dcell wr nq _).trans hcp
                have hcp0 := (dcell wr nq _).trans hcp0
                clear hbr
                have hbp : bp < (wr.drewN nq).heap.size := (lt_of_cell hcp0).1
                have hbb : b < (wr.drewN nq).heap.size := (lt_of_cell s1).1
                generalize wr.drewN nq = W2 at *
                go_wp2
                go_quiet ((go_at_call 13; exact Calls.quiet_of_same (tier_same _ _)))
                go_wp2
                go_roundw
                case rel => exact ⟨k + 1, by omega, by go_num, below_drewN (bnew hbr2 _) _⟩
                case measure => simp [intOf]; omega
              · have hdg : ¬ l[j].docs = l[j].gone := fun h => hE (hiff.1 h)
                have ht := htier (by omega)
                clear hiff htier
                have e1 : (l[j].docs == l[j].gone) = false := by simpa using (show ¬ l[j].docs = l[j].gone by omega)
                have e2 : decide ((0 : Int) < (EmptyN l l.length : Int)) = false := by simp; omega
                have e3 : ((EmptyN l l.length : Int) == 0) = true := by simp; omega
                have hp0 : 0 < p.length := by omega
                have hp1 : (0 : Int) < (p.length : Int) := by omega
                have e4 : ((tierN (l[j].docs - l[j].gone) : Int) != (tierN (l[j0].docs - l[j0].gone) : Int)) = false := by rw [ht]; simp
                clear ht
                go_wp2
                go_quiet (fail)
                have hbr2 := below_drewN hbr nq
                have s0 := (dcell wr nq _).trans s0
                have s1 := (dcell wr nq _).trans s1
                have s2 := (dcell wr nq _).trans s2
                have s3 := (dcell wr nq _).trans s3
                have t1 := (dcell wr nq _).trans t1
                have t3 := (dcell wr nq _).trans t3
                have hcp := (dcell wr nq _).trans hcp
                have hcp0 := (dcell wr nq _).trans hcp0
                clear hbr
                have hbp : bp < (wr.drewN nq).heap.size := (lt_of_cell hcp0).1
                have hbb : b < (wr.drewN nq).heap.size := (lt_of_cell s1).1
                generalize wr.drewN nq = W2 at *
                go_wp2
                go_quiet ((go_at_call 13; exact Calls.quiet_of_same (tier_same _ _)))
                go_wp2
                go_roundw
                case rel => exact ⟨k + 1, by omega, by go_num, below_drewN (bnew hbr2 _) _⟩
                case measure => simp [intOf]; omega
          · obtain rfl : k = p.length := by omega
            rcases hgood.many with ⟨m1, m2⟩ | ⟨m1, m2⟩
            · have d1 : decide ((0 : Int) < (EmptyN l l.length : Int)) = true := by simp; omega
              have d2 : ((p.length : Int) == (EmptyN l l.length : Int)) = true := by simp; omega
              clear hgood m2
              go_wp2
              all_goals go_ret
              all_goals exact ⟨rfl, bcall hbq hbr⟩
            · have d1 : decide ((0 : Int) < (EmptyN l l.length : Int)) = false := by simp; omega
              have d2 : ((EmptyN l l.length : Int) == 0) = true := by simp; omega
              rcases m2 with m2 | m2
              · have d3 : ((p.length : Int) == 0) = true := by rw [m2]; rfl
                clear hgood m2 m1
                go_wp2
                all_goals go_ret
                all_goals exact ⟨rfl, bcall hbq hbr⟩
              · have d3 : ((p.length : Int) == 0) = false := by rw [m2]; rfl
                have d4 : ((p.length : Int) == 4) = true := by rw [m2]; rfl
                clear hgood m2 m1
                go_wp2
                all_goals go_ret
                all_goals exact ⟨rfl, bcall hbq hbr⟩
end Go.Proofs.Ytnhagnjikinimaa
