/- The law TierPicks: its walk. -/
import Derived.Test.YtnhagnjikinimaaTierH
import Derived.Test.YtnhagnjikinimaaTierJ
import Derived.OpenShut
namespace Go.Proofs.Ytnhagnjikinimaa
open Go.RowKit

theorem segCells_one (l : List Seg) : ∀ u ∈ segCells l, u.oneCell' = true := by
  intro u hu
  simp only [segCells, List.mem_flatMap, Seg.cells] at hu
  obtain ⟨s, _, hs⟩ := hu
  simp at hs
  rcases hs with rfl | rfl | rfl | rfl <;> rfl

def inCells (l : List Seg) : List Value := segCells l ++ [.int .i64 77, .int .i64 0, .int .i64 0, .int .i64 0]
theorem in_pre {w : World} {B base cap : Nat} {A : Option Addr} {l : List Seg} {n : Nat} (h : w.ownsRow base 24 4 (.slice A (n + 1) cap) (n + 1) (inCells l)) (hn : l.length = n) (hB : B = w.heap.size) : Sl w B 4 A n (segCells l) := by
  subst hB
  have := (Sl.of_own h).pre (k := n) (by omega)
  have e : (inCells l).take (n * 4) = segCells l := by
    unfold inCells
    rw [List.take_append_of_le_length (by unfold segCells; rw [flat_length _ 4 Seg.len, hn]; omega), List.take_of_length_le (by unfold segCells; rw [flat_length _ 4 Seg.len, hn]; omega)]
  rwa [e] at this

theorem pickR_len (l : List Seg) : (pickR l).length ≤ l.length := by
  unfold pickR pickF
  split
  · split
    · exact idxs_len _ _
    · split
      · rw [List.length_take]; have := idxs_len (tierQ l (‹Nat› : Nat)) l.length; omega
      · simp
  · simp

theorem own_head {w : World} {base e size n c : Nat} {A : Option Addr} {xs : List Value} (h : w.ownsRow base e size (.slice A n c) n xs) (hn : 0 < n) : ∃ g, A = some ⟨g, 0, none⟩ ∧ base ≤ g ∧ g < w.heap.size := by
  rcases h.2 with ⟨_, h0⟩ | ⟨g, cap, cur, hv, hb, hg, _⟩
  · omega
  · injection hv with hA _ _
    exact ⟨g, hA, hb, (Array.getElem?_eq_some_iff.1 hg).1⟩
theorem apart_of {w w' : World} {b1 b2 e1 e2 s1 s2 n1 n2 : Nat} {v1 v2 : Value} {x1 x2 : List Value} (h1 : w.ownsRow b1 e1 s1 v1 n1 x1) (h2 : w'.ownsRow b2 e2 s2 v2 n2 x2) (hb : w.heap.size ≤ b2) : v2.ownBlock = none ∨ v2.ownBlock ≠ v1.ownBlock := by
  cases h : v2.ownBlock with
  | none => exact .inl rfl
  | some g =>
    refine .inr fun e => ?_
    have a := (h1.lt g e.symm).2
    have b := (h2.lt g h).1
    omega
theorem in_last (l : List Seg) : (inCells l)[l.length * 4]? = some (.int .i64 77) := by
  have hl : (segCells l).length = l.length * 4 := flat_length _ 4 Seg.len l
  unfold inCells
  rw [List.getElem?_append_right (by omega), hl, Nat.sub_self]
  rfl
theorem picks_kept {w w' : World} {base e size n : Nat} {v : Value} {xs : List Value} (h : w.ownsRow base e size v n xs) (hb : Below w.heap.size w w') : w'.ownsRow base e size v n xs := by
  refine ⟨h.1, ?_⟩
  rcases h.2 with hn | ⟨g, cap, cur, rfl, hg, hh, rest⟩
  · exact .inl hn
  · exact .inr ⟨g, cap, cur, rfl, hg, (hb.block g (Array.getElem?_eq_some_iff.1 hh).1).trans hh, rest⟩

set_option maxRecDepth 100000 in
set_option maxHeartbeats 4000000 in
theorem picks_walk (w : World) (A : Option Addr) (n c : Nat) (l : List Seg) (hin : SegsIn w A n c l) (m : Int) (wm : (Lit.int .i64 m).wf = true) :
    Calls Try.prog 3 #[.slice A n c, .int .i64 m] w fun e w' => e = .returned (.bool true) ∧ Below w.heap.size w w' := by
  obtain ⟨hlen, hcap, hcm, hnone, hreach, hsl⟩ := hin
  obtain ⟨m1, m2⟩ := bounds_i64 wm
  subst hlen
  go_enter Try.func3, Try.ntmps3
  go_wp2_with (first
    | (at_builtin; refine wpList_append_sl w _ rfl (.tmp 14) (.tmp 15) _ rfl el_seg _ 0 [] rfl (World.ownsRow_lit _ #[] 0 (Nat.le_refl _) (Nat.zero_le _) rfl) rfl (hsl.alloc (Nat.le_refl _) _) (fun e => by have := hnone e; omega) (segCells_one l) (by unfold maxLen; omega) (by omega) (by simp) (bnew (brefl w) _) ?_; intro v1 w1 hown1 hb1 _ _)
    | (at_builtin; refine wpList_push w _ _ rfl (.tmp 16) (.tmp 18) _ rfl el_seg _ _ _ rfl hown1 rfl (by simp) rfl (by simp [Value.oneCell']) (by unfold maxLen; omega) (by omega) hb1.size hb1 ?_; intro v2 w2 hown2 hb2 _ _; obtain ⟨A2, c2, rfl, hc2⟩ := own_shape hown2; obtain ⟨g2, rfl, _, _⟩ := own_head hown2 (by omega)))
  have hin2 : w2.ownsRow w.heap.size 24 4 (.slice (some ⟨g2, 0, none⟩) (l.length + 1) c2) (l.length + 1) (inCells l) := by simpa [inCells] using hown2
  have hc2' : l.length + 1 ≤ c2 := by omega
  clear hown1 hown2 hc2
  refine (pick_any _ _ l _ (in_pre hin2 rfl rfl) (by omega)).mono ?_
  rintro e w3 ⟨va, rfl, hva, hb3⟩
  obtain ⟨Aa, ca, rfl, hca⟩ := own_shape hva
  have hbw3 := bcall hb2 hb3
  go_wp2_with fail
  refine (rpick_any _ _ l _ ((hsl.below hbw3).more hbw3.size) (by omega)).mono ?_
  rintro e w4 ⟨vb, rfl, hvb, hb4⟩
  obtain ⟨Ab, cb, rfl, hcb⟩ := own_shape hvb
  have hbw4 := bcall hbw3 hb4
  go_wp2_with fail
  refine (pick_any _ _ l _ ((((in_pre hin2 rfl rfl).below hb3).more hb3.size |>.below hb4).more hb4.size) (by omega)).mono ?_
  rintro e w5 ⟨vc, rfl, hvc, hb5⟩
  obtain ⟨Ac, cc, rfl, hcc⟩ := own_shape hvc
  have hbw5 := bcall hbw4 hb5
  go_wp2_with fail
  refine (awake_any _).mono ?_
  rintro e w6 ⟨rfl, hb6⟩
  have hbw6 := bcall hbw5 hb6
  have hee : (Err (segsOk l) != Err (segsOk l)) = false := by simp
  have hpl : (pickR l).length ≤ l.length := pickR_len l
  go_wp2_with fail
  refine (numbers_any _ _ _ _ w6.heap.size (pickR l) (pickR l) _ (((Sl.of_own hva).below hb4).more hb4.size |>.below hb5 |>.more hb5.size |>.below hb6 |>.more hb6.size) (((Sl.of_own hvb).below hb5).more hb5.size |>.below hb6 |>.more hb6.size) (by omega)).mono ?_
  rw [show SameInts (pickR l) (pickR l) = true from by simp [SameInts]]
  rintro e w7 ⟨rfl, q, rfl⟩
  have hbw7 := below_drewN hbw6 q
  go_wp2_with fail
  refine (check_any _ _ l _ ((hsl.below hbw7).more hbw7.size) (by omega)).mono ?_
  rintro e w8 ⟨rfl, hb8⟩
  have hbw8 := bcall hbw7 hb8
  go_wp2_with fail
  refine (rcheck_any _ _ l _ ((hsl.below hbw8).more hbw8.size) (by omega)).mono ?_
  rintro e w9 ⟨rfl, hb9⟩
  have hbw9 := bcall hbw8 hb9
  go_wp2_with fail
  refine (tier_any _ _).mono ?_
  rintro e w10 ⟨rfl, rfl⟩
  go_wp2_with fail
  refine (rtier_any _ (by omega) _).mono ?_
  rintro e w10 ⟨rfl, rfl⟩
  have htt : ((tierN m : Int) != (tierN m : Int)) = false := by simp
  go_wp2_with fail
  have hS1 : Sl w9 w9.heap.size 4 A l.length (segCells l) := (hsl.below hbw9).more hbw9.size
  have hb39 : Below w2.heap.size w2 w9 := bcall (bcall (below_drewN (bcall (bcall (bcall hb3 hb4) hb5) hb6) q) hb8) hb9
  have hS2 : Sl w9 w9.heap.size 4 (some ⟨g2, 0, none⟩) l.length (segCells l) := ((in_pre hin2 rfl rfl).below hb39).more hb39.size
  go_loopw [12] (fun i wr => ∃ k : Nat, k ≤ l.length ∧ i = .int .i64 k ∧ ∃ q, wr = w9.drewN q) (fun i _ => l.length - (intOf i).toNat)
  case atStart => exact ⟨0, by omega, rfl, 0, rfl⟩
  case round =>
    obtain ⟨k, hk, rfl, r, rfl⟩ := hrel
    by_cases hlt : k < l.length
    · obtain ⟨b1, o1, rfl, _, e0, e1, e2, e3⟩ := seg_at hS1 hlt
      obtain ⟨b2, o2, eq2, _, f0, f1, f2, f3⟩ := seg_at hS2 hlt
      obtain ⟨rfl, rfl⟩ : g2 = b2 ∧ 0 = o2 := by simpa using eq2
      clear eq2
      simp only [Nat.zero_add] at f0 f1 f2 f3
      clear hnone hsl hS1 hS2 hva hvb hvc hin2
      go_wp2
      go_quiet (fail)
      go_wp2
      go_roundw
      case rel => exact ⟨k + 1, by omega, by go_num, _, rfl⟩
      case measure => simp [intOf]; omega
    · obtain rfl : k = l.length := by omega
      have hw10 : Below w.heap.size w (w9.drewN r) := below_drewN hbw9 r
      have hvaW : (w9.drewN r).ownsRow w2.heap.size 3 1 (.slice Aa (pickR l).length ca) (pickR l).length (ints (pickR l)) := picks_kept (w' := w9) hva (bcall (bcall (below_drewN (bcall (bcall hb4 hb5) hb6) q) hb8) hb9)
      have hvbW : (w9.drewN r).ownsRow w3.heap.size 3 1 (.slice Ab (pickR l).length cb) (pickR l).length (ints (pickR l)) := picks_kept (w' := w9) hvb (bcall (bcall (below_drewN (bcall hb5 hb6) q) hb8) hb9)
      have hvcW : (w9.drewN r).ownsRow w4.heap.size 3 1 (.slice Ac (pickR l).length cc) (pickR l).length (ints (pickR l)) := picks_kept (w' := w9) hvc (bcall (bcall (below_drewN hb6 q) hb8) hb9)
      have hinW : (w9.drewN r).ownsRow w.heap.size 24 4 (.slice (some ⟨g2, 0, none⟩) (l.length + 1) c2) (l.length + 1) (inCells l) := picks_kept (w' := w9) hin2 hb39
      have hapb := apart_of hva hvbW (Nat.le_refl _)
      have hapc := apart_of hva hvcW hb4.size
      have hin3 : ∀ g, (Value.slice Aa (pickR l).length ca).ownBlock = some g → w.heap.size ≤ g ∧ g ≠ g2 := fun g hg => by
        have h1 := (hva.lt g hg).1
        have h2 := (hin2.lt g2 rfl).2
        have h3 := hb2.size
        omega
      have h77 := hinW.cellAt (l.length * 4) (by omega)
      rw [in_last] at h77
      clear hS1 hS2 hva hvb hvc hin2 hsl hnone hb3 hb4 hb5 hb6 hb8 hb9 hb39 hbw3 hbw4 hbw5 hbw6 hbw7 hbw8 hbw9
      generalize w9.drewN r = W at *
      go_wp2
      go_loopw [13] (fun i wr => ∃ k : Nat, k ≤ (pickR l).length ∧ i = .int .i64 k ∧ ∃ xs, wr.ownsRow w2.heap.size 3 1 (.slice Aa (pickR l).length ca) (pickR l).length xs ∧ W.grownBy wr (Value.slice Aa (pickR l).length ca).ownBlock) (fun i _ => (pickR l).length - (intOf i).toNat)
      case atStart => exact ⟨0, by omega, rfl, _, hvaW, World.grownBy.refl _ _⟩
      case round =>
        obtain ⟨k, hk, rfl, xs, hown, hg⟩ := hrel
        by_cases hlt : k < (pickR l).length
        · obtain ⟨ga, rfl, _, _⟩ := own_head hown (by omega)
          have hx : k < xs.length := by rw [hown.1]; omega
          have hcell : wr.cell? ⟨ga, k, none⟩ = some (xs[k]'hx) := (hown.cellAt k (by omega)).trans (List.getElem?_eq_getElem hx)
          have hfz := hown.frozenAt k
          have hst := hown.stored k (.int .i64 (-1))
          have HS := Lib.hid hst
          clear hst
          go_wp2
          go_roundw
          case rel => exact ⟨k + 1, by omega, by go_num, _, HS.out.1, hg.trans HS.out.2⟩
          case measure => simp [intOf]; omega
        · have hcW := hvcW.kept hg hapc
          have hbW := hvbW.kept hg hapb
          have h77' : wr.cell? ⟨g2, l.length * 4, none⟩ = some (.int .i64 77) := (World.cell?_of_block (hg.block g2 (lt_of_cell h77).1 (fun e => (hin3 g2 e.symm).2 rfl))).trans h77
          have hbwr : Below w.heap.size w wr := hw10.grown hg hw10.size (fun g e => (hin3 g e).1)
          clear hin3 hvcW hvbW hvaW hapb hapc hinW h77
          go_wp2_with (first | (go_at_call 10; refine (numbers_any _ _ _ _ wr.heap.size (pickR l) (pickR l) _ (Sl.of_own hcW) (Sl.of_own hbW) (by omega)).mono ?_; rw [show SameInts (pickR l) (pickR l) = true from by simp [SameInts]]; rintro e w11 ⟨rfl, q2, rfl⟩))
          go_ret
          exact ⟨rfl, below_drewN hbwr _⟩
end Go.Proofs.Ytnhagnjikinimaa
