/- glosslaw08.awake. -/
import Derived.Test.YtebdffabfimmkaaDoorHDfaTakes35
import Derived.Test.YtebdffabfimmkaaDoorHDfaTakes43
import Derived.Test.YtebdffabfimmkaaDoorHDfaTakes36
import Derived.Test.YtebdffabfimmkaaDoorHDfaTakes13
import Derived.Test.YtebdffabfimmkaaDoorHDfaTakes21
namespace Go.Proofs.YtebdffabfimmkaaDoor
open Go.RowKit Go.Maps

def oneH (b : Nat) : List Sh := [⟨(false, [(97, 98, 0), (99, 99, 1)]), some ⟨b, 0, none⟩, 2⟩, ⟨(true, []), none, 0⟩]
theorem oneH_d (b : Nat) : (oneH b).map (·.d) = oneD := rfl
set_option maxRecDepth 100000 in
set_option maxHeartbeats 8000000 in
theorem one_any (w : World) :
    Calls Tryd.prog 25 #[] w fun e w' => ∃ A b, e = .returned (.slice A 2 2) ∧ StsIn w' w'.heap.size A 2 2 (oneH b) ∧ Below w.heap.size w w' := by
  go_enter Tryd.func25, Tryd.ntmps25
  go_wp2_with fail
  go_ret
  have h1 := own_new w #[.int .i64 97, .int .i64 98, .int .i64 0, .int .i64 99, .int .i64 99, .int .i64 1] 41 3 2 rfl (by unfold maxLen; omega) (nb := w.heap.size) rfl (Nat.le_refl _)
  have h2 := own_new (w.alloc (.cells #[.int .i64 97, .int .i64 98, .int .i64 0, .int .i64 99, .int .i64 99, .int .i64 1] 41)) #[.bool false, .slice (some ⟨w.heap.size, 0, none⟩) 2 2, .bool true, .slice none 0 0] 39 2 2 rfl (by unfold maxLen; omega) (nb := w.heap.size + 1) (by simp) (base := w.heap.size) (by simp)
  have h3 := own_kept h1 (bnew (brefl _) (.cells #[.bool false, .slice (some ⟨w.heap.size, 0, none⟩) 2 2, .bool true, .slice none 0 0] 39))
  refine ⟨_, w.heap.size, rfl, ?_, bnew (bnew (brefl w) _) _⟩
  have h4 : OwnSts ((w.alloc (.cells #[.int .i64 97, .int .i64 98, .int .i64 0, .int .i64 99, .int .i64 99, .int .i64 1] 41)).alloc (.cells #[.bool false, .slice (some ⟨w.heap.size, 0, none⟩) 2 2, .bool true, .slice none 0 0] 39)) w.heap.size (.slice (some ⟨w.heap.size + 1, 0, none⟩) 2 2) (oneH w.heap.size) := by
    refine ⟨h2, ⟨fun z hz => ?_, ?_⟩⟩
    · simp only [oneH, List.map_cons, List.map_nil, List.mem_cons, List.not_mem_nil, or_false] at hz
      rcases hz with rfl | rfl
      · exact h3
      · exact GRow.own_nil _ _ _ _
    · refine List.pairwise_cons.2 ⟨fun z hz => ?_, List.pairwise_singleton _ _⟩
      rw [List.mem_singleton.1 hz]
      exact .inr (.inl rfl)
  exact h4.sts rfl (by omega) (fun x hx => by
    simp only [oneH, List.mem_cons, List.not_mem_nil, or_false] at hx
    rcases hx with rfl | rfl
    · show 2 ≤ _; omega
    · exact Nat.zero_le _)
def lAwH (b : Nat) : List Lsh := [⟨⟨false, [(97, 98, 0)], [1]⟩, some ⟨b, 0, none⟩, 1, some ⟨b + 1, 0, none⟩, 1⟩, ⟨⟨false, [(99, 99, 2)], []⟩, some ⟨b + 1 + 1, 0, none⟩, 1, none, 0⟩, ⟨⟨true, [], []⟩, none, 0, none, 0⟩]
theorem lAwH_d (b : Nat) : (lAwH b).map (·.d) = lAw := rfl
theorem lAw_in (w : World) {W : World} (hW : W = (((w.alloc (.cells #[.int .i64 97, .int .i64 98, .int .i64 0] 41)).alloc (.cells #[.int .i64 1] 3)).alloc (.cells #[.int .i64 99, .int .i64 99, .int .i64 2] 41)).alloc (.cells #[.bool false, .slice (some ⟨w.heap.size, 0, none⟩) 1 1, .slice (some ⟨w.heap.size + 1, 0, none⟩) 1 1, .bool false, .slice (some ⟨w.heap.size + 1 + 1, 0, none⟩) 1 1, .slice none 0 0, .bool true, .slice none 0 0, .slice none 0 0] 56)) :
    LoIn W W.heap.size (some ⟨w.heap.size + 1 + 1 + 1, 0, none⟩) 3 3 (lAwH w.heap.size) ∧ Below w.heap.size w W := by
  subst hW
  have b1 := bnew (brefl w) (.cells #[.int .i64 97, .int .i64 98, .int .i64 0] 41)
  have b2 := bnew b1 (.cells #[.int .i64 1] 3)
  have b3 := bnew b2 (.cells #[.int .i64 99, .int .i64 99, .int .i64 2] 41)
  have o1 := own_new w #[.int .i64 97, .int .i64 98, .int .i64 0] 41 3 1 rfl (by unfold maxLen; omega) (nb := w.heap.size) rfl (base := 0) (Nat.zero_le _)
  have o2 := own_new (w.alloc (.cells #[.int .i64 97, .int .i64 98, .int .i64 0] 41)) #[.int .i64 1] 3 1 1 rfl (by unfold maxLen; omega) (nb := w.heap.size + 1) (by simp) (base := 0) (Nat.zero_le _)
  have o3 := own_new ((w.alloc (.cells #[.int .i64 97, .int .i64 98, .int .i64 0] 41)).alloc (.cells #[.int .i64 1] 3)) #[.int .i64 99, .int .i64 99, .int .i64 2] 41 3 1 rfl (by unfold maxLen; omega) (nb := w.heap.size + 1 + 1) (by simp) (base := 0) (Nat.zero_le _)
  have o4 := own_new (((w.alloc (.cells #[.int .i64 97, .int .i64 98, .int .i64 0] 41)).alloc (.cells #[.int .i64 1] 3)).alloc (.cells #[.int .i64 99, .int .i64 99, .int .i64 2] 41)) #[.bool false, .slice (some ⟨w.heap.size, 0, none⟩) 1 1, .slice (some ⟨w.heap.size + 1, 0, none⟩) 1 1, .bool false, .slice (some ⟨w.heap.size + 1 + 1, 0, none⟩) 1 1, .slice none 0 0, .bool true, .slice none 0 0, .slice none 0 0] 56 3 3 rfl (by unfold maxLen; omega) (nb := w.heap.size + 1 + 1 + 1) (by simp) (base := 0) (Nat.zero_le _)
  have p1 := Sl.of_own (own_kept (own_kept (own_kept o1 (bnew (brefl _) (.cells #[.int .i64 1] 3))) (bnew (brefl _) (.cells #[.int .i64 99, .int .i64 99, .int .i64 2] 41))) (bnew (brefl _) (.cells #[.bool false, .slice (some ⟨w.heap.size, 0, none⟩) 1 1, .slice (some ⟨w.heap.size + 1, 0, none⟩) 1 1, .bool false, .slice (some ⟨w.heap.size + 1 + 1, 0, none⟩) 1 1, .slice none 0 0, .bool true, .slice none 0 0, .slice none 0 0] 56)))
  have p2 := Sl.of_own (own_kept (own_kept o2 (bnew (brefl _) (.cells #[.int .i64 99, .int .i64 99, .int .i64 2] 41))) (bnew (brefl _) (.cells #[.bool false, .slice (some ⟨w.heap.size, 0, none⟩) 1 1, .slice (some ⟨w.heap.size + 1, 0, none⟩) 1 1, .bool false, .slice (some ⟨w.heap.size + 1 + 1, 0, none⟩) 1 1, .slice none 0 0, .bool true, .slice none 0 0, .slice none 0 0] 56)))
  have p3 := Sl.of_own (own_kept o3 (bnew (brefl _) (.cells #[.bool false, .slice (some ⟨w.heap.size, 0, none⟩) 1 1, .slice (some ⟨w.heap.size + 1, 0, none⟩) 1 1, .bool false, .slice (some ⟨w.heap.size + 1 + 1, 0, none⟩) 1 1, .slice none 0 0, .bool true, .slice none 0 0, .slice none 0 0] 56)))
  refine ⟨⟨rfl, Sl.of_own o4, Nat.le_refl _, by omega, fun x hx => ?_, fun x hx => ?_⟩, bnew b3 _⟩
  · simp only [lAwH, List.mem_cons, List.not_mem_nil, or_false] at hx
    rcases hx with rfl | rfl | rfl
    · exact ⟨p1, Nat.le_refl _, by show 1 ≤ _; omega⟩
    · exact ⟨p3, Nat.le_refl _, by show 1 ≤ _; omega⟩
    · exact ⟨Sl.empty, Nat.le_refl _, Nat.zero_le _⟩
  · simp only [lAwH, List.mem_cons, List.not_mem_nil, or_false] at hx
    rcases hx with rfl | rfl | rfl
    · exact ⟨p2, Nat.le_refl _, by show 1 ≤ _; omega, fun e => by cases e⟩
    · exact ⟨Sl.empty, Nat.le_refl _, Nat.zero_le _, fun _ => rfl⟩
    · exact ⟨Sl.empty, Nat.le_refl _, Nat.zero_le _, fun _ => rfl⟩
set_option maxRecDepth 100000 in
set_option maxHeartbeats 8000000 in
theorem awake_any (w : World) (ht : Tab w) :
    Calls Tryd.prog 8 #[] w fun e w' => e = .returned (.bool true) ∧ Below w.heap.size w w' := by
  obtain ⟨W, hW⟩ : ∃ W, W = (((w.alloc (.cells #[.int .i64 97, .int .i64 98, .int .i64 0] 41)).alloc (.cells #[.int .i64 1] 3)).alloc (.cells #[.int .i64 99, .int .i64 99, .int .i64 2] 41)).alloc (.cells #[.bool false, .slice (some ⟨w.heap.size, 0, none⟩) 1 1, .slice (some ⟨w.heap.size + 1, 0, none⟩) 1 1, .bool false, .slice (some ⟨w.heap.size + 1 + 1, 0, none⟩) 1 1, .slice none 0 0, .bool true, .slice none 0 0, .slice none 0 0] 56) := ⟨_, rfl⟩
  have HIN := Lib.hid (lAw_in w hW)
  have HTW := Lib.hid (ht.below HIN.out.2)
  have HTI := Lib.hid (tight_any W W.heap.size (Nat.le_refl _) _ 3 3 _ HIN.out.1 (by omega) (by rw [lAwH_d]; exact lAw_good) 9 (by omega) HTW.out)
  rw [lAwH_d] at HTI
  have HW := Lib.hid hW
  clear hW ht
  go_enter Tryd.func8, Tryd.ntmps8
  go_wp2_with fail
  rw [← HW.out]
  refine HTI.out.mono ?_
  rintro e w1 (⟨⟨f, hf⟩, _⟩ | ⟨_, v, hs, d, rfl, hown, hl, hlq, hle, _, hb1⟩)
  · have := lAw_few f
    omega
  have hdd : hs.map (·.d) = oneD := hl.eq one_least (hlq.trans aw_leq.symm)
  have hlen : hs.length = 2 := by
    have := congrArg List.length hdd
    rw [List.length_map] at this
    exact this
  obtain ⟨A1, c1, rfl, _⟩ := own_shape hown.out
  rw [hlen]
  rw [hlen] at hown
  have HDD := Lib.hid hdd
  have HS1 := Lib.hid (hown.sts hlen (by omega) (fun x hx => by
    have h1 : x.d ∈ oneD := by rw [← hdd]; exact List.mem_map_of_mem hx
    simp only [oneD, List.mem_cons, List.not_mem_nil, or_false] at h1
    rcases h1 with h1 | h1 <;> rw [h1]
    · show 2 ≤ _; omega
    · exact Nat.zero_le _))
  have HB1 := Lib.hid (bcall HIN.out.2 hb1)
  clear hdd hlen hown hl hlq hle hb1 HTI
  go_wp2_with fail
  refine (one_any w1).mono ?_
  rintro e w2 ⟨A2, b2, rfl, hs2, hb2⟩
  have HS2 := Lib.hid hs2
  have HS12 := Lib.hid (HS1.out.keep hb2 hb2.size)
  have HB2 := Lib.hid (bcall HB1.out hb2)
  clear hs2 hb2 HS1 HB1
  go_wp2_with fail
  refine (rsame_any w2 w2.heap.size (Nat.le_refl _) A1 A2 2 c1 2 2 hs (oneH b2) HS12.out HS2.out).mono ?_
  rw [HDD.out, oneH_d]
  rintro e w3 ⟨rfl, hb3⟩
  have q1 : decide (oneD = oneD) = true := decide_eq_true rfl
  have HB3 := Lib.hid (bcall HB2.out hb3)
  clear hb3 HS12 HS2 HB2
  rw [q1]
  go_wp2_with fail
  refine (one_any w3).mono ?_
  rintro e w4 ⟨A4, b4, rfl, hs4, hb4⟩
  have HS4 := Lib.hid hs4
  have HB4 := Lib.hid (bcall HB3.out hb4)
  clear hs4 hb4 HB3
  go_wp2_with fail
  refine (accepts_any w4 w4.heap.size (Nat.le_refl _) A4 2 2 (oneH b4) HS4.out [97, 98, 99] (by decide)).mono ?_
  rw [oneH_d]
  rintro e w5 ⟨rfl, hb5⟩
  have q2 : takesB oneD [97, 98, 99] = true := by decide
  have HB5 := Lib.hid (bcall HB4.out hb5)
  clear hb5 HS4 HB4
  rw [q2]
  go_wp2_with fail
  refine (one_any w5).mono ?_
  rintro e w6 ⟨A6, b6, rfl, hs6, hb6⟩
  have HS6 := Lib.hid hs6
  have HB6 := Lib.hid (bcall HB5.out hb6)
  clear hs6 hb6 HB5
  go_wp2_with fail
  refine (accepts_any w6 w6.heap.size (Nat.le_refl _) A6 2 2 (oneH b6) HS6.out [97, 98] (by decide)).mono ?_
  rw [oneH_d]
  rintro e w7 ⟨rfl, hb7⟩
  have q3 : takesB oneD [97, 98] = false := by decide
  have HB7 := Lib.hid (bcall HB6.out hb7)
  clear hb7 HS6 HB6
  rw [q3]
  go_wp2_with fail
  refine (one_any w7).mono ?_
  rintro e w8 ⟨A8, b8, rfl, hs8, hb8⟩
  have HS8 := Lib.hid hs8
  have HB8 := Lib.hid (bcall HB7.out hb8)
  clear hs8 hb8 HB7
  go_wp2_with fail
  refine (dcheck_any w8 w8.heap.size (Nat.le_refl _) A8 2 2 (oneH b8) HS8.out).mono ?_
  rw [oneH_d]
  rintro e w9 ⟨rfl, hb9⟩
  have q4 : checkE oneD = 0 := by decide
  have HB9 := Lib.hid (bcall HB8.out hb9)
  clear hb9 HS8 HB8
  rw [q4]
  go_wp2_with fail
  go_ret
  exact ⟨rfl, HB9.out⟩
end Go.Proofs.YtebdffabfimmkaaDoor
/- Arguments of states, of loose states. -/
namespace Go.Proofs.YtebdffabfimmkaaDoor
open Go.RowKit

abbrev tArc : Ty := .cons (.int .i64) (.cons (.int .i64) (.cons (.int .i64) .nil))
abbrev tState : Ty := .cons .bool (.cons (.slice tArc 24) .nil)
theorem ty_states : tyOf Tryd.prog 8 22 = some (.slice tState 32) := by kernel_rfl
def arcOf (d : tArc.den) : Arc3 := ((show Int from d.1), (show Int from d.2.1), (show Int from d.2.2.1))
def shOf (d : tState.den) : Sh := ⟨((show Bool from d.1), (List.range (show SlH from d.2.1.1).n).map fun q => arcOf (d.2.1.2 q)), (show SlH from d.2.1.1).A, (show SlH from d.2.1.1).c⟩
def shL (n : Nat) (x : Nat → tState.den) : List Sh := (List.range n).map fun i => shOf (x i)
theorem arcs_cells (m : Nat) (f : Nat → tArc.den) : arcsC ((List.range m).map fun q => arcOf (f q)) = (List.range m).flatMap fun q => Ty.cells tArc (f q) := by
  unfold arcsC
  rw [List.flatMap_map]
  rfl
theorem sts_in {w : World} {A : Option Addr} {n c : Nat} {x : Nat → tState.den} {cs : List Value} (h : Reads w w.heap.size (.slice tState 32) (⟨A, n, c⟩, x) cs) : StsIn w w.heap.size A n c (shL n x) := by
  have hs := h.sl (e := tState) (fun d => rfl)
  have hb : n * 32 ≤ reachBytes := h.2.1.2.2.1
  have hlen : ∀ i, (shOf (x i)).d.2.length = (show SlH from (x i).2.1.1).n := fun i => by
    show ((List.range _).map _).length = _
    rw [List.length_map, List.length_range]
  refine ⟨by unfold shL; rw [List.length_map, List.length_range], ?_, h.2.1.1, by unfold reachBytes at hb; omega, fun y hy => ?_⟩
  · have e : (shL n x).flatMap Sh.hdr = (List.range n).flatMap fun i => Ty.cells tState (x i) := by
      unfold shL
      rw [List.flatMap_map]
      refine congrArg (fun f => (List.range n).flatMap f) (funext fun i => ?_)
      unfold Sh.hdr
      rw [hlen]
      rfl
    rw [e]
    exact hs
  · obtain ⟨i, hi, rfl⟩ := List.mem_map.1 hy
    obtain ⟨cl, _, c2, _, _, _, c3, c4, _, _, hr, _⟩ := h.elem (List.mem_range.1 hi)
    have h1 := hr.sl (e := tArc) (fun d => rfl)
    have h2 := hr.2.1
    have hb2 : (show SlH from (x i).2.1.1).n * 24 ≤ reachBytes := h2.2.2.1
    refine ⟨?_, by rw [hlen]; exact h2.1, by rw [hlen]; unfold reachBytes at hb2; omega⟩
    rw [hlen]
    have e := arcs_cells (show SlH from (x i).2.1.1).n (x i).2.1.2
    show Sl _ _ 3 _ _ (arcsC ((List.range _).map _))
    rw [e]
    exact h1
end Go.Proofs.YtebdffabfimmkaaDoor
