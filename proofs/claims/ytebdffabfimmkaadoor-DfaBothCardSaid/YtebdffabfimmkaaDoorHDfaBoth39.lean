/- glosslaw08.awake. -/
import Derived.Test.YtebdffabfimmkaaDoorHDfaBoth22
import Derived.Test.YtebdffabfimmkaaDoorHDfaBoth28
import Derived.Test.YtebdffabfimmkaaDoorHDfaBoth23
import Derived.Test.YtebdffabfimmkaaDoorHDfaBoth16
import Derived.Test.YtebdffabfimmkaaDoorHDfaBoth38
namespace Go.Proofs.YtebdffabfimmkaaDoor
open Go.RowKit Go.Maps

def oneH (b : Nat) : List Sh := [⟨(false, [(97, 98, 0), (99, 99, 1)]), some ⟨b, 0, none⟩, 2⟩, ⟨(true, []), none, 0⟩]
theorem oneH_d (b : Nat) : (oneH b).map (·.d) = oneD := rfl
set_option maxRecDepth 100000 in
set_option maxHeartbeats 8000000 in
theorem one_any (w : World) :
    Calls Tryd.prog 25 #[] w fun e w' => ∃ A b, e = .returned (.slice A 2 2) ∧ StsIn w' w'.heap.size A 2 2 (oneH b) ∧ Below w.heap.size w w' := by
  go_enter Tryd.func25, Tryd.ntmps25
  go_wp2_with fail
  go_ret
  have h1 := own_new w #[.int .i64 97, .int .i64 98, .int .i64 0, .int .i64 99, .int .i64 99, .int .i64 1] 41 3 2 rfl (by unfold maxLen; omega) (nb := w.heap.size) rfl (Nat.le_refl _)
  have h2 := own_new (w.alloc (.cells #[.int .i64 97, .int .i64 98, .int .i64 0, .int .i64 99, .int .i64 99, .int .i64 1] 41)) #[.bool false, .slice (some ⟨w.heap.size, 0, none⟩) 2 2, .bool true, .slice none 0 0] 39 2 2 rfl (by unfold maxLen; omega) (nb := w.heap.size + 1) (by simp) (base := w.heap.size) (by simp)
  have h3 := own_kept h1 (bnew (brefl _) (.cells #[.bool false, .slice (some ⟨w.heap.size, 0, none⟩) 2 2, .bool true, .slice none 0 0] 39))
  refine ⟨_, w.heap.size, rfl, ?_, bnew (bnew (brefl w) _) _⟩
  have h4 : OwnSts ((w.alloc (.cells #[.int .i64 97, .int .i64 98, .int .i64 0, .int .i64 99, .int .i64 99, .int .i64 1] 41)).alloc (.cells #[.bool false, .slice (some ⟨w.heap.size, 0, none⟩) 2 2, .bool true, .slice none 0 0] 39)) w.heap.size (.slice (some ⟨w.heap.size + 1, 0, none⟩) 2 2) (oneH w.heap.size) := by
    refine ⟨h2, ⟨fun z hz => ?_, ?_⟩⟩
    · simp only [oneH, List.map_cons, List.map_nil, List.mem_cons, List.not_mem_nil, or_false] at hz
      rcases hz with rfl | rfl
      · exact h3
      · exact GRow.own_nil _ _ _ _
    · refine List.pairwise_cons.2 ⟨fun z hz => ?_, List.pairwise_singleton _ _⟩
      rw [List.mem_singleton.1 hz]
      exact .inr (.inl rfl)
  exact h4.sts rfl (by omega) (fun x hx => by
    simp only [oneH, List.mem_cons, List.not_mem_nil, or_false] at hx
    rcases hx with rfl | rfl
    · show 2 ≤ _; omega
    · exact Nat.zero_le _)
def lAwH (b : Nat) : List Lsh := [⟨⟨false, [(97, 98, 0)], [1]⟩, some ⟨b, 0, none⟩, 1, some ⟨b + 1, 0, none⟩, 1⟩, ⟨⟨false, [(99, 99, 2)], []⟩, some ⟨b + 1 + 1, 0, none⟩, 1, none, 0⟩, ⟨⟨true, [], []⟩, none, 0, none, 0⟩]
theorem lAwH_d (b : Nat) : (lAwH b).map (·.d) = lAw := rfl
theorem lAw_in (w : World) {W : World} (hW : W = (((w.alloc (.cells #[.int .i64 97, .int .i64 98, .int .i64 0] 41)).alloc (.cells #[.int .i64 1] 3)).alloc (.cells #[.int .i64 99, .int .i64 99, .int .i64 2] 41)).alloc (.cells #[.bool false, .slice (some ⟨w.heap.size, 0, none⟩) 1 1, .slice (some ⟨w.heap.size + 1, 0, none⟩) 1 1, .bool false, .slice (some ⟨w.heap.size + 1 + 1, 0, none⟩) 1 1, .slice none 0 0, .bool true, .slice none 0 0, .slice none 0 0] 56)) :
    LoIn W W.heap.size (some ⟨w.heap.size + 1 + 1 + 1, 0, none⟩) 3 3 (lAwH w.heap.size) ∧ Below w.heap.size w W := by
  subst hW
  have b1 := bnew (brefl w) (.cells #[.int .i64 97, .int .i64 98, .int .i64 0] 41)
  have b2 := bnew b1 (.cells #[.int .i64 1] 3)
  have b3 := bnew b2 (.cells #[.int .i64 99, .int .i64 99, .int .i64 2] 41)
  have o1 := own_new w #[.int .i64 97, .int .i64 98, .int .i64 0] 41 3 1 rfl (by unfold maxLen; omega) (nb := w.heap.size) rfl (base := 0) (Nat.zero_le _)
  have o2 := own_new (w.alloc (.cells #[.int .i64 97, .int .i64 98, .int .i64 0] 41)) #[.int .i64 1] 3 1 1 rfl (by unfold maxLen; omega) (nb := w.heap.size + 1) (by simp) (base := 0) (Nat.zero_le _)
  have o3 := own_new ((w.alloc (.cells #[.int .i64 97, .int .i64 98, .int .i64 0] 41)).alloc (.cells #[.int .i64 1] 3)) #[.int .i64 99, .int .i64 99, .int .i64 2] 41 3 1 rfl (by unfold maxLen; omega) (nb := w.heap.size + 1 + 1) (by simp) (base := 0) (Nat.zero_le _)
  have o4 := own_new (((w.alloc (.cells #[.int .i64 97, .int .i64 98, .int .i64 0] 41)).alloc (.cells #[.int .i64 1] 3)).alloc (.cells #[.int .i64 99, .int .i64 99, .int .i64 2] 41)) #[.bool false, .slice (some ⟨w.heap.size, 0, none⟩) 1 1, .slice (some ⟨w.heap.size + 1, 0, none⟩) 1 1, .bool false, .slice (some ⟨w.heap.size + 1 + 1, 0, none⟩) 1 1, .slice none 0 0, .bool true, .slice none 0 0, .slice none 0 0] 56 3 3 rfl (by unfold maxLen; omega) (nb := w.heap.size + 1 + 1 + 1) (by simp) (base := 0) (Nat.zero_le _)
  have p1 := Sl.of_own (own_kept (own_kept (own_kept o1 (bnew (brefl _) (.cells #[.int .i64 1] 3))) (bnew (brefl _) (.cells #[.int .i64 99, .int .i64 99, .int .i64 2] 41))) (bnew (brefl _) (.cells #[.bool false, .slice (some ⟨w.heap.size, 0, none⟩) 1 1, .slice (some ⟨w.heap.size + 1, 0, none⟩) 1 1, .bool false, .slice (some ⟨w.heap.size + 1 + 1, 0, none⟩) 1 1, .slice none 0 0, .bool true, .slice none 0 0, .slice none 0 0] 56)))
  have p2 := Sl.of_own (own_kept (own_kept o2 (bnew (brefl _) (.cells #[.int .i64 99, .int .i64 99, .int .i64 2] 41))) (bnew (brefl _) (.cells #[.bool false, .slice (some ⟨w.heap.size, 0, none⟩) 1 1, .slice (some ⟨w.heap.size + 1, 0, none⟩) 1 1, .bool false, .slice (some ⟨w.heap.size + 1 + 1, 0, none⟩) 1 1, .slice none 0 0, .bool true, .slice none 0 0, .slice none 0 0] 56)))
  have p3 := Sl.of_own (own_kept o3 (bnew (brefl _) (.cells #[.bool false, .slice (some ⟨w.heap.size, 0, none⟩) 1 1, .slice (some ⟨w.heap.size + 1, 0, none⟩) 1 1, .bool false, .slice (some ⟨w.heap.size + 1 + 1, 0, none⟩) 1 1, .slice none 0 0, .bool true, .slice none 0 0, .slice none 0 0] 56)))
  refine ⟨⟨rfl, Sl.of_own o4, Nat.le_refl _, by omega, fun x hx => ?_, fun x hx => ?_⟩, bnew b3 _⟩
  · simp only [lAwH, List.mem_cons, List.not_mem_nil, or_false] at hx
    rcases hx with rfl | rfl | rfl
    · exact ⟨p1, Nat.le_refl _, by show 1 ≤ _; omega⟩
    · exact ⟨p3, Nat.le_refl _, by show 1 ≤ _; omega⟩
    · exact ⟨Sl.empty, Nat.le_refl _, Nat.zero_le _⟩
  · simp only [lAwH, List.mem_cons, List.not_mem_nil, or_false] at hx
    rcases hx with rfl | rfl | rfl
    · exact ⟨p2, Nat.le_refl _, by show 1 ≤ _; omega, fun e => by cases e⟩
    · exact ⟨Sl.empty, Nat.le_refl _, Nat.zero_le _, fun _ => rfl⟩
    · exact ⟨Sl.empty, Nat.le_refl _, Nat.zero_le _, fun _ => rfl⟩
set_option maxRecDepth 100000 in
set_option maxHeartbeats 8000000 in
theorem awake_any (w : World) (ht : Tab w) :
    Calls Tryd.prog 8 #[] w fun e w' => e = .returned (.bool true) ∧ Below w.heap.size w w' := by
  obtain ⟨W, hW⟩ : ∃ W, W = (((w.alloc (.cells #[.int .i64 97, .int .i64 98, .int .i64 0] 41)).alloc (.cells #[.int .i64 1] 3)).alloc (.cells #[.int .i64 99, .int .i64 99, .int .i64 2] 41)).alloc (.cells #[.bool false, .slice (some ⟨w.heap.size, 0, none⟩) 1 1, .slice (some ⟨w.heap.size + 1, 0, none⟩) 1 1, .bool false, .slice (some ⟨w.heap.size + 1 + 1, 0, none⟩) 1 1, .slice none 0 0, .bool true, .slice none 0 0, .slice none 0 0] 56) := ⟨_, rfl⟩
  have HIN := Lib.hid (lAw_in w hW)
  have HTW := Lib.hid (ht.below HIN.out.2)
  have HTI := Lib.hid (tight_any W W.heap.size (Nat.le_refl _) _ 3 3 _ HIN.out.1 (by omega) (by rw [lAwH_d]; exact lAw_good) 9 (by omega) HTW.out)
  rw [lAwH_d] at HTI
  have HW := Lib.hid hW
  clear hW ht
  go_enter Tryd.func8, Tryd.ntmps8
  go_wp2_with fail
  rw [← HW.out]
  refine HTI.out.mono ?_
  rintro e w1 (⟨⟨f, hf⟩, _⟩ | ⟨_, v, hs, d, rfl, hown, hl, hlq, hle, _, hb1⟩)
  · have := lAw_few f
    omega
  have hdd : hs.map (·.d) = oneD := hl.eq one_least (hlq.trans aw_leq.symm)
  have hlen : hs.length = 2 := by
    have := congrArg List.length hdd
    rw [List.length_map] at this
    exact this
  obtain ⟨A1, c1, rfl, _⟩ := own_shape hown.out
  rw [hlen]
  rw [hlen] at hown
  have HDD := Lib.hid hdd
  have HS1 := Lib.hid (hown.sts hlen (by omega) (fun x hx => by
    have h1 : x.d ∈ oneD := by rw [← hdd]; exact List.mem_map_of_mem hx
    simp only [oneD, List.mem_cons, List.not_mem_nil, or_false] at h1
    rcases h1 with h1 | h1 <;> rw [h1]
    · show 2 ≤ _; omega
    · exact Nat.zero_le _))
  have HB1 := Lib.hid (bcall HIN.out.2 hb1)
  clear hdd hlen hown hl hlq hle hb1 HTI
  go_wp2_with fail
  refine (one_any w1).mono ?_
  rintro e w2 ⟨A2, b2, rfl, hs2, hb2⟩
  have HS2 := Lib.hid hs2
  have HS12 := Lib.hid (HS1.out.keep hb2 hb2.size)
  have HB2 := Lib.hid (bcall HB1.out hb2)
  clear hs2 hb2 HS1 HB1
  go_wp2_with fail
  refine (rsame_any w2 w2.heap.size (Nat.le_refl _) A1 A2 2 c1 2 2 hs (oneH b2) HS12.out HS2.out).mono ?_
  rw [HDD.out, oneH_d]
  rintro e w3 ⟨rfl, hb3⟩
  have q1 : decide (oneD = oneD) = true := decide_eq_true rfl
  have HB3 := Lib.hid (bcall HB2.out hb3)
  clear hb3 HS12 HS2 HB2
  rw [q1]
  go_wp2_with fail
  refine (one_any w3).mono ?_
  rintro e w4 ⟨A4, b4, rfl, hs4, hb4⟩
  have HS4 := Lib.hid hs4
  have HB4 := Lib.hid (bcall HB3.out hb4)
  clear hs4 hb4 HB3
  go_wp2_with fail
  refine (accepts_any w4 w4.heap.size (Nat.le_refl _) A4 2 2 (oneH b4) HS4.out [97, 98, 99] (by decide)).mono ?_
  rw [oneH_d]
  rintro e w5 ⟨rfl, hb5⟩
  have q2 : takesB oneD [97, 98, 99] = true := by decide
  have HB5 := Lib.hid (bcall HB4.out hb5)
  clear hb5 HS4 HB4
  rw [q2]
  go_wp2_with fail
  refine (one_any w5).mono ?_
  rintro e w6 ⟨A6, b6, rfl, hs6, hb6⟩
  have HS6 := Lib.hid hs6
  have HB6 := Lib.hid (bcall HB5.out hb6)
  clear hs6 hb6 HB5
  go_wp2_with fail
  refine (accepts_any w6 w6.heap.size (Nat.le_refl _) A6 2 2 (oneH b6) HS6.out [97, 98] (by decide)).mono ?_
  rw [oneH_d]
  rintro e w7 ⟨rfl, hb7⟩
  have q3 : takesB oneD [97, 98] = false := by decide
  have HB7 := Lib.hid (bcall HB6.out hb7)
  clear hb7 HS6 HB6
  rw [q3]
  go_wp2_with fail
  refine (one_any w7).mono ?_
  rintro e w8 ⟨A8, b8, rfl, hs8, hb8⟩
  have HS8 := Lib.hid hs8
  have HB8 := Lib.hid (bcall HB7.out hb8)
  clear hs8 hb8 HB7
  go_wp2_with fail
  refine (dcheck_any w8 w8.heap.size (Nat.le_refl _) A8 2 2 (oneH b8) HS8.out).mono ?_
  rw [oneH_d]
  rintro e w9 ⟨rfl, hb9⟩
  have q4 : checkE oneD = 0 := by decide
  have HB9 := Lib.hid (bcall HB8.out hb9)
  clear hb9 HS8 HB8
  rw [q4]
  go_wp2_with fail
  go_ret
  exact ⟨rfl, HB9.out⟩
end Go.Proofs.YtebdffabfimmkaaDoor
/- Arguments of states, of loose states. -/
namespace Go.Proofs.YtebdffabfimmkaaDoor
open Go.RowKit

abbrev tArc : Ty := .cons (.int .i64) (.cons (.int .i64) (.cons (.int .i64) .nil))
abbrev tState : Ty := .cons .bool (.cons (.slice tArc 24) .nil)
theorem ty_states : tyOf Tryd.prog 8 22 = some (.slice tState 32) := by kernel_rfl
def arcOf (d : tArc.den) : Arc3 := ((show Int from d.1), (show Int from d.2.1), (show Int from d.2.2.1))
def shOf (d : tState.den) : Sh := ⟨((show Bool from d.1), (List.range (show SlH from d.2.1.1).n).map fun q => arcOf (d.2.1.2 q)), (show SlH from d.2.1.1).A, (show SlH from d.2.1.1).c⟩
def shL (n : Nat) (x : Nat → tState.den) : List Sh := (List.range n).map fun i => shOf (x i)
theorem arcs_cells (m : Nat) (f : Nat → tArc.den) : arcsC ((List.range m).map fun q => arcOf (f q)) = (List.range m).flatMap fun q => Ty.cells tArc (f q) := by
  unfold arcsC
  rw [List.flatMap_map]
  rfl
theorem sts_in {w : World} {A : Option Addr} {n c : Nat} {x : Nat → tState.den} {cs : List Value} (h : Reads w w.heap.size (.slice tState 32) (⟨A, n, c⟩, x) cs) : StsIn w w.heap.size A n c (shL n x) := by
  have hs := h.sl (e := tState) (fun d => rfl)
  have hb : n * 32 ≤ reachBytes := h.2.1.2.2.1
  have hlen : ∀ i, (shOf (x i)).d.2.length = (show SlH from (x i).2.1.1).n := fun i => by
    show ((List.range _).map _).length = _
    rw [List.length_map, List.length_range]
  refine ⟨by unfold shL; rw [List.length_map, List.length_range], ?_, h.2.1.1, by unfold reachBytes at hb; omega, fun y hy => ?_⟩
  · have e : (shL n x).flatMap Sh.hdr = (List.range n).flatMap fun i => Ty.cells tState (x i) := by
      unfold shL
      rw [List.flatMap_map]
      refine congrArg (fun f => (List.range n).flatMap f) (funext fun i => ?_)
      unfold Sh.hdr
      rw [hlen]
      rfl
    rw [e]
    exact hs
  · obtain ⟨i, hi, rfl⟩ := List.mem_map.1 hy
    obtain ⟨cl, _, c2, _, _, _, c3, c4, _, _, hr, _⟩ := h.elem (List.mem_range.1 hi)
    have h1 := hr.sl (e := tArc) (fun d => rfl)
    have h2 := hr.2.1
    have hb2 : (show SlH from (x i).2.1.1).n * 24 ≤ reachBytes := h2.2.2.1
    refine ⟨?_, by rw [hlen]; exact h2.1, by rw [hlen]; unfold reachBytes at hb2; omega⟩
    rw [hlen]
    have e := arcs_cells (show SlH from (x i).2.1.1).n (x i).2.1.2
    show Sl _ _ 3 _ _ (arcsC ((List.range _).map _))
    rw [e]
    exact h1
end Go.Proofs.YtebdffabfimmkaaDoor
/- The walk of DfaMeets. -/
namespace Go.Proofs.YtebdffabfimmkaaDoor
open Go.RowKit Go.Maps

set_option maxRecDepth 100000 in
set_option maxHeartbeats 8000000 in
theorem few_any (w : World) (z : Int) : Calls Tryd.prog 20 #[.int .i64 z] w fun e w' => e = .returned (.bool (decide (z ≤ 30))) ∧ Below w.heap.size w w' := by
  go_enter Tryd.func20, Tryd.ntmps20
  go_wp2_with fail
  go_ret
  exact ⟨rfl, brefl w⟩
/-- Owned states as an argument. -/
theorem OwnSts.use {W : World} {base : Nat} {v : Value} {hs : List Sh} (h : OwnSts W base v hs) (hl : hs.length ≤ 20000) (hg : Good (hs.map (·.d))) : ∃ A c, v = .slice A hs.length c ∧ StsIn W W.heap.size A hs.length c hs := by
  obtain ⟨A, c, rfl, _⟩ := own_shape h.out
  refine ⟨A, c, rfl, h.sts rfl (by omega) fun x hx => ?_⟩
  have h1 := hg.asc x.d (List.mem_map_of_mem hx)
  have := asc_few h1
  omega
theorem checks (d : List St) : checkE d = 0 ∨ checkE d = 1 ∨ checkE d = 3 ∨ checkE d = 8 := by
  unfold checkE
  split
  · simp
  · split
    · simp
    · split <;> simp
set_option linter.unusedVariables false in
set_option maxRecDepth 100000 in
set_option maxHeartbeats 8000000 in
theorem meets_walk (w : World) (A : Option Addr) (n c : Nat) (H : List Sh) (h : StsIn w w.heap.size A n c H) (A' : Option Addr) (n' c' : Nat) (H' : List Sh) (h' : StsIn w w.heap.size A' n' c' H') (At : Option Addr) (m ct : Nat) (y : Nat → ByteArray) (hy : TextsIn w At m ct y) (ht : Tab w) :
    Calls Tryd.prog 7 #[.slice A n c, .slice A' n' c', .slice At m ct] w fun e w' => e = .returned (.bool true) ∧ Below w.heap.size w w' := by
  have HS := Lib.hid h
  have HS' := Lib.hid h'
  have HY := Lib.hid hy
  have HT := Lib.hid ht
  have hcm := h.cm
  have hcm' := h'.cm
  clear h h' hy ht
  go_enter Tryd.func7, Tryd.ntmps7
  go_wp2_with fail
  refine (awake_any _ HT.out).mono ?_
  rintro e w1 ⟨rfl, hb1⟩
  have HB1 := Lib.hid hb1
  clear hb1
  go_wp2_with fail
  refine (few_any w1 (n : Int)).mono ?_
  rintro e w2 ⟨rfl, hb2⟩
  have HB2 := Lib.hid (bcall HB1.out hb2)
  clear hb2 HB1
  by_cases hn : (n : Int) ≤ 30
  · rw [decide_eq_true hn]
    go_wp2_with fail
    refine (few_any w2 (n' : Int)).mono ?_
    rintro e w3 ⟨rfl, hb3⟩
    have HB3 := Lib.hid (bcall HB2.out hb3)
    clear hb3 HB2
    by_cases hn' : (n' : Int) ≤ 30
    · rw [decide_eq_true hn']
      go_wp2_with fail
      refine (dcheck_any w3 w.heap.size HB3.out.size A n c H (HS.out.keep HB3.out (Nat.le_refl _))).mono ?_
      rintro e w4 ⟨rfl, hb4⟩
      have HB4 := Lib.hid (bcall HB3.out hb4)
      clear hb4 HB3
      obtain ⟨ck, hck⟩ : ∃ k, checkE (H.map (·.d)) = k := ⟨_, rfl⟩
      have HCK := Lib.hid hck
      have HCV := Lib.hid (checks (H.map (·.d)))
      rw [hck] at HCV ⊢
      clear hck
      by_cases hc : ck = 0
      · subst hc
        go_wp2_with fail
        refine (dcheck_any w4 w.heap.size HB4.out.size A' n' c' H' (HS'.out.keep HB4.out (Nat.le_refl _))).mono ?_
        rintro e w5 ⟨rfl, hb5⟩
        have HB5 := Lib.hid (bcall HB4.out hb5)
        clear hb5 HB4
        obtain ⟨ck', hck'⟩ : ∃ k, checkE (H'.map (·.d)) = k := ⟨_, rfl⟩
        have HCK' := Lib.hid hck'
        rw [hck']
        clear hck' HCV
        by_cases hc' : ck' = 0
        · subst hc'
          have HG := Lib.hid ((good_iff _).1 HCK.out)
          have HG' := Lib.hid ((good_iff _).1 HCK'.out)
          clear HCK HCK'
          go_wp2_with fail
          -- M{
          have hda : (H.map (·.d)).length = n := by rw [List.length_map]; exact HS.out.len
          have hda' : (H'.map (·.d)).length = n' := by rw [List.length_map]; exact HS'.out.len
          have hfew : n * n' ≤ 900 := Nat.mul_le_mul (show n ≤ 30 by omega) (show n' ≤ 30 by omega)
          have hfew2 : n * n ≤ 900 := Nat.mul_le_mul (show n ≤ 30 by omega) (show n ≤ 30 by omega)
          have HPF := Lib.hid (pair_few HG.out HG'.out)
          have HPF2 := Lib.hid (pair_few HG.out HG.out)
          rw [hda, hda'] at HPF
          rw [hda] at HPF2
          have HFW := Lib.hid (And.intro hfew hfew2)
          have HDA := Lib.hid hda
          clear hda hda' hfew hfew2 hn hn'
          refine (both_any w5 w.heap.size HB5.out.size A n c H (HS.out.keep HB5.out (Nat.le_refl _)) A' n' c' H' (HS'.out.keep HB5.out (Nat.le_refl _)) HG.out HG'.out (by have := HFW.out; omega) 20000 (HT.out.below HB5.out)).mono ?_
          rintro e w6 (⟨⟨f, hf⟩, _⟩ | ⟨_, v6, X, dd, rfl, hown6, hl6, hq6, hle6, hd6, hb6⟩)
          · exfalso
            have h1 := HPF.out f
            have h2 := HFW.out
            omega
          have hxl : X.length ≤ 20000 := by omega
          have hxl2 : (X.map (·.d)).length ≤ 20000 := by rw [List.length_map]; exact hxl
          have HXG := Lib.hid (hl6.good hxl2)
          have HXT := Lib.hid (fun t => both_takes HG.out HG'.out hl6 hq6 hxl2 t)
          obtain ⟨Ax, cx, rfl, hx6⟩ := hown6.use hxl HXG.out
          obtain ⟨nx, hnx⟩ : ∃ k, X.length = k := ⟨_, rfl⟩
          rw [hnx] at hx6 hxl ⊢
          have HX6 := Lib.hid hx6
          have HB6 := Lib.hid (bcall HB5.out hb6)
          clear hown6 hl6 hq6 hle6 hd6 hxl2 hx6 hb6 hnx HB5
          go_wp2_with fail
          refine (oleast_any w6 w.heap.size HB6.out.size A n c H (HS.out.keep HB6.out (Nat.le_refl _)) HG.out (HT.out.below HB6.out)).mono ?_
          rintro e w7 ⟨v7, L, rfl, hown7, hl7, hle7, hb7⟩
          have hll : L.length ≤ 20000 := by have := HG.out.few; rw [HDA.out] at this; omega
          have hll2 : (L.map (·.d)).length ≤ 20000 := by rw [List.length_map]; exact hll
          have HLG := Lib.hid (hl7.good hll2)
          have HLT := Lib.hid (fun t => least_takes HG.out hl7 hll2 t)
          have HLL := Lib.hid hl7
          obtain ⟨Al, cl, rfl, hL7⟩ := hown7.use hll HLG.out
          obtain ⟨nl, hnl⟩ : ∃ k, L.length = k := ⟨_, rfl⟩
          rw [hnl] at hL7 hll hle7 ⊢
          have HL7 := Lib.hid hL7
          have HX7 := Lib.hid (HX6.out.keep hb7 hb7.size)
          have HB7 := Lib.hid (bcall HB6.out hb7)
          clear hown7 hl7 hll2 hL7 hb7 hnl HB6 HX6
          go_wp2_with fail
          refine (oleast_any w7 w7.heap.size (Nat.le_refl _) Al nl cl L HL7.out HLG.out (HT.out.below HB7.out)).mono ?_
          rintro e w8 ⟨v8, M, rfl, hown8, hl8, hle8, hb8⟩
          have HLM := Lib.hid (least_again HLL.out hl8)
          have hml : M.length ≤ 20000 := by omega
          obtain ⟨Am, cm, rfl, hM8⟩ := hown8.use hml (by rw [← HLM.out]; exact HLG.out)
          obtain ⟨nm, hnm⟩ : ∃ k, M.length = k := ⟨_, rfl⟩
          rw [hnm] at hM8 ⊢
          have HM8 := Lib.hid hM8
          have HX8 := Lib.hid (HX7.out.keep hb8 hb8.size)
          have HL8 := Lib.hid (HL7.out.keep hb8 hb8.size)
          have HB8 := Lib.hid (bcall HB7.out hb8)
          clear hown8 hl8 hM8 hb8 hnm HB7 HX7 HL7 hml hle8
          go_wp2_with fail
          refine (both_any w8 w.heap.size HB8.out.size A n c H (HS.out.keep HB8.out (Nat.le_refl _)) A n c H (HS.out.keep HB8.out (Nat.le_refl _)) HG.out HG.out (by have := HFW.out; omega) 20000 (HT.out.below HB8.out)).mono ?_
          rintro e w9 (⟨⟨f, hf⟩, _⟩ | ⟨_, v9, S, dd9, rfl, hown9, hl9, hq9, hle9, hd9, hb9⟩)
          · exfalso
            have h1 := HPF2.out f
            have h2 := HFW.out
            omega
          have HSL := Lib.hid (both_self hl9 hq9 HLL.out)
          have hsl : S.length ≤ 20000 := by omega
          obtain ⟨As, cs, rfl, hS9⟩ := hown9.use hsl (by rw [HSL.out]; exact HLG.out)
          obtain ⟨ns, hns⟩ : ∃ k, S.length = k := ⟨_, rfl⟩
          rw [hns] at hS9 ⊢
          have HS9 := Lib.hid hS9
          have HX9 := Lib.hid (HX8.out.keep hb9 hb9.size)
          have HL9 := Lib.hid (HL8.out.keep hb9 hb9.size)
          have HM9 := Lib.hid (HM8.out.keep hb9 hb9.size)
          have HB9 := Lib.hid (bcall HB8.out hb9)
          have q9 : decide ((nl : Int) > (n : Int)) = false := decide_eq_false (by omega)
          have q91 : decide (nl > n) = false := decide_eq_false (by omega)
          clear hown9 hl9 hq9 hle9 hd9 hS9 hb9 hns HB8 HX8 HL8 HM8 hsl
          go_wp2_with fail
          refine (rsame_any w9 w9.heap.size (Nat.le_refl _) Al Am nl cl nm cm L M HL9.out HM9.out).mono ?_
          rintro e w10 ⟨rfl, hb10⟩
          rw [decide_eq_true HLM.out]
          have HX10 := Lib.hid (HX9.out.keep hb10 hb10.size)
          have HL10 := Lib.hid (HL9.out.keep hb10 hb10.size)
          have HS10 := Lib.hid (HS9.out.keep hb10 hb10.size)
          have HB10 := Lib.hid (bcall HB9.out hb10)
          clear hb10 HB9 HX9 HL9 HM9 HS9
          go_wp2_with fail
          refine (rsame_any w10 w10.heap.size (Nat.le_refl _) As Al ns cs nl cl S L HS10.out HL10.out).mono ?_
          rintro e w11 ⟨rfl, hb11⟩
          rw [decide_eq_true HSL.out]
          have HX11 := Lib.hid (HX10.out.keep hb11 hb11.size)
          have HL11 := Lib.hid (HL10.out.keep hb11 hb11.size)
          have HB11 := Lib.hid (bcall HB10.out hb11)
          clear hb11 HB10 HX10 HL10 HS10
          go_wp2_with fail
          refine (dcheck_any w11 w11.heap.size (Nat.le_refl _) Ax nx cx X HX11.out).mono ?_
          rintro e w12 ⟨rfl, hb12⟩
          rw [(good_iff _).2 HXG.out]
          have HX12 := Lib.hid (HX11.out.keep hb12 hb12.size)
          have HL12 := Lib.hid (HL11.out.keep hb12 hb12.size)
          have HB12 := Lib.hid (bcall HB11.out hb12)
          clear hb12 HB11 HX11 HL11
          go_wp2_with fail
          refine (dcheck_any w12 w12.heap.size (Nat.le_refl _) Al nl cl L HL12.out).mono ?_
          rintro e w13 ⟨rfl, hb13⟩
          rw [(good_iff _).2 HLG.out]
          have HX13 := Lib.hid (HX12.out.keep hb13 hb13.size)
          have HL13 := Lib.hid (HL12.out.keep hb13 hb13.size)
          have HB13 := Lib.hid (bcall HB12.out hb13)
          clear hb13 HB12 HX12 HL12
          go_wp2_with fail
          refine meets_loop w w13 HB13.out A A' Ax Al n c n' c' nx cx nl cl H H' X L (HS.out.keep HB13.out HB13.out.size) (HS'.out.keep HB13.out HB13.out.size) HX13 HL13 At m ct y HY HXT HLT _ _ _ _ _ _ _ _ _ _ _ _ _ _ _ _ _ _ _ _ _ _ _ _ _ _ _ _ _ _ _ _ _ _ _ _ _ _ _ _ _ _ _ _ _ _ _ _ _ _ _ _ _ _ _ _ _ _ _ _ _ _ _ _ _ _ _ _ _ _ _ _ _ _ _ _ _ _ _ _ _ _ _ _ _ _ _ _ _ _ _ _ _ _ _ _ _ _ _ _ _ _ _ _ _ _ _ _ _ _ _ _ _ _ _ _ _ _ _ _ _ _ _ _ _ _ _ _ _ _ _ _ _ _ _ _ _ _ _ _ _ _ _ _ _ _ (fun c a a' w hd h => by cases a; cases a'; cases hd; exact h) ?_
          intro i W u6 u16 u17 u108 u109 u110 u111 u112 u113 u114 u115 u116 u117 u118 u119 u120 u121 u122 u123 u124 u125 u126 u127 u128 u129 u130 u131 u132 u133 u134 u135 u136 u137 u138 u139 u140 u141 u142 u143 u144 u145 u146 u147 u148 u149 u150 HBW
          have HBZ := Lib.hid (bcall HB13.out HBW.out)
          clear HBW HB13
          go_wp2_with fail
          go_ret
          exact ⟨rfl, HBZ.out⟩
          -- M}
        · have q5 : (ck' == 0) = false := by simpa using hc'
          have q6 : (ck' != 0) = true := by simpa using hc'
          clear hc'
          clear HS HS' HY
          go_wp2_with fail
          refine (awake_any _ (HT.out.below HB5.out)).mono ?_
          rintro e w9 ⟨rfl, hb9⟩
          have HB9 := Lib.hid (bcall HB5.out hb9)
          clear hb9
          go_wp2_with fail
          go_ret
          exact ⟨rfl, HB9.out⟩
      · have q5 : (ck == 0) = false := by simpa using hc
        have q6 : (ck != 0) = true := by simpa using hc
        clear hc HCV
        clear HS HS' HY
        go_wp2_with fail
        refine (awake_any _ (HT.out.below HB4.out)).mono ?_
        rintro e w9 ⟨rfl, hb9⟩
        have HB9 := Lib.hid (bcall HB4.out hb9)
        clear hb9
        go_wp2_with fail
        go_ret
        exact ⟨rfl, HB9.out⟩
    · rw [decide_eq_false hn']
      clear HS HS' HY
      go_wp2_with fail
      refine (awake_any _ (HT.out.below HB3.out)).mono ?_
      rintro e w9 ⟨rfl, hb9⟩
      have HB9 := Lib.hid (bcall HB3.out hb9)
      clear hb9
      go_wp2_with fail
      go_ret
      exact ⟨rfl, HB9.out⟩
  · rw [decide_eq_false hn]
    clear HS HS' HY
    go_wp2_with fail
    refine (awake_any _ (HT.out.below HB2.out)).mono ?_
    rintro e w9 ⟨rfl, hb9⟩
    have HB9 := Lib.hid (bcall HB2.out hb9)
    clear hb9
    go_wp2_with fail
    go_ret
    exact ⟨rfl, HB9.out⟩
theorem meets_all (w : World) (A : Option Addr) (n c : Nat) (x : Nat → tState.den) (h : StsIn w w.heap.size A n c (shL n x)) (A' : Option Addr) (n' c' : Nat) (x' : Nat → tState.den) (h' : StsIn w w.heap.size A' n' c' (shL n' x')) (At : Option Addr) (m ct : Nat) (y : Nat → Ty.str.den) (hy : TextsIn w At m ct y) (ht : Tab w) :
    Calls Tryd.prog 7 #[.slice A n c, .slice A' n' c', .slice At m ct] w fun e w' => e = .returned (.bool true) ∧ Below w.heap.size w w' := meets_walk w A n c _ h A' n' c' _ h' At m ct y hy ht
end Go.Proofs.YtebdffabfimmkaaDoor
