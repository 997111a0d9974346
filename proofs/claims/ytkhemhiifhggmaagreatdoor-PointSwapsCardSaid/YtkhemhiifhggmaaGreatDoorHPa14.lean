/- PointSwaps: the walk. (printed by mkswaps.py) -/
import Derived.Test.YtkhemhiifhggmaaGreatDoorHPa12
import Derived.Test.YtkhemhiifhggmaaGreatDoorHPa13
import Derived.Test.YtkhemhiifhggmaaGreatDoorHPa6
set_option maxRecDepth 100000
set_option maxHeartbeats 40000000
namespace Go.Proofs.YtkhemhiifhggmaaGreatDoor
open Go.RowKit Go.Maps Go.Sort
set_option linter.unusedVariables false
section
variable {H : Type} {w W : World} {p : Nat} {D : DS H}
theorem dn_new (H : Type) {w W : World} (hb : Below w.heap.size w W) : Calls Tryz.prog 20 #[] W fun e w' => e = .returned (.pointer (some ⟨W.heap.size + 3, 0, none⟩)) ∧ Own w w' (W.heap.size + 3) (DS.new H) ∧ Below W.heap.size W w' := by
 refine (new_any H W).mono fun e w' hh => ?_
 have hs := hb.size
 exact ⟨hh.1, ⟨_, rfl, hh.2.1, bcall hb hh.2.2, by show _ ≤ W.heap.size + 3; omega, by show _ ≤ W.heap.size; omega, by show _ ≤ W.heap.size + 1; omega, by show _ ≤ W.heap.size + 2; omega⟩, hh.2.2⟩
theorem r2_good {L : Nat} (hg : D.good L) (N : DataW H) (loss : Int) : ∀ (ks : List ByteArray) (st : Int × DataW H), (IsMap st.2 ∧ ∀ k, 0 ≤ (fileOf st.2 k).2 ∧ (fileOf st.2 k).2 ≤ ((fileOf st.2 k).1.length : Int) ∧ (fileOf st.2 k).1.length ≤ L) →
  IsMap (ks.foldl (r2 N D.files loss) st).2 ∧ ∀ k, 0 ≤ (fileOf (ks.foldl (r2 N D.files loss) st).2 k).2 ∧ (fileOf (ks.foldl (r2 N D.files loss) st).2 k).2 ≤ ((fileOf (ks.foldl (r2 N D.files loss) st).2 k).1.length : Int) ∧ (fileOf (ks.foldl (r2 N D.files loss) st).2 k).1.length ≤ L
 | [], st, h => h
 |
  s :: ks, st, h => by
  refine r2_good hg N loss ks (r2 N D.files loss st s) ?_
  rcases r2_form hg N loss st s with ⟨e, _⟩ | ⟨m, m0, m1, e⟩
  ·rw [e]; exact h
  ·rw [e]
   refine ⟨h.1.put _ _, fun k => ?_⟩
   rw [fileOf_put h.1]
   split
   ·obtain ⟨g1, g2, g3⟩ := hg.fs (numOf N s)
    refine ⟨by show (0 : Int) ≤ (m : Int); omega, ?_, ?_⟩
    ·show (m : Int) ≤ ((List.take m _).length : Int)
     rw [List.length_take]
     omega
    ·show (List.take m _).length ≤ _
     rw [List.length_take]
     omega
   ·exact h.2 k
theorem restart_good {L : Nat} (hg : D.good L) (loss : Int) : (D.restart loss).good L := by
 obtain ⟨h1, h2⟩ := r2_good hg (D.half loss).2 loss (keysOf (D.half loss).2) ((D.half loss).1, .map []) ⟨⟨[], rfl⟩, fun k => ⟨Int.le_refl _, Int.le_refl _, Nat.zero_le _⟩⟩
 exact ⟨h1, h2⟩
theorem dr_arm (h : Own w W p D) (n e : Int) (hn : 0 ≤ n) (he : e = 14 ∨ e = 13 ∨ e = 15) : Calls Tryz.prog 22 #[.pointer (some ⟨p, 0, none⟩), .int .i64 n, .int .i64 e] W fun x w' => x = .returned (.int .i64 0) ∧ Own w w' p { D with armed := n, fault := e } ∧ RowsKeep W w' :=
 h.byr fun F e' hd => by subst e'; exact arm_any W F D n e hd hn he
theorem arm_small {k : Nat} (h : D.small k) {n : Int} (hn : 0 ≤ n ∧ n ≤ 9223372036854775807) (q : Int) : DS.small k { D with armed := n, fault := q } := by
 obtain ⟨a, b, c, d, e, f, g⟩ := h
 exact ⟨by show -1 ≤ n; omega, hn.2, c, d, e, f, g⟩
end
theorem boxes (w : World) (nx0 nx : Int) (A0 A1 : Option Addr) (n0 c0 n1 c1 : Nat) {wA : World} (h : (w.alloc (.cells #[.int .i64 nx0, .slice A0 n0 c0] 24)).alloc (.cells #[.int .i64 nx, .slice A1 n1 c1] 24) = wA) :
  Below w.heap.size w wA ∧ ∀ V, RowsKeep wA V → (V.cell? ⟨w.heap.size, 0, none⟩ = some (.int .i64 nx0) ∧ V.cell? ⟨w.heap.size, 1, none⟩ = some (.slice A0 n0 c0)) ∧ V.cell? ⟨w.heap.size + 1, 0, none⟩ = some (.int .i64 nx) ∧ V.cell? ⟨w.heap.size + 1, 1, none⟩ = some (.slice A1 n1 c1) := by
 subst h
 have hx : ((w.alloc (.cells #[.int .i64 nx0, .slice A0 n0 c0] 24)).alloc (.cells #[.int .i64 nx, .slice A1 n1 c1] 24)).heap[w.heap.size]? = some (.cells #[.int .i64 nx0, .slice A0 n0 c0] 24 (0, 0)) := by
  have h1 := heap_alloc_new w (.cells #[.int .i64 nx0, .slice A0 n0 c0] 24)
  have h2 := (bnew (brefl (w.alloc (.cells #[.int .i64 nx0, .slice A0 n0 c0] 24))) (.cells #[.int .i64 nx, .slice A1 n1 c1] 24)).block w.heap.size (le_al w _)
  exact h2.trans h1
 have hy := heap_alloc_new (w.alloc (.cells #[.int .i64 nx0, .slice A0 n0 c0] 24)) (.cells #[.int .i64 nx, .slice A1 n1 c1] 24)
 have hs : (w.alloc (.cells #[.int .i64 nx0, .slice A0 n0 c0] 24)).heap.size = w.heap.size + 1 := by simp
 rw [hs] at hy
 refine ⟨bnew (bnew (brefl w) _) _, fun V hv => ⟨⟨?_, ?_⟩, ?_, ?_⟩⟩
 ·exact hv.cell hx (by decide) rfl
 ·exact hv.cell hx (by decide) rfl
 ·exact hv.cell hy (by decide) rfl
 ·exact hv.cell hy (by decide) rfl
theorem read_cells {W w' : World} {nx : Int} {A : Option Addr} {n c : Nat} {V : World} (hv : Below (w'.alloc (.cells #[.int .i64 nx, .slice A n c] 24)).heap.size (w'.alloc (.cells #[.int .i64 nx, .slice A n c] 24)) V) : V.cell? ⟨w'.heap.size, 0, none⟩ = some (.int .i64 nx) ∧ V.cell? ⟨w'.heap.size, 1, none⟩ = some (.slice A n c) := by
 obtain ⟨k0, k1, _, _⟩ := cells2 ((hv.block _ (le_al w' _)).trans (heap_alloc_new w' (.cells #[.int .i64 nx, .slice A n c] 24)))
 exact ⟨k0, k1⟩
theorem pswaps_r0 (w : World) (hT : Tab w) (hE : Errs w) (nx0 : Int) (A0 : Option Addr) (n0 c0 : Nat) (l0 : List Sg) (HS0 : Hid (SegsIn w w.heap.size A0 n0 l0)) (hn0 : n0 ≤ 4398046511104) (nx : Int) (A1 : Option Addr) (n1 c1 : Nat) (l : List Sg) (HS1 : Hid (SegsIn w w.heap.size A1 n1 l)) (hn1 : n1 ≤ 4398046511104) (n fails loss : Int) (stop : Bool) (h : ¬ PtOk nx0 l0) :
  Calls Tryz.prog 5 #[.agg #[.int .i64 nx0, .slice A0 n0 c0], .agg #[.int .i64 nx, .slice A1 n1 c1], .int .i64 n, .int .i64 fails, .int .i64 loss, .bool stop] w fun e w' => e = .returned (.bool true) ∧ Below w.heap.size w w' := by
 have HCP0 : Hid (checkP nx0 l0 = 1) := if_neg h
 clear h
 obtain ⟨wA, hwA⟩ : ∃ wA, (w.alloc (.cells #[.int .i64 nx0, .slice A0 n0 c0] 24)).alloc (.cells #[.int .i64 nx, .slice A1 n1 c1] 24) = wA := ⟨_, rfl⟩
 have HBX := Lib.hid (boxes w nx0 nx A0 A1 n0 c0 n1 c1 hwA)
 have HWE := Lib.hid hwA
 have HN := Lib.hid (dn_new Unit HBX.out.1)
 obtain ⟨p, hp⟩ : ∃ p, wA.heap.size + 3 = p := ⟨_, rfl⟩
 rw [hp] at HN
 have HPE := Lib.hid hp
 clear hwA hp
 go_enter Tryz.func5, Tryz.ntmps5
 go_wp2_with fail
 rw [HWE.out]
 refine HN.out.mono ?_
 rintro e w1 ⟨rfl, ho1, hb1⟩
 have HNB := Lib.hid (RowsKeep.below hb1)
 have HO1 := Lib.hid ho1
 have HA := Lib.hid (pawake_any w1 (hT.below ho1.below) (hE.below ho1.below))
 clear ho1 hb1 HN
 go_wp2_with fail
 refine HA.out.mono ?_
 rintro e w2 ⟨rfl, hb2⟩
 have HO2 := Lib.hid (HO1.out.on hb2)
 have HK2 : Hid (RowsKeep wA w2) := HNB.out.trans (RowsKeep.below hb2)
 obtain ⟨⟨a0, a1⟩, b0, b1⟩ := HBX.out.2 w2 HK2.out
 clear hb2 HA HO1 HNB HPE HWE
 have HC := Lib.hid (rcheck_any w2 w.heap.size HO2.out.below.size A0 n0 c0 l0 (Lib.hid (HS0.out.keep HO2.out.below)) hn0 nx0)
 rw [HCP0.out] at HC
 go_wp2_with fail
 refine HC.out.mono ?_
 rintro e w3 ⟨rfl, hb⟩
 have HO3 := Lib.hid (HO2.out.on hb)
 have HK3 : Hid (RowsKeep wA w3) := HK2.out.trans (RowsKeep.below hb)
 clear hb HC HO2 a0 a1 b0 b1
 obtain ⟨⟨a0, a1⟩, b0, b1⟩ := HBX.out.2 w3 HK3.out
 clear HK2
 have HA := Lib.hid (pawake_any w3 (hT.below HO3.out.below) (hE.below HO3.out.below))
 go_wp2_with fail
 refine HA.out.mono ?_
 rintro e wz ⟨rfl, hbz⟩
 have HZ := Lib.hid (bcall HO3.out.below hbz)
 clear hbz HA
 go_wp2_with fail
 go_ret
 exact ⟨rfl, HZ.out⟩
theorem pswaps_r1 (w : World) (hT : Tab w) (hE : Errs w) (nx0 : Int) (A0 : Option Addr) (n0 c0 : Nat) (l0 : List Sg) (HS0 : Hid (SegsIn w w.heap.size A0 n0 l0)) (hn0 : n0 ≤ 4398046511104) (nx : Int) (A1 : Option Addr) (n1 c1 : Nat) (l : List Sg) (HS1 : Hid (SegsIn w w.heap.size A1 n1 l)) (hn1 : n1 ≤ 4398046511104) (n fails loss : Int) (stop : Bool) (h0 : PtOk nx0 l0) (h : ¬ PtOk nx l) :
  Calls Tryz.prog 5 #[.agg #[.int .i64 nx0, .slice A0 n0 c0], .agg #[.int .i64 nx, .slice A1 n1 c1], .int .i64 n, .int .i64 fails, .int .i64 loss, .bool stop] w fun e w' => e = .returned (.bool true) ∧ Below w.heap.size w w' := by
 have HCP0 : Hid (checkP nx0 l0 = 0) := if_pos h0
 have HCP1 : Hid (checkP nx l = 1) := if_neg h
 clear h h0
 obtain ⟨wA, hwA⟩ : ∃ wA, (w.alloc (.cells #[.int .i64 nx0, .slice A0 n0 c0] 24)).alloc (.cells #[.int .i64 nx, .slice A1 n1 c1] 24) = wA := ⟨_, rfl⟩
 have HBX := Lib.hid (boxes w nx0 nx A0 A1 n0 c0 n1 c1 hwA)
 have HWE := Lib.hid hwA
 have HN := Lib.hid (dn_new Unit HBX.out.1)
 obtain ⟨p, hp⟩ : ∃ p, wA.heap.size + 3 = p := ⟨_, rfl⟩
 rw [hp] at HN
 have HPE := Lib.hid hp
 clear hwA hp
 go_enter Tryz.func5, Tryz.ntmps5
 go_wp2_with fail
 rw [HWE.out]
 refine HN.out.mono ?_
 rintro e w1 ⟨rfl, ho1, hb1⟩
 have HNB := Lib.hid (RowsKeep.below hb1)
 have HO1 := Lib.hid ho1
 have HA := Lib.hid (pawake_any w1 (hT.below ho1.below) (hE.below ho1.below))
 clear ho1 hb1 HN
 go_wp2_with fail
 refine HA.out.mono ?_
 rintro e w2 ⟨rfl, hb2⟩
 have HO2 := Lib.hid (HO1.out.on hb2)
 have HK2 : Hid (RowsKeep wA w2) := HNB.out.trans (RowsKeep.below hb2)
 obtain ⟨⟨a0, a1⟩, b0, b1⟩ := HBX.out.2 w2 HK2.out
 clear hb2 HA HO1 HNB HPE HWE
 have HC := Lib.hid (rcheck_any w2 w.heap.size HO2.out.below.size A0 n0 c0 l0 (Lib.hid (HS0.out.keep HO2.out.below)) hn0 nx0)
 rw [HCP0.out] at HC
 go_wp2_with fail
 refine HC.out.mono ?_
 rintro e w3 ⟨rfl, hb⟩
 have HO3 := Lib.hid (HO2.out.on hb)
 have HK3 : Hid (RowsKeep wA w3) := HK2.out.trans (RowsKeep.below hb)
 clear hb HC HO2 a0 a1 b0 b1
 obtain ⟨⟨a0, a1⟩, b0, b1⟩ := HBX.out.2 w3 HK3.out
 clear HK2
 have HC := Lib.hid (rcheck_any w3 w.heap.size HO3.out.below.size A1 n1 c1 l (Lib.hid (HS1.out.keep HO3.out.below)) hn1 nx)
 rw [HCP1.out] at HC
 go_wp2_with fail
 refine HC.out.mono ?_
 rintro e w4 ⟨rfl, hb⟩
 have HO4 := Lib.hid (HO3.out.on hb)
 have HK4 : Hid (RowsKeep wA w4) := HK3.out.trans (RowsKeep.below hb)
 clear hb HC HO3 a0 a1 b0 b1
 obtain ⟨⟨a0, a1⟩, b0, b1⟩ := HBX.out.2 w4 HK4.out
 clear HK3
 have HA := Lib.hid (pawake_any w4 (hT.below HO4.out.below) (hE.below HO4.out.below))
 go_wp2_with fail
 refine HA.out.mono ?_
 rintro e wz ⟨rfl, hbz⟩
 have HZ := Lib.hid (bcall HO4.out.below hbz)
 clear hbz HA
 go_wp2_with fail
 go_ret
 exact ⟨rfl, HZ.out⟩
theorem pswaps_r2 (w : World) (hT : Tab w) (hE : Errs w) (nx0 : Int) (A0 : Option Addr) (n0 c0 : Nat) (l0 : List Sg) (HS0 : Hid (SegsIn w w.heap.size A0 n0 l0)) (hn0 : n0 ≤ 4398046511104) (nx : Int) (A1 : Option Addr) (n1 c1 : Nat) (l : List Sg) (HS1 : Hid (SegsIn w w.heap.size A1 n1 l)) (hn1 : n1 ≤ 4398046511104) (n fails loss : Int) (stop : Bool) (h0 : PtOk nx0 l0) (h1 : PtOk nx l) (h : n < 1) :
  Calls Tryz.prog 5 #[.agg #[.int .i64 nx0, .slice A0 n0 c0], .agg #[.int .i64 nx, .slice A1 n1 c1], .int .i64 n, .int .i64 fails, .int .i64 loss, .bool stop] w fun e w' => e = .returned (.bool true) ∧ Below w.heap.size w w' := by
 have HCP0 : Hid (checkP nx0 l0 = 0) := if_pos h0
 have HCP1 : Hid (checkP nx l = 0) := if_pos h1
 have q0 : decide (n < 1) = true := decide_eq_true h
 clear h h0 h1
 obtain ⟨wA, hwA⟩ : ∃ wA, (w.alloc (.cells #[.int .i64 nx0, .slice A0 n0 c0] 24)).alloc (.cells #[.int .i64 nx, .slice A1 n1 c1] 24) = wA := ⟨_, rfl⟩
 have HBX := Lib.hid (boxes w nx0 nx A0 A1 n0 c0 n1 c1 hwA)
 have HWE := Lib.hid hwA
 have HN := Lib.hid (dn_new Unit HBX.out.1)
 obtain ⟨p, hp⟩ : ∃ p, wA.heap.size + 3 = p := ⟨_, rfl⟩
 rw [hp] at HN
 have HPE := Lib.hid hp
 clear hwA hp
 go_enter Tryz.func5, Tryz.ntmps5
 go_wp2_with fail
 rw [HWE.out]
 refine HN.out.mono ?_
 rintro e w1 ⟨rfl, ho1, hb1⟩
 have HNB := Lib.hid (RowsKeep.below hb1)
 have HO1 := Lib.hid ho1
 have HA := Lib.hid (pawake_any w1 (hT.below ho1.below) (hE.below ho1.below))
 clear ho1 hb1 HN
 go_wp2_with fail
 refine HA.out.mono ?_
 rintro e w2 ⟨rfl, hb2⟩
 have HO2 := Lib.hid (HO1.out.on hb2)
 have HK2 : Hid (RowsKeep wA w2) := HNB.out.trans (RowsKeep.below hb2)
 obtain ⟨⟨a0, a1⟩, b0, b1⟩ := HBX.out.2 w2 HK2.out
 clear hb2 HA HO1 HNB HPE HWE
 have HC := Lib.hid (rcheck_any w2 w.heap.size HO2.out.below.size A0 n0 c0 l0 (Lib.hid (HS0.out.keep HO2.out.below)) hn0 nx0)
 rw [HCP0.out] at HC
 go_wp2_with fail
 refine HC.out.mono ?_
 rintro e w3 ⟨rfl, hb⟩
 have HO3 := Lib.hid (HO2.out.on hb)
 have HK3 : Hid (RowsKeep wA w3) := HK2.out.trans (RowsKeep.below hb)
 clear hb HC HO2 a0 a1 b0 b1
 obtain ⟨⟨a0, a1⟩, b0, b1⟩ := HBX.out.2 w3 HK3.out
 clear HK2
 have HC := Lib.hid (rcheck_any w3 w.heap.size HO3.out.below.size A1 n1 c1 l (Lib.hid (HS1.out.keep HO3.out.below)) hn1 nx)
 rw [HCP1.out] at HC
 go_wp2_with fail
 refine HC.out.mono ?_
 rintro e w4 ⟨rfl, hb⟩
 have HO4 := Lib.hid (HO3.out.on hb)
 have HK4 : Hid (RowsKeep wA w4) := HK3.out.trans (RowsKeep.below hb)
 clear hb HC HO3 a0 a1 b0 b1
 obtain ⟨⟨a0, a1⟩, b0, b1⟩ := HBX.out.2 w4 HK4.out
 clear HK3
 have HA := Lib.hid (pawake_any w4 (hT.below HO4.out.below) (hE.below HO4.out.below))
 go_wp2_with fail
 refine HA.out.mono ?_
 rintro e wz ⟨rfl, hbz⟩
 have HZ := Lib.hid (bcall HO4.out.below hbz)
 clear hbz HA
 go_wp2_with fail
 go_ret
 exact ⟨rfl, HZ.out⟩
theorem pswaps_r3 (w : World) (hT : Tab w) (hE : Errs w) (nx0 : Int) (A0 : Option Addr) (n0 c0 : Nat) (l0 : List Sg) (HS0 : Hid (SegsIn w w.heap.size A0 n0 l0)) (hn0 : n0 ≤ 4398046511104) (nx : Int) (A1 : Option Addr) (n1 c1 : Nat) (l : List Sg) (HS1 : Hid (SegsIn w w.heap.size A1 n1 l)) (hn1 : n1 ≤ 4398046511104) (n fails loss : Int) (stop : Bool) (h0 : PtOk nx0 l0) (h1 : PtOk nx l) (h : ¬ n < 1) (h2 : n ≥ 999999999) :
  Calls Tryz.prog 5 #[.agg #[.int .i64 nx0, .slice A0 n0 c0], .agg #[.int .i64 nx, .slice A1 n1 c1], .int .i64 n, .int .i64 fails, .int .i64 loss, .bool stop] w fun e w' => e = .returned (.bool true) ∧ Below w.heap.size w w' := by
 have HCP0 : Hid (checkP nx0 l0 = 0) := if_pos h0
 have HCP1 : Hid (checkP nx l = 0) := if_pos h1
 have q0 : decide (n < 1) = false := decide_eq_false h
 have q1 : decide (n ≥ 999999999) = true := decide_eq_true h2
 clear h h0 h1 h2
 obtain ⟨wA, hwA⟩ : ∃ wA, (w.alloc (.cells #[.int .i64 nx0, .slice A0 n0 c0] 24)).alloc (.cells #[.int .i64 nx, .slice A1 n1 c1] 24) = wA := ⟨_, rfl⟩
 have HBX := Lib.hid (boxes w nx0 nx A0 A1 n0 c0 n1 c1 hwA)
 have HWE := Lib.hid hwA
 have HN := Lib.hid (dn_new Unit HBX.out.1)
 obtain ⟨p, hp⟩ : ∃ p, wA.heap.size + 3 = p := ⟨_, rfl⟩
 rw [hp] at HN
 have HPE := Lib.hid hp
 clear hwA hp
 go_enter Tryz.func5, Tryz.ntmps5
 go_wp2_with fail
 rw [HWE.out]
 refine HN.out.mono ?_
 rintro e w1 ⟨rfl, ho1, hb1⟩
 have HNB := Lib.hid (RowsKeep.below hb1)
 have HO1 := Lib.hid ho1
 have HA := Lib.hid (pawake_any w1 (hT.below ho1.below) (hE.below ho1.below))
 clear ho1 hb1 HN
 go_wp2_with fail
 refine HA.out.mono ?_
 rintro e w2 ⟨rfl, hb2⟩
 have HO2 := Lib.hid (HO1.out.on hb2)
 have HK2 : Hid (RowsKeep wA w2) := HNB.out.trans (RowsKeep.below hb2)
 obtain ⟨⟨a0, a1⟩, b0, b1⟩ := HBX.out.2 w2 HK2.out
 clear hb2 HA HO1 HNB HPE HWE
 have HC := Lib.hid (rcheck_any w2 w.heap.size HO2.out.below.size A0 n0 c0 l0 (Lib.hid (HS0.out.keep HO2.out.below)) hn0 nx0)
 rw [HCP0.out] at HC
 go_wp2_with fail
 refine HC.out.mono ?_
 rintro e w3 ⟨rfl, hb⟩
 have HO3 := Lib.hid (HO2.out.on hb)
 have HK3 : Hid (RowsKeep wA w3) := HK2.out.trans (RowsKeep.below hb)
 clear hb HC HO2 a0 a1 b0 b1
 obtain ⟨⟨a0, a1⟩, b0, b1⟩ := HBX.out.2 w3 HK3.out
 clear HK2
 have HC := Lib.hid (rcheck_any w3 w.heap.size HO3.out.below.size A1 n1 c1 l (Lib.hid (HS1.out.keep HO3.out.below)) hn1 nx)
 rw [HCP1.out] at HC
 go_wp2_with fail
 refine HC.out.mono ?_
 rintro e w4 ⟨rfl, hb⟩
 have HO4 := Lib.hid (HO3.out.on hb)
 have HK4 : Hid (RowsKeep wA w4) := HK3.out.trans (RowsKeep.below hb)
 clear hb HC HO3 a0 a1 b0 b1
 obtain ⟨⟨a0, a1⟩, b0, b1⟩ := HBX.out.2 w4 HK4.out
 clear HK3
 have HA := Lib.hid (pawake_any w4 (hT.below HO4.out.below) (hE.below HO4.out.below))
 go_wp2_with fail
 refine HA.out.mono ?_
 rintro e wz ⟨rfl, hbz⟩
 have HZ := Lib.hid (bcall HO4.out.below hbz)
 clear hbz HA
 go_wp2_with fail
 go_ret
 exact ⟨rfl, HZ.out⟩
theorem pswaps_r4 (w : World) (hT : Tab w) (hE : Errs w) (nx0 : Int) (A0 : Option Addr) (n0 c0 : Nat) (l0 : List Sg) (HS0 : Hid (SegsIn w w.heap.size A0 n0 l0)) (hn0 : n0 ≤ 4398046511104) (nx : Int) (A1 : Option Addr) (n1 c1 : Nat) (l : List Sg) (HS1 : Hid (SegsIn w w.heap.size A1 n1 l)) (hn1 : n1 ≤ 4398046511104) (n fails loss : Int) (stop : Bool) (h0 : PtOk nx0 l0) (h1 : PtOk nx l) (h : ¬ n < 1) (h2 : ¬ n ≥ 999999999) (h3 : fails < 0) :
  Calls Tryz.prog 5 #[.agg #[.int .i64 nx0, .slice A0 n0 c0], .agg #[.int .i64 nx, .slice A1 n1 c1], .int .i64 n, .int .i64 fails, .int .i64 loss, .bool stop] w fun e w' => e = .returned (.bool true) ∧ Below w.heap.size w w' := by
 have HCP0 : Hid (checkP nx0 l0 = 0) := if_pos h0
 have HCP1 : Hid (checkP nx l = 0) := if_pos h1
 have q0 : decide (n < 1) = false := decide_eq_false h
 have q1 : decide (n ≥ 999999999) = false := decide_eq_false h2
 have q2 : decide (fails < 0) = true := decide_eq_true h3
 clear h h0 h1 h2 h3
 obtain ⟨wA, hwA⟩ : ∃ wA, (w.alloc (.cells #[.int .i64 nx0, .slice A0 n0 c0] 24)).alloc (.cells #[.int .i64 nx, .slice A1 n1 c1] 24) = wA := ⟨_, rfl⟩
 have HBX := Lib.hid (boxes w nx0 nx A0 A1 n0 c0 n1 c1 hwA)
 have HWE := Lib.hid hwA
 have HN := Lib.hid (dn_new Unit HBX.out.1)
 obtain ⟨p, hp⟩ : ∃ p, wA.heap.size + 3 = p := ⟨_, rfl⟩
 rw [hp] at HN
 have HPE := Lib.hid hp
 clear hwA hp
 go_enter Tryz.func5, Tryz.ntmps5
 go_wp2_with fail
 rw [HWE.out]
 refine HN.out.mono ?_
 rintro e w1 ⟨rfl, ho1, hb1⟩
 have HNB := Lib.hid (RowsKeep.below hb1)
 have HO1 := Lib.hid ho1
 have HA := Lib.hid (pawake_any w1 (hT.below ho1.below) (hE.below ho1.below))
 clear ho1 hb1 HN
 go_wp2_with fail
 refine HA.out.mono ?_
 rintro e w2 ⟨rfl, hb2⟩
 have HO2 := Lib.hid (HO1.out.on hb2)
 have HK2 : Hid (RowsKeep wA w2) := HNB.out.trans (RowsKeep.below hb2)
 obtain ⟨⟨a0, a1⟩, b0, b1⟩ := HBX.out.2 w2 HK2.out
 clear hb2 HA HO1 HNB HPE HWE
 have HC := Lib.hid (rcheck_any w2 w.heap.size HO2.out.below.size A0 n0 c0 l0 (Lib.hid (HS0.out.keep HO2.out.below)) hn0 nx0)
 rw [HCP0.out] at HC
 go_wp2_with fail
 refine HC.out.mono ?_
 rintro e w3 ⟨rfl, hb⟩
 have HO3 := Lib.hid (HO2.out.on hb)
 have HK3 : Hid (RowsKeep wA w3) := HK2.out.trans (RowsKeep.below hb)
 clear hb HC HO2 a0 a1 b0 b1
 obtain ⟨⟨a0, a1⟩, b0, b1⟩ := HBX.out.2 w3 HK3.out
 clear HK2
 have HC := Lib.hid (rcheck_any w3 w.heap.size HO3.out.below.size A1 n1 c1 l (Lib.hid (HS1.out.keep HO3.out.below)) hn1 nx)
 rw [HCP1.out] at HC
 go_wp2_with fail
 refine HC.out.mono ?_
 rintro e w4 ⟨rfl, hb⟩
 have HO4 := Lib.hid (HO3.out.on hb)
 have HK4 : Hid (RowsKeep wA w4) := HK3.out.trans (RowsKeep.below hb)
 clear hb HC HO3 a0 a1 b0 b1
 obtain ⟨⟨a0, a1⟩, b0, b1⟩ := HBX.out.2 w4 HK4.out
 clear HK3
 have HA := Lib.hid (pawake_any w4 (hT.below HO4.out.below) (hE.below HO4.out.below))
 go_wp2_with fail
 refine HA.out.mono ?_
 rintro e wz ⟨rfl, hbz⟩
 have HZ := Lib.hid (bcall HO4.out.below hbz)
 clear hbz HA
 go_wp2_with fail
 go_ret
 exact ⟨rfl, HZ.out⟩
theorem pswaps_stop (w : World) (hT : Tab w) (hE : Errs w) (nx0 : Int) (A0 : Option Addr) (n0 c0 : Nat) (l0 : List Sg) (HS0 : Hid (SegsIn w w.heap.size A0 n0 l0)) (hn0 : n0 ≤ 4398046511104) (nx : Int) (A1 : Option Addr) (n1 c1 : Nat) (l : List Sg) (HS1 : Hid (SegsIn w w.heap.size A1 n1 l)) (hn1 : n1 ≤ 4398046511104) (n fails loss : Int) (h0 : PtOk nx0 l0) (h1 : PtOk nx l) (hn : 1 ≤ n ∧ n + 1 ≤ 999999999) (hf : 0 ≤ fails) (hf63 : fails ≤ 9223372036854775807) :
  Calls Tryz.prog 5 #[.agg #[.int .i64 nx0, .slice A0 n0 c0], .agg #[.int .i64 nx, .slice A1 n1 c1], .int .i64 n, .int .i64 fails, .int .i64 loss, .bool true] w fun e w' => e = .returned (.bool true) ∧ Below w.heap.size w w' := by
 have HCP0 : Hid (checkP nx0 l0 = 0) := if_pos h0
 have HCP1 : Hid (checkP nx l = 0) := if_pos h1
 have q0 : decide (n < 1) = false := decide_eq_false (by omega)
 have q1 : decide (n ≥ 999999999) = false := decide_eq_false (by omega)
 have q2 : decide (fails < 0) = false := decide_eq_false (by omega)
 have HP0 := Lib.hid h0
 have HP1 := Lib.hid h1
 have HNN := Lib.hid hn
 have HFF := Lib.hid (show 0 ≤ fails ∧ fails ≤ 9223372036854775807 from ⟨hf, hf63⟩)
 have hw1 : IntKind.i64.wrap (n + 1) = n + 1 := IntWalk.i64_in _ (by omega)
 clear h0 h1 hn hf hf63
 obtain ⟨wA, hwA⟩ : ∃ wA, (w.alloc (.cells #[.int .i64 nx0, .slice A0 n0 c0] 24)).alloc (.cells #[.int .i64 nx, .slice A1 n1 c1] 24) = wA := ⟨_, rfl⟩
 have HBX := Lib.hid (boxes w nx0 nx A0 A1 n0 c0 n1 c1 hwA)
 have HWE := Lib.hid hwA
 have HN := Lib.hid (dn_new Unit HBX.out.1)
 obtain ⟨p, hp⟩ : ∃ p, wA.heap.size + 3 = p := ⟨_, rfl⟩
 rw [hp] at HN
 have HPE := Lib.hid hp
 clear hwA hp
 go_enter Tryz.func5, Tryz.ntmps5
 go_wp2_with fail
 rw [HWE.out]
 refine HN.out.mono ?_
 rintro e w1 ⟨rfl, ho1, hb1⟩
 have HNB := Lib.hid (RowsKeep.below hb1)
 have HO1 := Lib.hid ho1
 have HA := Lib.hid (pawake_any w1 (hT.below ho1.below) (hE.below ho1.below))
 clear ho1 hb1 HN
 go_wp2_with fail
 refine HA.out.mono ?_
 rintro e w2 ⟨rfl, hb2⟩
 have HO2 := Lib.hid (HO1.out.on hb2)
 have HK2 : Hid (RowsKeep wA w2) := HNB.out.trans (RowsKeep.below hb2)
 obtain ⟨⟨a0, a1⟩, b0, b1⟩ := HBX.out.2 w2 HK2.out
 clear hb2 HA HO1 HNB HPE HWE
 have HC := Lib.hid (rcheck_any w2 w.heap.size HO2.out.below.size A0 n0 c0 l0 (Lib.hid (HS0.out.keep HO2.out.below)) hn0 nx0)
 rw [HCP0.out] at HC
 go_wp2_with fail
 refine HC.out.mono ?_
 rintro e w3 ⟨rfl, hb⟩
 have HO3 := Lib.hid (HO2.out.on hb)
 have HK3 : Hid (RowsKeep wA w3) := HK2.out.trans (RowsKeep.below hb)
 clear hb HC HO2 a0 a1 b0 b1
 obtain ⟨⟨a0, a1⟩, b0, b1⟩ := HBX.out.2 w3 HK3.out
 clear HK2
 have HC := Lib.hid (rcheck_any w3 w.heap.size HO3.out.below.size A1 n1 c1 l (Lib.hid (HS1.out.keep HO3.out.below)) hn1 nx)
 rw [HCP1.out] at HC
 go_wp2_with fail
 refine HC.out.mono ?_
 rintro e w4 ⟨rfl, hb⟩
 have HO4 := Lib.hid (HO3.out.on hb)
 have HK4 : Hid (RowsKeep wA w4) := HK3.out.trans (RowsKeep.below hb)
 clear hb HC HO3 a0 a1 b0 b1
 obtain ⟨⟨a0, a1⟩, b0, b1⟩ := HBX.out.2 w4 HK4.out
 clear HK3
 obtain ⟨SD, hSD⟩ : ∃ SD, saveD (DS.new Unit) n nx0 l0 = SD := ⟨_, rfl⟩
 have HSV := Lib.hid (save_any w w4 p (DS.new Unit) HO4.out hT 0 0 (by omega) (small_new Unit) (good_new Unit) (by omega) n (by have := HNN.out; omega) w.heap.size HO4.out.below.size A0 n0 c0 l0 (Lib.hid (HS0.out.keep HO4.out.below)) hn0 nx0)
 have HFS := Lib.hid (save_first Unit (n := n) (nx := nx0) (l := l0) (by have := HNN.out; omega) HP0.out)
 have HSM : Hid (SD.1.small 5) := by show SD.1.small 5; rw [← hSD]; exact saveD_small (by have := HNN.out; omega) HP0.out (small_new Unit)
 have HSG : Hid (SD.1.good 180000000000) := by show SD.1.good _; rw [← hSD]; exact (saveD_good (by have := HNN.out; omega) HP0.out (good_new Unit)).more (by omega)
 rw [hSD] at HSV HFS
 rw [HFS.out.1] at HSV
 clear hSD
 go_wp2_with fail
 refine HSV.out.mono ?_
 rintro e w5 ⟨rfl, ho5, hr5⟩
 have HO5 := Lib.hid ho5
 have HK5 : Hid (RowsKeep wA w5) := HK4.out.trans hr5
 clear ho5 hr5 HSV HO4 HK4 a0 a1 b0 b1
 obtain ⟨⟨a0, a1⟩, b0, b1⟩ := HBX.out.2 w5 HK5.out
 have HAR := Lib.hid (dr_arm HO5.out fails 15 HFF.out.1 (by omega))
 go_wp2_with fail
 refine HAR.out.mono ?_
 rintro e w6 ⟨rfl, ho6, hr6⟩
 have HO6 := Lib.hid ho6
 have HK6 : Hid (RowsKeep wA w6) := HK5.out.trans hr6
 have HSM6 := Lib.hid (arm_small HSM.out HFF.out 15)
 have HSG6 : Hid (DS.good 180000000000 { SD.1 with armed := fails, fault := 15 }) := HSG.out.of_files rfl
 have HSW : Hid (Swp n nx0 nx l0 l fails 15 (saveD { SD.1 with armed := fails, fault := 15 } (n + 1) nx l)) := by
  obtain ⟨_, hA, f, g, L, v, hk, hg, hon⟩ := HFS.out
  exact swaps_plain (dv_step (D' := { SD.1 with armed := fails, fault := 15 }) v rfl rfl rfl rfl) HNN.out HP0.out HP1.out hk hg hon ⟨rfl, rfl, hA.2.2⟩ HFF.out.1 (by decide)
 obtain ⟨D6, hD6⟩ : ∃ D6, ({ SD.1 with armed := fails, fault := 15 } : DS Unit) = D6 := ⟨_, rfl⟩
 rw [hD6] at HO6 HSM6 HSG6 HSW
 clear hD6 ho6 hr6 HAR HO5 HK5 HFS HSM HSG a0 a1 b0 b1
 obtain ⟨⟨a0, a1⟩, b0, b1⟩ := HBX.out.2 w6 HK6.out
 have HSV := Lib.hid (save_any w w6 p D6 HO6.out hT 5 180000000000 (by omega) HSM6.out HSG6.out (by omega) (n + 1) (by have := HNN.out; omega) w.heap.size HO6.out.below.size A1 n1 c1 l (Lib.hid (HS1.out.keep HO6.out.below)) hn1 nx)
 have HSM7 := Lib.hid (saveD_small (n := n + 1) (by have := HNN.out; omega) HP1.out HSM6.out)
 have HSG7 := Lib.hid (saveD_good (n := n + 1) (by have := HNN.out; omega) HP1.out HSG6.out)
 obtain ⟨R, hR⟩ : ∃ R, saveD D6 (n + 1) nx l = R := ⟨_, rfl⟩
 rw [hR] at HSV HSW HSM7 HSG7
 clear hR
 go_wp2_with fail
 refine HSV.out.mono ?_
 rintro e w7 ⟨rfl, ho7, hr7⟩
 have HO7 := Lib.hid ho7
 have HK7 : Hid (RowsKeep wA w7) := HK6.out.trans hr7
 have HSK7 := Lib.hid (own_strk ho7)
 clear ho7 hr7 HSV HO6 HK6 HSM6 HSG6 a0 a1 b0 b1
 obtain ⟨⟨a0, a1⟩, b0, b1⟩ := HBX.out.2 w7 HK7.out
 have HFT : Hid (R.1.fits) := HSM7.out.fits (by omega)
 have HRS := Lib.hid (fun (V : World) (h : Own w V p R.1) => dr_restart h loss (by have := HFT.out.c1; omega) (HSG7.out.sure (by omega)))
 have HRF : Hid ((R.1.restart loss).fits ∧ (R.1.restart loss).down = false) := ⟨restart_fits HSM7.out (by omega) loss, rfl⟩
 have HRG := Lib.hid (restart_good HSG7.out loss)
 have HRM : Hid (∀ V, Own w V p (R.1.restart loss) → ∀ s ∈ strKeys (R.1.restart loss).names, s.length ≤ 1000) := fun V ho => HSW.out.rnm loss _ HSG7.out HSK7.out (own_strk ho)
 have HRL : Hid (∀ V, Own w V p (R.1.restart loss) → ∀ ss, ss.Perm (strKeys (R.1.restart loss).names) → latestD (R.1.restart loss) ss = some (n + 1, nx, l) ∨ (R.2 ≠ 0 ∧ latestD (R.1.restart loss) ss = some (n, nx0, l0))) := fun V ho => HSW.out.rlt loss _ HSG7.out HSK7.out (own_strk ho)
 obtain ⟨DR, hDR⟩ : ∃ DR, R.1.restart loss = DR := ⟨_, rfl⟩
 rw [hDR] at HRS HRF HRG HRM HRL
 clear hDR
 have fn1 : (n + 1 == n) = false := by simp; omega
 have fn2 : (n + 1 != n) = true := by simp; omega
 have fn3 : (n == n + 1) = false := by simp; omega
 have fn4 : (n != n + 1) = true := by simp; omega
 rcases HSW.out.fin with ⟨hz, h5⟩ | ⟨hz, h5⟩
 ·have q3 : decide (fails ≥ 5) = true := decide_eq_true h5
  have HRZ := Lib.hid hz
  rw [hz]
  clear hz h5
  go_wp2_with fail
  refine (HRS.out _ HO7.out).mono ?_
  rintro e y8 ⟨rfl, ho8, hr8⟩
  have HO8 := Lib.hid ho8
  have HK8 : Hid (RowsKeep wA y8) := HK7.out.trans hr8
  clear ho8 hr8
  obtain ⟨⟨a0, a1⟩, b0, b1⟩ := HBX.out.2 _ HK8.out
  have HLT := Lib.hid (latest_any w y8 p DR HO8.out hT hE HRF.out.1 HRF.out.2 (HRG.out.more (by omega)) (HRM.out _ HO8.out))
  go_wp2_with fail
  refine HLT.out.mono ?_
  rintro e vz ⟨ss, hss, hpost, ho, hb⟩
  have HOLz := Lib.hid ho
  have HKLz : Hid (RowsKeep wA vz) := HK8.out.trans (RowsKeep.below hb)
  have HSS := Lib.hid hss
  clear hss ho hb HLT a0 a1 b0 b1
  rcases HRL.out _ HO8.out ss HSS.out with hlt | ⟨hlt, _⟩
  rotate_left
  ·exact absurd HRZ.out hlt
  rw [hlt] at hpost
  clear hlt
  obtain ⟨A9, n9, c9, rfl, hs9, hn9⟩ := hpost
  have hbq := bnew (brefl vz) (.cells #[.int .i64 nx, .slice A9 n9 c9] 24)
  have HS9 := Lib.hid (hs9.keep hbq)
  have HOQ := Lib.hid (HOLz.out.on hbq)
  have HKQ : Hid (RowsKeep wA (vz.alloc (.cells #[.int .i64 nx, .slice A9 n9 c9] 24))) := HKLz.out.trans (RowsKeep.below hbq)
  obtain ⟨⟨a0, a1⟩, b0, b1⟩ := HBX.out.2 _ HKQ.out
  obtain ⟨r0, r1⟩ := read_cells (W := w) (brefl (vz.alloc (.cells #[.int .i64 nx, .slice A9 n9 c9] 24)))
  have HSA := Lib.hid (psame_self _ (vz.alloc (.cells #[.int .i64 nx, .slice A9 n9 c9] 24)).heap.size (Nat.le_refl _) A9 A1 n9 c9 n1 c1 l (HS9.out.more hbq.size) ((HS1.out.keep HOQ.out.below).more HOQ.out.below.size) (by omega) hn1 nx)
  obtain ⟨wqz, hwq⟩ : ∃ wq, vz.alloc (.cells #[.int .i64 nx, .slice A9 n9 c9] 24) = wq := ⟨_, rfl⟩
  rw [hwq] at HSA HS9 HOQ HKQ
  have HWQ := Lib.hid hwq
  clear hs9 hbq hwq
  go_wp2_with fail
  first | rw [HWQ.out] | skip
  refine HSA.out.mono ?_
  rintro e xz ⟨rfl, hx⟩
  have HOXz := Lib.hid (HOQ.out.on hx)
  have HKXz : Hid (RowsKeep wA xz) := HKQ.out.trans (RowsKeep.below hx)
  clear hx HSA HS9 HWQ a0 a1 b0 b1 r0 r1
  go_wp2_with fail
  go_ret
  exact ⟨rfl, HOXz.out.below⟩
 ·have q3 : decide (fails ≥ 5) = false := decide_eq_false (by omega)
  have HRZ := Lib.hid hz
  rw [hz]
  clear hz h5
  go_wp2_with fail
  refine (HRS.out _ HO7.out).mono ?_
  rintro e y8 ⟨rfl, ho8, hr8⟩
  have HO8 := Lib.hid ho8
  have HK8 : Hid (RowsKeep wA y8) := HK7.out.trans hr8
  clear ho8 hr8
  obtain ⟨⟨a0, a1⟩, b0, b1⟩ := HBX.out.2 _ HK8.out
  have HLT := Lib.hid (latest_any w y8 p DR HO8.out hT hE HRF.out.1 HRF.out.2 (HRG.out.more (by omega)) (HRM.out _ HO8.out))
  go_wp2_with fail
  refine HLT.out.mono ?_
  rintro e vz ⟨ss, hss, hpost, ho, hb⟩
  have HOLz := Lib.hid ho
  have HKLz : Hid (RowsKeep wA vz) := HK8.out.trans (RowsKeep.below hb)
  have HSS := Lib.hid hss
  clear hss ho hb HLT a0 a1 b0 b1
  rcases HRL.out _ HO8.out ss HSS.out with hlt | ⟨_, hlt⟩
  ·rw [hlt] at hpost
   clear hlt
   obtain ⟨A9, n9, c9, rfl, hs9, hn9⟩ := hpost
   have hbq := bnew (brefl vz) (.cells #[.int .i64 nx, .slice A9 n9 c9] 24)
   have HS9 := Lib.hid (hs9.keep hbq)
   have HOQ := Lib.hid (HOLz.out.on hbq)
   have HKQ : Hid (RowsKeep wA (vz.alloc (.cells #[.int .i64 nx, .slice A9 n9 c9] 24))) := HKLz.out.trans (RowsKeep.below hbq)
   obtain ⟨⟨a0, a1⟩, b0, b1⟩ := HBX.out.2 _ HKQ.out
   obtain ⟨r0, r1⟩ := read_cells (W := w) (brefl (vz.alloc (.cells #[.int .i64 nx, .slice A9 n9 c9] 24)))
   have HSA := Lib.hid (psame_self _ (vz.alloc (.cells #[.int .i64 nx, .slice A9 n9 c9] 24)).heap.size (Nat.le_refl _) A9 A1 n9 c9 n1 c1 l (HS9.out.more hbq.size) ((HS1.out.keep HOQ.out.below).more HOQ.out.below.size) (by omega) hn1 nx)
   obtain ⟨wqz, hwq⟩ : ∃ wq, vz.alloc (.cells #[.int .i64 nx, .slice A9 n9 c9] 24) = wq := ⟨_, rfl⟩
   rw [hwq] at HSA HS9 HOQ HKQ
   have HWQ := Lib.hid hwq
   clear hs9 hbq hwq
   go_wp2_with fail
   first | rw [HWQ.out] | skip
   refine HSA.out.mono ?_
   rintro e xz ⟨rfl, hx⟩
   have HOXz := Lib.hid (HOQ.out.on hx)
   have HKXz : Hid (RowsKeep wA xz) := HKQ.out.trans (RowsKeep.below hx)
   clear hx HSA HS9 HWQ a0 a1 b0 b1 r0 r1
   go_wp2_with fail
   go_ret
   exact ⟨rfl, HOXz.out.below⟩
  ·rw [hlt] at hpost
   clear hlt
   obtain ⟨A9, n9, c9, rfl, hs9, hn9⟩ := hpost
   have hbq := bnew (brefl vz) (.cells #[.int .i64 nx0, .slice A9 n9 c9] 24)
   have HS9 := Lib.hid (hs9.keep hbq)
   have HOQ := Lib.hid (HOLz.out.on hbq)
   have HKQ : Hid (RowsKeep wA (vz.alloc (.cells #[.int .i64 nx0, .slice A9 n9 c9] 24))) := HKLz.out.trans (RowsKeep.below hbq)
   obtain ⟨⟨a0, a1⟩, b0, b1⟩ := HBX.out.2 _ HKQ.out
   obtain ⟨r0, r1⟩ := read_cells (W := w) (brefl (vz.alloc (.cells #[.int .i64 nx0, .slice A9 n9 c9] 24)))
   have HSA := Lib.hid (psame_self _ (vz.alloc (.cells #[.int .i64 nx0, .slice A9 n9 c9] 24)).heap.size (Nat.le_refl _) A9 A0 n9 c9 n0 c0 l0 (HS9.out.more hbq.size) ((HS0.out.keep HOQ.out.below).more HOQ.out.below.size) (by omega) hn0 nx0)
   obtain ⟨wqz, hwq⟩ : ∃ wq, vz.alloc (.cells #[.int .i64 nx0, .slice A9 n9 c9] 24) = wq := ⟨_, rfl⟩
   rw [hwq] at HSA HS9 HOQ HKQ
   have HWQ := Lib.hid hwq
   clear hs9 hbq hwq
   go_wp2_with fail
   first | rw [HWQ.out] | skip
   refine HSA.out.mono ?_
   rintro e xz ⟨rfl, hx⟩
   have HOXz := Lib.hid (HOQ.out.on hx)
   have HKXz : Hid (RowsKeep wA xz) := HKQ.out.trans (RowsKeep.below hx)
   clear hx HSA HS9 HWQ a0 a1 b0 b1 r0 r1
   go_wp2_with fail
   go_ret
   exact ⟨rfl, HOXz.out.below⟩
theorem pswaps_go (w : World) (hT : Tab w) (hE : Errs w) (nx0 : Int) (A0 : Option Addr) (n0 c0 : Nat) (l0 : List Sg) (HS0 : Hid (SegsIn w w.heap.size A0 n0 l0)) (hn0 : n0 ≤ 4398046511104) (nx : Int) (A1 : Option Addr) (n1 c1 : Nat) (l : List Sg) (HS1 : Hid (SegsIn w w.heap.size A1 n1 l)) (hn1 : n1 ≤ 4398046511104) (n fails loss : Int) (h0 : PtOk nx0 l0) (h1 : PtOk nx l) (hn : 1 ≤ n ∧ n + 1 ≤ 999999999) (hf : 0 ≤ fails) (hf63 : fails ≤ 9223372036854775807) :
  Calls Tryz.prog 5 #[.agg #[.int .i64 nx0, .slice A0 n0 c0], .agg #[.int .i64 nx, .slice A1 n1 c1], .int .i64 n, .int .i64 fails, .int .i64 loss, .bool false] w fun e w' => e = .returned (.bool true) ∧ Below w.heap.size w w' := by
 have HCP0 : Hid (checkP nx0 l0 = 0) := if_pos h0
 have HCP1 : Hid (checkP nx l = 0) := if_pos h1
 have q0 : decide (n < 1) = false := decide_eq_false (by omega)
 have q1 : decide (n ≥ 999999999) = false := decide_eq_false (by omega)
 have q2 : decide (fails < 0) = false := decide_eq_false (by omega)
 have HP0 := Lib.hid h0
 have HP1 := Lib.hid h1
 have HNN := Lib.hid hn
 have HFF := Lib.hid (show 0 ≤ fails ∧ fails ≤ 9223372036854775807 from ⟨hf, hf63⟩)
 have hw1 : IntKind.i64.wrap (n + 1) = n + 1 := IntWalk.i64_in _ (by omega)
 clear h0 h1 hn hf hf63
 obtain ⟨wA, hwA⟩ : ∃ wA, (w.alloc (.cells #[.int .i64 nx0, .slice A0 n0 c0] 24)).alloc (.cells #[.int .i64 nx, .slice A1 n1 c1] 24) = wA := ⟨_, rfl⟩
 have HBX := Lib.hid (boxes w nx0 nx A0 A1 n0 c0 n1 c1 hwA)
 have HWE := Lib.hid hwA
 have HN := Lib.hid (dn_new Unit HBX.out.1)
 obtain ⟨p, hp⟩ : ∃ p, wA.heap.size + 3 = p := ⟨_, rfl⟩
 rw [hp] at HN
 have HPE := Lib.hid hp
 clear hwA hp
 go_enter Tryz.func5, Tryz.ntmps5
 go_wp2_with fail
 rw [HWE.out]
 refine HN.out.mono ?_
 rintro e w1 ⟨rfl, ho1, hb1⟩
 have HNB := Lib.hid (RowsKeep.below hb1)
 have HO1 := Lib.hid ho1
 have HA := Lib.hid (pawake_any w1 (hT.below ho1.below) (hE.below ho1.below))
 clear ho1 hb1 HN
 go_wp2_with fail
 refine HA.out.mono ?_
 rintro e w2 ⟨rfl, hb2⟩
 have HO2 := Lib.hid (HO1.out.on hb2)
 have HK2 : Hid (RowsKeep wA w2) := HNB.out.trans (RowsKeep.below hb2)
 obtain ⟨⟨a0, a1⟩, b0, b1⟩ := HBX.out.2 w2 HK2.out
 clear hb2 HA HO1 HNB HPE HWE
 have HC := Lib.hid (rcheck_any w2 w.heap.size HO2.out.below.size A0 n0 c0 l0 (Lib.hid (HS0.out.keep HO2.out.below)) hn0 nx0)
 rw [HCP0.out] at HC
 go_wp2_with fail
 refine HC.out.mono ?_
 rintro e w3 ⟨rfl, hb⟩
 have HO3 := Lib.hid (HO2.out.on hb)
 have HK3 : Hid (RowsKeep wA w3) := HK2.out.trans (RowsKeep.below hb)
 clear hb HC HO2 a0 a1 b0 b1
 obtain ⟨⟨a0, a1⟩, b0, b1⟩ := HBX.out.2 w3 HK3.out
 clear HK2
 have HC := Lib.hid (rcheck_any w3 w.heap.size HO3.out.below.size A1 n1 c1 l (Lib.hid (HS1.out.keep HO3.out.below)) hn1 nx)
 rw [HCP1.out] at HC
 go_wp2_with fail
 refine HC.out.mono ?_
 rintro e w4 ⟨rfl, hb⟩
 have HO4 := Lib.hid (HO3.out.on hb)
 have HK4 : Hid (RowsKeep wA w4) := HK3.out.trans (RowsKeep.below hb)
 clear hb HC HO3 a0 a1 b0 b1
 obtain ⟨⟨a0, a1⟩, b0, b1⟩ := HBX.out.2 w4 HK4.out
 clear HK3
 obtain ⟨SD, hSD⟩ : ∃ SD, saveD (DS.new Unit) n nx0 l0 = SD := ⟨_, rfl⟩
 have HSV := Lib.hid (save_any w w4 p (DS.new Unit) HO4.out hT 0 0 (by omega) (small_new Unit) (good_new Unit) (by omega) n (by have := HNN.out; omega) w.heap.size HO4.out.below.size A0 n0 c0 l0 (Lib.hid (HS0.out.keep HO4.out.below)) hn0 nx0)
 have HFS := Lib.hid (save_first Unit (n := n) (nx := nx0) (l := l0) (by have := HNN.out; omega) HP0.out)
 have HSM : Hid (SD.1.small 5) := by show SD.1.small 5; rw [← hSD]; exact saveD_small (by have := HNN.out; omega) HP0.out (small_new Unit)
 have HSG : Hid (SD.1.good 180000000000) := by show SD.1.good _; rw [← hSD]; exact (saveD_good (by have := HNN.out; omega) HP0.out (good_new Unit)).more (by omega)
 rw [hSD] at HSV HFS
 rw [HFS.out.1] at HSV
 clear hSD
 go_wp2_with fail
 refine HSV.out.mono ?_
 rintro e w5 ⟨rfl, ho5, hr5⟩
 have HO5 := Lib.hid ho5
 have HK5 : Hid (RowsKeep wA w5) := HK4.out.trans hr5
 clear ho5 hr5 HSV HO4 HK4 a0 a1 b0 b1
 obtain ⟨⟨a0, a1⟩, b0, b1⟩ := HBX.out.2 w5 HK5.out
 have HAR := Lib.hid (dr_arm HO5.out fails 14 HFF.out.1 (by omega))
 go_wp2_with fail
 refine HAR.out.mono ?_
 rintro e w6 ⟨rfl, ho6, hr6⟩
 have HO6 := Lib.hid ho6
 have HK6 : Hid (RowsKeep wA w6) := HK5.out.trans hr6
 have HSM6 := Lib.hid (arm_small HSM.out HFF.out 14)
 have HSG6 : Hid (DS.good 180000000000 { SD.1 with armed := fails, fault := 14 }) := HSG.out.of_files rfl
 have HSW : Hid (Swp n nx0 nx l0 l fails 14 (saveD { SD.1 with armed := fails, fault := 14 } (n + 1) nx l)) := by
  obtain ⟨_, hA, f, g, L, v, hk, hg, hon⟩ := HFS.out
  exact swaps_plain (dv_step (D' := { SD.1 with armed := fails, fault := 14 }) v rfl rfl rfl rfl) HNN.out HP0.out HP1.out hk hg hon ⟨rfl, rfl, hA.2.2⟩ HFF.out.1 (by decide)
 obtain ⟨D6, hD6⟩ : ∃ D6, ({ SD.1 with armed := fails, fault := 14 } : DS Unit) = D6 := ⟨_, rfl⟩
 rw [hD6] at HO6 HSM6 HSG6 HSW
 clear hD6 ho6 hr6 HAR HO5 HK5 HFS HSM HSG a0 a1 b0 b1
 obtain ⟨⟨a0, a1⟩, b0, b1⟩ := HBX.out.2 w6 HK6.out
 have HSV := Lib.hid (save_any w w6 p D6 HO6.out hT 5 180000000000 (by omega) HSM6.out HSG6.out (by omega) (n + 1) (by have := HNN.out; omega) w.heap.size HO6.out.below.size A1 n1 c1 l (Lib.hid (HS1.out.keep HO6.out.below)) hn1 nx)
 have HSM7 := Lib.hid (saveD_small (n := n + 1) (by have := HNN.out; omega) HP1.out HSM6.out)
 have HSG7 := Lib.hid (saveD_good (n := n + 1) (by have := HNN.out; omega) HP1.out HSG6.out)
 obtain ⟨R, hR⟩ : ∃ R, saveD D6 (n + 1) nx l = R := ⟨_, rfl⟩
 rw [hR] at HSV HSW HSM7 HSG7
 clear hR
 go_wp2_with fail
 refine HSV.out.mono ?_
 rintro e w7 ⟨rfl, ho7, hr7⟩
 have HO7 := Lib.hid ho7
 have HK7 : Hid (RowsKeep wA w7) := HK6.out.trans hr7
 have HSK7 := Lib.hid (own_strk ho7)
 clear ho7 hr7 HSV HO6 HK6 HSM6 HSG6 a0 a1 b0 b1
 obtain ⟨⟨a0, a1⟩, b0, b1⟩ := HBX.out.2 w7 HK7.out
 have HFT : Hid (R.1.fits) := HSM7.out.fits (by omega)
 have HRS := Lib.hid (fun (V : World) (h : Own w V p R.1) => dr_restart h loss (by have := HFT.out.c1; omega) (HSG7.out.sure (by omega)))
 have HRF : Hid ((R.1.restart loss).fits ∧ (R.1.restart loss).down = false) := ⟨restart_fits HSM7.out (by omega) loss, rfl⟩
 have HRG := Lib.hid (restart_good HSG7.out loss)
 have HRM : Hid (∀ V, Own w V p (R.1.restart loss) → ∀ s ∈ strKeys (R.1.restart loss).names, s.length ≤ 1000) := fun V ho => HSW.out.rnm loss _ HSG7.out HSK7.out (own_strk ho)
 have HRL : Hid (∀ V, Own w V p (R.1.restart loss) → ∀ ss, ss.Perm (strKeys (R.1.restart loss).names) → latestD (R.1.restart loss) ss = some (n + 1, nx, l) ∨ (R.2 ≠ 0 ∧ latestD (R.1.restart loss) ss = some (n, nx0, l0))) := fun V ho => HSW.out.rlt loss _ HSG7.out HSK7.out (own_strk ho)
 obtain ⟨DR, hDR⟩ : ∃ DR, R.1.restart loss = DR := ⟨_, rfl⟩
 rw [hDR] at HRS HRF HRG HRM HRL
 clear hDR
 have fn1 : (n + 1 == n) = false := by simp; omega
 have fn2 : (n + 1 != n) = true := by simp; omega
 have fn3 : (n == n + 1) = false := by simp; omega
 have fn4 : (n != n + 1) = true := by simp; omega
 rcases HSW.out.fin with ⟨hz, h5⟩ | ⟨hz, h5⟩
 ·have q3 : decide (fails ≥ 5) = true := decide_eq_true h5
  have HRZ := Lib.hid hz
  rw [hz]
  clear hz h5
  have HDN : Hid (R.1.down = false) := HSW.out.dn (.inl HRZ.out)
  have HLT := Lib.hid (latest_any w w7 p R.1 HO7.out hT hE HFT.out HDN.out (HSG7.out.more (by omega)) (HSW.out.nms HSK7.out))
  go_wp2_with fail
  refine HLT.out.mono ?_
  rintro e vy ⟨ss, hss, hpost, ho, hb⟩
  have HOLy := Lib.hid ho
  have HKLy : Hid (RowsKeep wA vy) := HK7.out.trans (RowsKeep.below hb)
  have HSS := Lib.hid hss
  clear hss ho hb HLT a0 a1 b0 b1
  rcases HSW.out.lat HSK7.out HDN.out ss HSS.out with hlt | ⟨hlt, _⟩
  rotate_left
  ·exact absurd HRZ.out hlt
  rw [hlt] at hpost
  clear hlt
  obtain ⟨A9, n9, c9, rfl, hs9, hn9⟩ := hpost
  have hbq := bnew (brefl vy) (.cells #[.int .i64 nx, .slice A9 n9 c9] 24)
  have HS9 := Lib.hid (hs9.keep hbq)
  have HOQ := Lib.hid (HOLy.out.on hbq)
  have HKQ : Hid (RowsKeep wA (vy.alloc (.cells #[.int .i64 nx, .slice A9 n9 c9] 24))) := HKLy.out.trans (RowsKeep.below hbq)
  obtain ⟨⟨a0, a1⟩, b0, b1⟩ := HBX.out.2 _ HKQ.out
  obtain ⟨r0, r1⟩ := read_cells (W := w) (brefl (vy.alloc (.cells #[.int .i64 nx, .slice A9 n9 c9] 24)))
  have HSA := Lib.hid (psame_self _ (vy.alloc (.cells #[.int .i64 nx, .slice A9 n9 c9] 24)).heap.size (Nat.le_refl _) A9 A1 n9 c9 n1 c1 l (HS9.out.more hbq.size) ((HS1.out.keep HOQ.out.below).more HOQ.out.below.size) (by omega) hn1 nx)
  obtain ⟨wqy, hwq⟩ : ∃ wq, vy.alloc (.cells #[.int .i64 nx, .slice A9 n9 c9] 24) = wq := ⟨_, rfl⟩
  rw [hwq] at HSA HS9 HOQ HKQ
  have HWQ := Lib.hid hwq
  clear hs9 hbq hwq
  go_wp2_with fail
  first | rw [HWQ.out] | skip
  refine HSA.out.mono ?_
  rintro e xy ⟨rfl, hx⟩
  have HOXy := Lib.hid (HOQ.out.on hx)
  have HKXy : Hid (RowsKeep wA xy) := HKQ.out.trans (RowsKeep.below hx)
  clear hx HSA HS9 HWQ a0 a1 b0 b1 r0 r1
  go_wp2_with fail
  refine (HRS.out _ HOXy.out).mono ?_
  rintro e y8 ⟨rfl, ho8, hr8⟩
  have HO8 := Lib.hid ho8
  have HK8 : Hid (RowsKeep wA y8) := HKXy.out.trans hr8
  clear ho8 hr8
  obtain ⟨⟨a0, a1⟩, b0, b1⟩ := HBX.out.2 _ HK8.out
  have HLT := Lib.hid (latest_any w y8 p DR HO8.out hT hE HRF.out.1 HRF.out.2 (HRG.out.more (by omega)) (HRM.out _ HO8.out))
  go_wp2_with fail
  refine HLT.out.mono ?_
  rintro e vz ⟨ss, hss, hpost, ho, hb⟩
  have HOLz := Lib.hid ho
  have HKLz : Hid (RowsKeep wA vz) := HK8.out.trans (RowsKeep.below hb)
  have HSS := Lib.hid hss
  clear hss ho hb HLT a0 a1 b0 b1
  rcases HRL.out _ HO8.out ss HSS.out with hlt | ⟨hlt, _⟩
  rotate_left
  ·exact absurd HRZ.out hlt
  rw [hlt] at hpost
  clear hlt
  obtain ⟨A9, n9, c9, rfl, hs9, hn9⟩ := hpost
  have hbq := bnew (brefl vz) (.cells #[.int .i64 nx, .slice A9 n9 c9] 24)
  have HS9 := Lib.hid (hs9.keep hbq)
  have HOQ := Lib.hid (HOLz.out.on hbq)
  have HKQ : Hid (RowsKeep wA (vz.alloc (.cells #[.int .i64 nx, .slice A9 n9 c9] 24))) := HKLz.out.trans (RowsKeep.below hbq)
  obtain ⟨⟨a0, a1⟩, b0, b1⟩ := HBX.out.2 _ HKQ.out
  obtain ⟨r0, r1⟩ := read_cells (W := w) (brefl (vz.alloc (.cells #[.int .i64 nx, .slice A9 n9 c9] 24)))
  have HSA := Lib.hid (psame_self _ (vz.alloc (.cells #[.int .i64 nx, .slice A9 n9 c9] 24)).heap.size (Nat.le_refl _) A9 A1 n9 c9 n1 c1 l (HS9.out.more hbq.size) ((HS1.out.keep HOQ.out.below).more HOQ.out.below.size) (by omega) hn1 nx)
  obtain ⟨wqz, hwq⟩ : ∃ wq, vz.alloc (.cells #[.int .i64 nx, .slice A9 n9 c9] 24) = wq := ⟨_, rfl⟩
  rw [hwq] at HSA HS9 HOQ HKQ
  have HWQ := Lib.hid hwq
  clear hs9 hbq hwq
  go_wp2_with fail
  first | rw [HWQ.out] | skip
  refine HSA.out.mono ?_
  rintro e xz ⟨rfl, hx⟩
  have HOXz := Lib.hid (HOQ.out.on hx)
  have HKXz : Hid (RowsKeep wA xz) := HKQ.out.trans (RowsKeep.below hx)
  clear hx HSA HS9 HWQ a0 a1 b0 b1 r0 r1
  go_wp2_with fail
  go_ret
  exact ⟨rfl, HOXz.out.below⟩
 ·have q3 : decide (fails ≥ 5) = false := decide_eq_false (by omega)
  have HRZ := Lib.hid hz
  rw [hz]
  clear hz h5
  have HDN : Hid (R.1.down = false) := HSW.out.dn (.inr rfl)
  have HLT := Lib.hid (latest_any w w7 p R.1 HO7.out hT hE HFT.out HDN.out (HSG7.out.more (by omega)) (HSW.out.nms HSK7.out))
  go_wp2_with fail
  refine HLT.out.mono ?_
  rintro e vy ⟨ss, hss, hpost, ho, hb⟩
  have HOLy := Lib.hid ho
  have HKLy : Hid (RowsKeep wA vy) := HK7.out.trans (RowsKeep.below hb)
  have HSS := Lib.hid hss
  clear hss ho hb HLT a0 a1 b0 b1
  rcases HSW.out.lat HSK7.out HDN.out ss HSS.out with hlt | ⟨_, hlt⟩
  ·rw [hlt] at hpost
   clear hlt
   obtain ⟨A9, n9, c9, rfl, hs9, hn9⟩ := hpost
   have hbq := bnew (brefl vy) (.cells #[.int .i64 nx, .slice A9 n9 c9] 24)
   have HS9 := Lib.hid (hs9.keep hbq)
   have HOQ := Lib.hid (HOLy.out.on hbq)
   have HKQ : Hid (RowsKeep wA (vy.alloc (.cells #[.int .i64 nx, .slice A9 n9 c9] 24))) := HKLy.out.trans (RowsKeep.below hbq)
   obtain ⟨⟨a0, a1⟩, b0, b1⟩ := HBX.out.2 _ HKQ.out
   obtain ⟨r0, r1⟩ := read_cells (W := w) (brefl (vy.alloc (.cells #[.int .i64 nx, .slice A9 n9 c9] 24)))
   have HSA := Lib.hid (psame_self _ (vy.alloc (.cells #[.int .i64 nx, .slice A9 n9 c9] 24)).heap.size (Nat.le_refl _) A9 A1 n9 c9 n1 c1 l (HS9.out.more hbq.size) ((HS1.out.keep HOQ.out.below).more HOQ.out.below.size) (by omega) hn1 nx)
   obtain ⟨wqy, hwq⟩ : ∃ wq, vy.alloc (.cells #[.int .i64 nx, .slice A9 n9 c9] 24) = wq := ⟨_, rfl⟩
   rw [hwq] at HSA HS9 HOQ HKQ
   have HWQ := Lib.hid hwq
   clear hs9 hbq hwq
   go_wp2_with fail
   first | rw [HWQ.out] | skip
   refine HSA.out.mono ?_
   rintro e xy ⟨rfl, hx⟩
   have HOXy := Lib.hid (HOQ.out.on hx)
   have HKXy : Hid (RowsKeep wA xy) := HKQ.out.trans (RowsKeep.below hx)
   clear hx HSA HS9 HWQ a0 a1 b0 b1 r0 r1
   go_wp2_with fail
   refine (HRS.out _ HOXy.out).mono ?_
   rintro e y8 ⟨rfl, ho8, hr8⟩
   have HO8 := Lib.hid ho8
   have HK8 : Hid (RowsKeep wA y8) := HKXy.out.trans hr8
   clear ho8 hr8
   obtain ⟨⟨a0, a1⟩, b0, b1⟩ := HBX.out.2 _ HK8.out
   have HLT := Lib.hid (latest_any w y8 p DR HO8.out hT hE HRF.out.1 HRF.out.2 (HRG.out.more (by omega)) (HRM.out _ HO8.out))
   go_wp2_with fail
   refine HLT.out.mono ?_
   rintro e vz ⟨ss, hss, hpost, ho, hb⟩
   have HOLz := Lib.hid ho
   have HKLz : Hid (RowsKeep wA vz) := HK8.out.trans (RowsKeep.below hb)
   have HSS := Lib.hid hss
   clear hss ho hb HLT a0 a1 b0 b1
   rcases HRL.out _ HO8.out ss HSS.out with hlt | ⟨_, hlt⟩
   ·rw [hlt] at hpost
    clear hlt
    obtain ⟨A9, n9, c9, rfl, hs9, hn9⟩ := hpost
    have hbq := bnew (brefl vz) (.cells #[.int .i64 nx, .slice A9 n9 c9] 24)
    have HS9 := Lib.hid (hs9.keep hbq)
    have HOQ := Lib.hid (HOLz.out.on hbq)
    have HKQ : Hid (RowsKeep wA (vz.alloc (.cells #[.int .i64 nx, .slice A9 n9 c9] 24))) := HKLz.out.trans (RowsKeep.below hbq)
    obtain ⟨⟨a0, a1⟩, b0, b1⟩ := HBX.out.2 _ HKQ.out
    obtain ⟨r0, r1⟩ := read_cells (W := w) (brefl (vz.alloc (.cells #[.int .i64 nx, .slice A9 n9 c9] 24)))
    have HSA := Lib.hid (psame_self _ (vz.alloc (.cells #[.int .i64 nx, .slice A9 n9 c9] 24)).heap.size (Nat.le_refl _) A9 A1 n9 c9 n1 c1 l (HS9.out.more hbq.size) ((HS1.out.keep HOQ.out.below).more HOQ.out.below.size) (by omega) hn1 nx)
    obtain ⟨wqz, hwq⟩ : ∃ wq, vz.alloc (.cells #[.int .i64 nx, .slice A9 n9 c9] 24) = wq := ⟨_, rfl⟩
    rw [hwq] at HSA HS9 HOQ HKQ
    have HWQ := Lib.hid hwq
    clear hs9 hbq hwq
    go_wp2_with fail
    first | rw [HWQ.out] | skip
    refine HSA.out.mono ?_
    rintro e xz ⟨rfl, hx⟩
    have HOXz := Lib.hid (HOQ.out.on hx)
    have HKXz : Hid (RowsKeep wA xz) := HKQ.out.trans (RowsKeep.below hx)
    clear hx HSA HS9 HWQ a0 a1 b0 b1 r0 r1
    go_wp2_with fail
    go_ret
    exact ⟨rfl, HOXz.out.below⟩
   ·rw [hlt] at hpost
    clear hlt
    obtain ⟨A9, n9, c9, rfl, hs9, hn9⟩ := hpost
    have hbq := bnew (brefl vz) (.cells #[.int .i64 nx0, .slice A9 n9 c9] 24)
    have HS9 := Lib.hid (hs9.keep hbq)
    have HOQ := Lib.hid (HOLz.out.on hbq)
    have HKQ : Hid (RowsKeep wA (vz.alloc (.cells #[.int .i64 nx0, .slice A9 n9 c9] 24))) := HKLz.out.trans (RowsKeep.below hbq)
    obtain ⟨⟨a0, a1⟩, b0, b1⟩ := HBX.out.2 _ HKQ.out
    obtain ⟨r0, r1⟩ := read_cells (W := w) (brefl (vz.alloc (.cells #[.int .i64 nx0, .slice A9 n9 c9] 24)))
    have HSA := Lib.hid (psame_self _ (vz.alloc (.cells #[.int .i64 nx0, .slice A9 n9 c9] 24)).heap.size (Nat.le_refl _) A9 A0 n9 c9 n0 c0 l0 (HS9.out.more hbq.size) ((HS0.out.keep HOQ.out.below).more HOQ.out.below.size) (by omega) hn0 nx0)
    obtain ⟨wqz, hwq⟩ : ∃ wq, vz.alloc (.cells #[.int .i64 nx0, .slice A9 n9 c9] 24) = wq := ⟨_, rfl⟩
    rw [hwq] at HSA HS9 HOQ HKQ
    have HWQ := Lib.hid hwq
    clear hs9 hbq hwq
    go_wp2_with fail
    first | rw [HWQ.out] | skip
    refine HSA.out.mono ?_
    rintro e xz ⟨rfl, hx⟩
    have HOXz := Lib.hid (HOQ.out.on hx)
    have HKXz : Hid (RowsKeep wA xz) := HKQ.out.trans (RowsKeep.below hx)
    clear hx HSA HS9 HWQ a0 a1 b0 b1 r0 r1
    go_wp2_with fail
    go_ret
    exact ⟨rfl, HOXz.out.below⟩
  ·rw [hlt] at hpost
   clear hlt
   obtain ⟨A9, n9, c9, rfl, hs9, hn9⟩ := hpost
   have hbq := bnew (brefl vy) (.cells #[.int .i64 nx0, .slice A9 n9 c9] 24)
   have HS9 := Lib.hid (hs9.keep hbq)
   have HOQ := Lib.hid (HOLy.out.on hbq)
   have HKQ : Hid (RowsKeep wA (vy.alloc (.cells #[.int .i64 nx0, .slice A9 n9 c9] 24))) := HKLy.out.trans (RowsKeep.below hbq)
   obtain ⟨⟨a0, a1⟩, b0, b1⟩ := HBX.out.2 _ HKQ.out
   obtain ⟨r0, r1⟩ := read_cells (W := w) (brefl (vy.alloc (.cells #[.int .i64 nx0, .slice A9 n9 c9] 24)))
   have HSA := Lib.hid (psame_self _ (vy.alloc (.cells #[.int .i64 nx0, .slice A9 n9 c9] 24)).heap.size (Nat.le_refl _) A9 A0 n9 c9 n0 c0 l0 (HS9.out.more hbq.size) ((HS0.out.keep HOQ.out.below).more HOQ.out.below.size) (by omega) hn0 nx0)
   obtain ⟨wqy, hwq⟩ : ∃ wq, vy.alloc (.cells #[.int .i64 nx0, .slice A9 n9 c9] 24) = wq := ⟨_, rfl⟩
   rw [hwq] at HSA HS9 HOQ HKQ
   have HWQ := Lib.hid hwq
   clear hs9 hbq hwq
   go_wp2_with fail
   first | rw [HWQ.out] | skip
   refine HSA.out.mono ?_
   rintro e xy ⟨rfl, hx⟩
   have HOXy := Lib.hid (HOQ.out.on hx)
   have HKXy : Hid (RowsKeep wA xy) := HKQ.out.trans (RowsKeep.below hx)
   clear hx HSA HS9 HWQ a0 a1 b0 b1 r0 r1
   go_wp2_with fail
   refine (HRS.out _ HOXy.out).mono ?_
   rintro e y8 ⟨rfl, ho8, hr8⟩
   have HO8 := Lib.hid ho8
   have HK8 : Hid (RowsKeep wA y8) := HKXy.out.trans hr8
   clear ho8 hr8
   obtain ⟨⟨a0, a1⟩, b0, b1⟩ := HBX.out.2 _ HK8.out
   have HLT := Lib.hid (latest_any w y8 p DR HO8.out hT hE HRF.out.1 HRF.out.2 (HRG.out.more (by omega)) (HRM.out _ HO8.out))
   go_wp2_with fail
   refine HLT.out.mono ?_
   rintro e vz ⟨ss, hss, hpost, ho, hb⟩
   have HOLz := Lib.hid ho
   have HKLz : Hid (RowsKeep wA vz) := HK8.out.trans (RowsKeep.below hb)
   have HSS := Lib.hid hss
   clear hss ho hb HLT a0 a1 b0 b1
   rcases HRL.out _ HO8.out ss HSS.out with hlt | ⟨_, hlt⟩
   ·rw [hlt] at hpost
    clear hlt
    obtain ⟨A9, n9, c9, rfl, hs9, hn9⟩ := hpost
    have hbq := bnew (brefl vz) (.cells #[.int .i64 nx, .slice A9 n9 c9] 24)
    have HS9 := Lib.hid (hs9.keep hbq)
    have HOQ := Lib.hid (HOLz.out.on hbq)
    have HKQ : Hid (RowsKeep wA (vz.alloc (.cells #[.int .i64 nx, .slice A9 n9 c9] 24))) := HKLz.out.trans (RowsKeep.below hbq)
    obtain ⟨⟨a0, a1⟩, b0, b1⟩ := HBX.out.2 _ HKQ.out
    obtain ⟨r0, r1⟩ := read_cells (W := w) (brefl (vz.alloc (.cells #[.int .i64 nx, .slice A9 n9 c9] 24)))
    have HSA := Lib.hid (psame_self _ (vz.alloc (.cells #[.int .i64 nx, .slice A9 n9 c9] 24)).heap.size (Nat.le_refl _) A9 A1 n9 c9 n1 c1 l (HS9.out.more hbq.size) ((HS1.out.keep HOQ.out.below).more HOQ.out.below.size) (by omega) hn1 nx)
    obtain ⟨wqz, hwq⟩ : ∃ wq, vz.alloc (.cells #[.int .i64 nx, .slice A9 n9 c9] 24) = wq := ⟨_, rfl⟩
    rw [hwq] at HSA HS9 HOQ HKQ
    have HWQ := Lib.hid hwq
    clear hs9 hbq hwq
    go_wp2_with fail
    first | rw [HWQ.out] | skip
    refine HSA.out.mono ?_
    rintro e xz ⟨rfl, hx⟩
    have HOXz := Lib.hid (HOQ.out.on hx)
    have HKXz : Hid (RowsKeep wA xz) := HKQ.out.trans (RowsKeep.below hx)
    clear hx HSA HS9 HWQ a0 a1 b0 b1 r0 r1
    go_wp2_with fail
    go_ret
    exact ⟨rfl, HOXz.out.below⟩
   ·rw [hlt] at hpost
    clear hlt
    obtain ⟨A9, n9, c9, rfl, hs9, hn9⟩ := hpost
    have hbq := bnew (brefl vz) (.cells #[.int .i64 nx0, .slice A9 n9 c9] 24)
    have HS9 := Lib.hid (hs9.keep hbq)
    have HOQ := Lib.hid (HOLz.out.on hbq)
    have HKQ : Hid (RowsKeep wA (vz.alloc (.cells #[.int .i64 nx0, .slice A9 n9 c9] 24))) := HKLz.out.trans (RowsKeep.below hbq)
    obtain ⟨⟨a0, a1⟩, b0, b1⟩ := HBX.out.2 _ HKQ.out
    obtain ⟨r0, r1⟩ := read_cells (W := w) (brefl (vz.alloc (.cells #[.int .i64 nx0, .slice A9 n9 c9] 24)))
    have HSA := Lib.hid (psame_self _ (vz.alloc (.cells #[.int .i64 nx0, .slice A9 n9 c9] 24)).heap.size (Nat.le_refl _) A9 A0 n9 c9 n0 c0 l0 (HS9.out.more hbq.size) ((HS0.out.keep HOQ.out.below).more HOQ.out.below.size) (by omega) hn0 nx0)
    obtain ⟨wqz, hwq⟩ : ∃ wq, vz.alloc (.cells #[.int .i64 nx0, .slice A9 n9 c9] 24) = wq := ⟨_, rfl⟩
    rw [hwq] at HSA HS9 HOQ HKQ
    have HWQ := Lib.hid hwq
    clear hs9 hbq hwq
    go_wp2_with fail
    first | rw [HWQ.out] | skip
    refine HSA.out.mono ?_
    rintro e xz ⟨rfl, hx⟩
    have HOXz := Lib.hid (HOQ.out.on hx)
    have HKXz : Hid (RowsKeep wA xz) := HKQ.out.trans (RowsKeep.below hx)
    clear hx HSA HS9 HWQ a0 a1 b0 b1 r0 r1
    go_wp2_with fail
    go_ret
    exact ⟨rfl, HOXz.out.below⟩
theorem pswaps_walk (w : World) (nx0 : Int) (A0 : Option Addr) (n0 c0 : Nat) (l0 : List Sg) (s0 : SegsIn w w.heap.size A0 n0 l0 ∧ n0 ≤ 4398046511104) (nx : Int) (A1 : Option Addr) (n1 c1 : Nat) (l : List Sg) (s1 : SegsIn w w.heap.size A1 n1 l ∧ n1 ≤ 4398046511104)
  (n : Int) (_ : (Lit.int .i64 n).wf = true) (fails : Int) (hf : (Lit.int .i64 fails).wf = true) (loss : Int) (_ : (Lit.int .i64 loss).wf = true) (stop : Bool) (hTE : Tab w ∧ Errs w) :
  Calls Tryz.prog 5 #[.agg #[.int .i64 nx0, .slice A0 n0 c0], .agg #[.int .i64 nx, .slice A1 n1 c1], .int .i64 n, .int .i64 fails, .int .i64 loss, .bool stop] w fun e w' => e = .returned (.bool true) ∧ Below w.heap.size w w' := by
 have hf63 := bounds_i64 hf
 by_cases h0 : PtOk nx0 l0
 rotate_left
 ·exact pswaps_r0 w hTE.1 hTE.2 nx0 A0 n0 c0 l0 s0.1 s0.2 nx A1 n1 c1 l s1.1 s1.2 n fails loss stop h0
 by_cases h1 : PtOk nx l
 rotate_left
 ·exact pswaps_r1 w hTE.1 hTE.2 nx0 A0 n0 c0 l0 s0.1 s0.2 nx A1 n1 c1 l s1.1 s1.2 n fails loss stop h0 h1
 by_cases h2 : n < 1
 ·exact pswaps_r2 w hTE.1 hTE.2 nx0 A0 n0 c0 l0 s0.1 s0.2 nx A1 n1 c1 l s1.1 s1.2 n fails loss stop h0 h1 h2
 by_cases h3 : n ≥ 999999999
 ·exact pswaps_r3 w hTE.1 hTE.2 nx0 A0 n0 c0 l0 s0.1 s0.2 nx A1 n1 c1 l s1.1 s1.2 n fails loss stop h0 h1 h2 h3
 by_cases h4 : fails < 0
 ·exact pswaps_r4 w hTE.1 hTE.2 nx0 A0 n0 c0 l0 s0.1 s0.2 nx A1 n1 c1 l s1.1 s1.2 n fails loss stop h0 h1 h2 h3 h4
 cases stop
 ·exact pswaps_go w hTE.1 hTE.2 nx0 A0 n0 c0 l0 s0.1 s0.2 nx A1 n1 c1 l s1.1 s1.2 n fails loss h0 h1 (by omega) (by omega) (by omega)
 ·exact pswaps_stop w hTE.1 hTE.2 nx0 A0 n0 c0 l0 s0.1 s0.2 nx A1 n1 c1 l s1.1 s1.2 n fails loss h0 h1 (by omega) (by omega) (by omega)
end Go.Proofs.YtkhemhiifhggmaaGreatDoor
namespace Go.Proofs.YtkhemhiifhggmaaGreatDoor
open Go.RowKit
abbrev tSeg : Ty := .cons (.int .i64) (.cons (.int .i64) (.cons (.int .i64) (.cons (.int .i64) .nil)))
abbrev tPoint : Ty := .cons (.int .i64) (.cons (.slice tSeg 32) .nil)
theorem ty_point : tyOf Tryz.prog 8 24 = some tPoint := by kernel_rfl
def segOf (d : tSeg.den) : Sg := ⟨(show Int from d.1), (show Int from d.2.1), (show Int from d.2.2.1), (show Int from d.2.2.2.1)⟩
theorem point_in {w : World} {x : tPoint.den} {cs : Array Value} (h : Reads w w.heap.size tPoint x cs.toList) :
  ∃ nx A n c l, cs = #[.int .i64 nx, .slice A n c] ∧ SegsIn w w.heap.size A n l ∧ n ≤ 4398046511104 := by
 obtain ⟨d1, d2, u⟩ := x
 obtain ⟨⟨A, n, c⟩, x2⟩ := d2
 obtain ⟨c1, c2, e, _, h1, h2⟩ := h
 obtain ⟨c3, c4, e2, _, h3, h4⟩ := h2
 obtain ⟨nx, _, hc1, _⟩ := h1
 have hc4 : c4 = [] := h4
 have hs := h3.sl (e := tSeg) (fun d => rfl)
 have hb : n * 32 ≤ reachBytes := h3.2.1.2.2.1
 refine ⟨nx, A, n, c, (List.range n).map fun i => segOf (x2 i), ?_, ⟨?_, ?_⟩, by unfold reachBytes at hb; omega⟩
 ·have hc3 : c3 = [.slice A n c] := h3.1
  have : cs.toList = [.int .i64 nx, .slice A n c] := by rw [e, e2, hc1, hc3, hc4]; rfl
  obtain ⟨l⟩ := cs
  simpa using this
 ·have e3 : ((List.range n).map fun i => segOf (x2 i)).flatMap Sg.cells = (List.range n).flatMap fun i => Ty.cells tSeg (x2 i) := by
   rw [List.flatMap_map]
   rfl
  rw [e3]
  exact hs
 ·rw [List.length_map, List.length_range]
end Go.Proofs.YtkhemhiifhggmaaGreatDoor
