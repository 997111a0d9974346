/- The layer is awake. -/
import Derived.Test.YtfiphjhpjaddcaaIter
import Derived.Test.YtfiphjhpjaddcaaSame
namespace Go.Proofs.Ytfiphjhpjaddcaa
open Go.RowKit Go.Maps

/-- A frame whose blocks are all new is no more than new blocks. -/
theorem Fr.under {F : Foot} {a w w' : World} {B : Nat} (h : Fr F w w') (hb : Below B a w) (hB : B ≤ w.heap.size) (h1 : B ≤ F.p) (h2 : B ≤ F.fb) (h3 : B ≤ F.nb) (h4 : B ≤ F.kb) : Below B a w' :=
  hb.trans ⟨h.os, h.tape, h.output, h.size, fun k hk => h.block k (by omega) (by omega) (by omega) (by omega) (by omega)⟩
/-- A list of texts as an owned row. -/
theorem list_texts {w : World} {base : Nat} {v : Value} {ss : List (List UInt8)} (h : w.ownsRow base 9 1 v ss.length (ss.map encStr)) : ∃ A c, v = .slice A ss.length c ∧ Sl w w.heap.size 1 A ss.length ((ss.map bs).map .string) := by
  obtain ⟨A, c, rfl, hc⟩ := own_shape h
  refine ⟨A, c, rfl, ?_⟩
  have := Sl.of_own h
  rw [List.map_map]
  exact this
def baA : ByteArray := ⟨#[97]⟩
def baB : ByteArray := ⟨#[98, 46, 49]⟩
def baH : ByteArray := ⟨#[104, 105]⟩
def aw0 : DS Unit := DS.new Unit
def aw1 : DS Unit := (aw0.create baA).1
def aw2 : DS Unit := (aw1.append baA baH).1
def aw3 : DS Unit := (aw2.rename baA baB).1
theorem aw_e : (aw0.create baA).2 = 0 ∧ (aw1.append baA baH).2 = 0 ∧ (aw2.rename baA baB).2 = 0 ∧ readE aw3 baB = 0 ∧ aw3.steps = 3 ∧ aw3.down = false ∧ (readS aw3 baB).data.toList = [104, 105] := by decide +kernel
theorem aw_n : strKeys aw3.names = [[98, 46, 49]] := by decide +kernel
theorem aw_f : aw0.fits ∧ aw1.fits ∧ aw2.fits ∧ aw3.fits := by
  refine ⟨⟨?_, ?_, ?_, ?_, ?_, ?_, ?_⟩, ⟨?_, ?_, ?_, ?_, ?_, ?_, ?_⟩, ⟨?_, ?_, ?_, ?_, ?_, ?_, ?_⟩, ⟨?_, ?_, ?_, ?_, ?_, ?_, ?_⟩⟩ <;> decide +kernel
theorem aw_s : readS aw3 baB = baH := by
  have := aw_e.2.2.2.2.2.2
  have h : (readS aw3 baB).toList = baH.toList := by rw [ByteArray.toList_eq, ByteArray.toList_eq]; exact this
  exact tolist_inj.1 h
theorem aw_z : (fileOf aw1.files (numOf aw1.names baA)).1.length + baH.size ≤ 9223372036854775807 := by decide +kernel
set_option maxRecDepth 100000 in
set_option maxHeartbeats 4000000 in
theorem awake_any (w : World) : Calls Try.prog 9 #[] w fun e w' => e = .returned (.bool true) ∧ Below w.heap.size w w' := by
  obtain ⟨f0, f1, f2, f3⟩ := aw_f
  obtain ⟨e0, e1, e2, e3, e4, e5, _⟩ := aw_e
  have e6 := aw_s
  have e7 : (baH.toList == [104, 105]) = true := by decide +kernel
  go_enter Try.func9, Try.ntmps9
  go_wp2_with fail
  refine (new_any Unit _).mono ?_
  rintro e w1 ⟨rfl, hd1, hb1⟩
  have H1 := Lib.hid hd1
  clear hd1
  obtain ⟨F, hF⟩ : ∃ F : Foot, F = ⟨w.heap.size + 3, w.heap.size, w.heap.size + 1, w.heap.size + 2⟩ := ⟨_, rfl⟩
  have hF1 : w.heap.size + 3 = F.p := by rw [hF]
  have hF2 : w.heap.size ≤ F.p ∧ w.heap.size ≤ F.fb ∧ w.heap.size ≤ F.nb ∧ w.heap.size ≤ F.kb := by rw [hF]; simp
  rw [← hF] at H1
  rw [hF1]
  clear hF hF1
  go_wp2_with fail
  refine (create_any w1 F aw0 baA H1.out f0 (by decide)).mono ?_
  rw [e0]
  rintro e w2 ⟨rfl, hd2, hfr2⟩
  have H2 := Lib.hid hd2
  have HB2 := Lib.hid (hfr2.under hb1 hb1.size hF2.1 hF2.2.1 hF2.2.2.1 hF2.2.2.2)
  clear hd2 hfr2
  go_wp2_with fail
  refine (append_any w2 F aw1 baA baH H2.out f1 (by decide) aw_z).mono ?_
  rw [e1]
  rintro e w3 ⟨rfl, hd3, hfr3⟩
  have H3 := Lib.hid hd3
  have HB3 := Lib.hid (hfr3.under HB2.out HB2.out.size hF2.1 hF2.2.1 hF2.2.2.1 hF2.2.2.2)
  clear hd3 hfr3
  go_wp2_with fail
  refine (rename_any w3 F aw2 baA baB H3.out f2 (by decide) (by decide)).mono ?_
  rw [e2]
  rintro e w4 ⟨rfl, hd4, hfr4⟩
  have H4 : Hid (DiskAt w4 F aw3) := hd4
  have HB4 := Lib.hid (hfr4.under HB3.out HB3.out.size hF2.1 hF2.2.1 hF2.2.2.1 hF2.2.2.2)
  clear hd4 hfr4
  go_wp2_with fail
  refine (read_any w4 F aw3 baB H4.out (by decide)).mono ?_
  rw [e3, e6]
  rintro e w5 ⟨rfl, hb5⟩
  have H5 := Lib.hid (H4.out.below hb5)
  have HB5 := Lib.hid (bcall HB4.out hb5)
  clear hb5
  go_wp2_with fail
  refine (steps_any w5 F aw3 H5.out).mono ?_
  rw [e4]
  rintro e w6 ⟨rfl, rfl⟩
  go_wp2_with fail
  refine (list_any w5 F aw3 H5.out f3 e5).mono ?_
  rintro e w7 ⟨v, ss, rfl, hp, hown, hb7⟩
  rw [aw_n] at hp
  obtain rfl := hp.eq_singleton
  rw [show ([[98, 46, 49]] : List (List UInt8)).mergeSort (fun x y => decide (x ≤ y)) = [[98, 46, 49]] from by simp] at hown
  obtain ⟨A, c, rfl, hsl⟩ := list_texts hown
  have HB7 := Lib.hid (bcall HB5.out hb7)
  clear hown hb7
  go_wp2_with fail
  have hs2 : Sl (w7.alloc (.cells #[.string baB] 9)) (w7.heap.size + 1) 1 (some ⟨w7.heap.size, 0, none⟩) 1 (([baB] : List ByteArray).map .string) :=
    sl_one w7 (.string baB) 9
  refine (same_any (w7.alloc (.cells #[.string baB] 9)) (w7.heap.size + 1) A _ 1 1 c 1 _ _ ((hsl.alloc (Nat.le_refl _) _).more (by omega)) hs2 (by simp) (by decide) (by decide)).mono ?_
  rintro e w8 ⟨rfl, hb8⟩
  go_wp2_with fail
  go_ret
  exact ⟨rfl, bcall (bnew HB7.out _) hb8⟩
end Go.Proofs.Ytfiphjhpjaddcaa
