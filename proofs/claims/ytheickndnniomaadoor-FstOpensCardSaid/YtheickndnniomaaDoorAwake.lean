/- The layer is awake. -/
import Derived.Test.YtheickndnniomaaDoorOpenw
import Derived.Test.YtheickndnniomaaDoorThree
namespace Go.Proofs.YtheickndnniomaaDoor
open Go.RowKit Go.Maps

set_option maxRecDepth 100000 in
theorem three_any (w : World) : Calls Tryd.prog 24 #[] w fun e w' => ∃ A c, e = .returned (.slice A 3 c) ∧ Ents w' w'.heap.size A 3 c threeL ∧ Below w.heap.size w w' := by
  go_enter Tryd.func24, Tryd.ntmps24
  go_wp2_with fail
  go_ret
  have h := own_new w #[.string ⟨#[99, 97, 116]⟩, .int .i64 5, .string ⟨#[100, 111, 103]⟩, .int .i64 7, .string ⟨#[104, 97, 116]⟩, .int .i64 3] 26 2 3 rfl (by decide) rfl (Nat.le_refl _)
  exact ⟨_, _, rfl, ⟨Sl.of_own h, Nat.le_refl _, by omega⟩, bnew (brefl w) _⟩
set_option maxRecDepth 100000 in
set_option maxHeartbeats 4000000 in
theorem awake_any (w : World) (ht : Tab w) : Calls Tryd.prog 8 #[] w fun e w' => e = .returned (.bool true) ∧ Below w.heap.size w w' := by
  have HT := Lib.hid ht
  have HB := built_of three_right three_fits
  have HO := open_build three_right three_fits
  have HL := buildZ_len HB
  have hsix := three_six
  have hg := get_look HB three_fits [100, 111, 103]
  rw [three_dog] at hg
  have hS : buildS threeL = ⟨(by8 (buildZ threeL)).toArray⟩ := by unfold buildS; rw [if_pos three_right]; rfl
  have hlz : (by8 (buildZ threeL)).length ≤ 1099511627776 := by rw [by8_length]; exact HL
  have hfine := HB.inv.fine
  have h3 : ((threeL.length : Nat) : Int) = 3 := rfl
  rw [h3] at HO
  have hr := three_right
  have HBU := Lib.hid (fun (W : World) (A : Option Addr) (c : Nat) (h : Ents W W.heap.size A 3 c threeL) (ht : Tab W) => build_any W W.heap.size (Nat.le_refl _) A 3 c threeL h three_fits ht)
  rw [hr, hS] at HBU
  have HOP := Lib.hid (fun (W : World) (ht : Tab W) => open_any W (by8 (buildZ threeL)) hlz ht)
  rw [HO] at HOP
  have HG := Lib.hid hg
  have HF := Lib.hid hfine
  have H6 := Lib.hid hsix
  clear HB HO HL hsix hg hS hlz hfine h3 hr ht
  generalize by8 (buildZ threeL) = t at *
  generalize buildDs threeL = ds at *
  generalize baseOf threeL = base at *
  go_enter Tryd.func8, Tryd.ntmps8
  go_wp2_with fail
  refine (three_any w).mono ?_
  rintro e w1 ⟨A, c, rfl, hE, hb1⟩
  have HB1 := Lib.hid hb1
  have HE := Lib.hid hE
  clear hb1 hE
  go_wp2_with fail
  refine (HBU.out w1 A c HE.out (HT.out.below HB1.out)).mono ?_
  rintro e w2 ⟨rfl, hb2⟩
  have HB2 := Lib.hid (bcall HB1.out hb2)
  clear hb2 HB1 HE HBU
  go_wp2_with fail
  refine (HOP.out w2 (HT.out.below HB2.out)).mono ?_
  rintro e w3 ⟨hb3, ⟨_, p, B, n, k, A3, hs, rfl, hd, hm, _, _⟩ | ⟨hne, _⟩⟩
  · have HB3 := Lib.hid (bcall HB2.out hb3)
    have HD := Lib.hid hd
    have hn : n = 6 := by have h1 := congrArg List.length hm; rw [List.length_map] at h1; rw [← hd.len, h1]; exact H6.out
    subst hn
    have HGE := Lib.hid (get_any w3 p B 6 k A3 base 3 hs hd (by rw [hm]; exact HF.out) [100, 111, 103] (by decide))
    rw [hm, HG.out] at HGE
    clear hb3 HB2 hd hm HOP HF HG H6
    go_wp2_with fail
    refine HGE.out.mono ?_
    rintro e w4 ⟨rfl, hb4⟩
    have HB4 := Lib.hid (bcall HB3.out hb4)
    have HCO := Lib.hid (dcount_any w4 p B 6 k A3 base 3 hs (HD.out.keep hb4))
    have ho : optZ (some 7) = 7 := rfl
    rw [ho]
    clear hb4 HB3 HGE HD ho
    go_wp2_with fail
    refine HCO.out.mono ?_
    rintro e w5 ⟨rfl, hb5⟩
    have HB5 := Lib.hid (bcall HB4.out hb5)
    clear hb5 HB4 HCO
    go_wp2_with fail
    go_ret
    exact ⟨rfl, HB5.out⟩
  · exact absurd rfl hne
end Go.Proofs.YtheickndnniomaaDoor
