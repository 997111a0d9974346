/- PointTexts: the walk. -/
import Derived.Test.YtkhemhiifhggmaaGreatDoorHPt12
import Derived.Test.YtkhemhiifhggmaaGreatDoorHPt13
import Derived.Test.YtkhemhiifhggmaaGreatDoorHPt11
import Derived.Test.YtkhemhiifhggmaaGreatDoorHPt5
import Derived.Test.YtkhemhiifhggmaaGreatDoorHPt6
set_option maxRecDepth 100000
set_option maxHeartbeats 40000000
namespace Go.Proofs.YtkhemhiifhggmaaGreatDoor
open Go.RowKit Go.Maps Go.Sort
set_option linter.unusedVariables false
theorem ptexts_walk (w : World) (nx : Int) (A : Option Addr) (n c : Nat) (l : List Sg) (s0 : SegsIn w w.heap.size A n l ∧ n ≤ 4398046511104) (z : Int) (hz : (Lit.int .u8 z).wf = true) (nn : Int) (hnn : (Lit.int .i64 nn).wf = true) (hTE : Tab w ∧ Errs w) :
  Calls Tryz.prog 3 #[.agg #[.int .i64 nx, .slice A n c], .int .u8 z, .int .i64 nn] w fun e w' => e = .returned (.bool true) ∧ Below w.heap.size w w' := by
 have hzb := bounds_u8 hz
 have h63 := bounds_i64 hnn
 have hn := s0.2
 have HS := Lib.hid s0.1
 have HT := Lib.hid hTE
 obtain ⟨ch, rfl⟩ : ∃ ch : UInt8, z = (ch.toNat : Int) := ⟨UInt8.ofNat z.toNat, by
  have : (UInt8.ofNat z.toNat).toNat = z.toNat := by
   rw [UInt8.toNat_ofNat']
   omega
  omega⟩
 obtain ⟨W1, hW1⟩ : ∃ W1, w.alloc (.cells #[.int .i64 nx, .slice A n c] 24) = W1 := ⟨_, rfl⟩
 have hx : W1.heap[w.heap.size]? = some (.cells #[.int .i64 nx, .slice A n c] 24 (0, 0)) := by rw [← hW1]; exact heap_alloc_new _ _
 have HX : Hid (∀ V, Below W1.heap.size W1 V → V.cell? ⟨w.heap.size, 0, none⟩ = some (.int .i64 nx) ∧ V.cell? ⟨w.heap.size, 1, none⟩ = some (.slice A n c)) := fun V hv => by
  obtain ⟨k0, k1, _, _⟩ := cells2 ((hv.block _ (Array.getElem?_eq_some_iff.1 hx).1).trans hx)
  exact ⟨k0, k1⟩
 have HB : Hid (Below w.heap.size w W1) := by show Below _ _ _; rw [← hW1]; exact bnew (brefl w) _
 have HWE := Lib.hid hW1
 have HBV : Hid (∀ V, Below W1.heap.size W1 V → Below w.heap.size w V) := fun V hv => bcall HB.out hv
 have HPK : Hid (∀ V, Below W1.heap.size W1 V → Calls Tryz.prog 7 #[.agg #[.int .i64 nx, .slice A n c]] V fun e w' => e = .returned (.tuple #[.string ⟨(packP nx l).1.toArray⟩, .int .i64 (packP nx l).2]) ∧ Below V.heap.size V w') := fun V hv => pack_any V w.heap.size (HBV.out V hv).size A n c l (Lib.hid (HS.out.keep (HBV.out V hv))) hn nx
 have HRP : Hid (∀ V, Below W1.heap.size W1 V → Calls Tryz.prog 8 #[.agg #[.int .i64 nx, .slice A n c]] V fun e w' => e = .returned (.tuple #[.string ⟨(packP nx l).1.toArray⟩, .int .i64 (packP nx l).2]) ∧ Below V.heap.size V w') := fun V hv => rpack_any V w.heap.size (HBV.out V hv).size A n c l (Lib.hid (HS.out.keep (HBV.out V hv))) hn nx
 have HAW : Hid (∀ V, Below W1.heap.size W1 V → Calls Tryz.prog 9 #[] V fun e w' => e = .returned (.bool true) ∧ Below V.heap.size V w') := fun V hv => pawake_any V (HT.out.1.below (HBV.out V hv)) (HT.out.2.below (HBV.out V hv))
 have HCK : Hid (∀ V, Below W1.heap.size W1 V → Calls Tryz.prog 10 #[.agg #[.int .i64 nx, .slice A n c]] V fun e w' => e = .returned (.int .i64 (checkP nx l)) ∧ Below V.heap.size V w') := fun V hv => check_any V w.heap.size (HBV.out V hv).size A n c l (Lib.hid (HS.out.keep (HBV.out V hv))) hn nx
 have HRC : Hid (∀ V, Below W1.heap.size W1 V → Calls Tryz.prog 11 #[.agg #[.int .i64 nx, .slice A n c]] V fun e w' => e = .returned (.int .i64 (checkP nx l)) ∧ Below V.heap.size V w') := fun V hv => rcheck_any V w.heap.size (HBV.out V hv).size A n c l (Lib.hid (HS.out.keep (HBV.out V hv))) hn nx
 have HNM : Hid (∀ V, Below W1.heap.size W1 V → Calls Tryz.prog 12 #[.int .u8 (ch.toNat : Int), .int .i64 nn] V fun e w' => e = .returned (.string ⟨(nameP ch nn).toArray⟩) ∧ Below V.heap.size V w') := fun V hv => pname_any V (HT.out.1.below (HBV.out V hv)) ch nn (by omega)
 have HRN : Hid (∀ V, Below W1.heap.size W1 V → Calls Tryz.prog 13 #[.int .u8 (ch.toNat : Int), .int .i64 nn] V fun e w' => e = .returned (.string ⟨(nameP ch nn).toArray⟩) ∧ Below V.heap.size V w') := fun V hv => rname_any V ch nn
 have HFL : Hid (PtOk nx l → (1 ≤ nn ∧ nn ≤ 999999999) → (∀ V, Below W1.heap.size W1 V → Calls Tryz.prog 15 #[.int .i64 nn, .agg #[.int .i64 nx, .slice A n c]] V fun e w' => ∃ A' k c', e = .returned (.slice A' k c') ∧ k ≤ 2000000000 ∧ Sl w' w'.heap.size 1 A' k (((filesZ nn l).map bs).map .string) ∧ Below V.heap.size V w') ∧ ∀ V, Below W1.heap.size W1 V → Calls Tryz.prog 16 #[.int .i64 nn, .agg #[.int .i64 nx, .slice A n c]] V fun e w' => ∃ A' k c', e = .returned (.slice A' k c') ∧ k ≤ 2000000000 ∧ Sl w' w'.heap.size 1 A' k (((filesZ nn l).map bs).map .string) ∧ Below V.heap.size V w') := fun hok hnr => by
  refine ⟨fun V hv => ?_, fun V hv => ?_⟩
  ·have hl9 := ptOk_len hok
   have hlen := HS.out.2
   refine (files_any V (HT.out.1.below (HBV.out V hv)) w.heap.size (HBV.out V hv).size nn nx (by omega) A n c l (HS.out.keep (HBV.out V hv)) (by omega) (fun s hs => ?_)).mono ?_
   ·have h1 := (segsOk_up (Int.le_refl 0) hok.2.2).2 s hs
    have h2 := hok.2.1
    omega
   ·rintro e w' ⟨A', c', h1, h2, h3⟩
    refine ⟨A', _, c', h1, ?_, own_sl h2, h3⟩
    have h4 : (filesZ nn l).length ≤ (filesR nn l).length := by
     have h5 : (Lib.compact (sortS (filesR nn l))).length ≤ (sortS (filesR nn l)).length := Lib.compact_length_le _
     rw [sortS_len] at h5
     exact h5
    have h6 : (filesR nn l).length ≤ 2 * l.length + 1 := by
     unfold filesR
     rw [List.length_cons]
     have := flatN_len l
     omega
    omega
  ·exact rfiles_any V w.heap.size (HBV.out V hv).size nn nx hnr A n c l (HS.out.keep (HBV.out V hv)) hok
 obtain ⟨zc, hzc⟩ : ∃ zc : Int, (ch.toNat : Int) = zc := ⟨_, rfl⟩
 rw [hzc] at HNM HRN ⊢
 obtain ⟨P, hP⟩ : ∃ P, packP nx l = P := ⟨_, rfl⟩
 obtain ⟨nm, hnm⟩ : ∃ nm, nameP ch nn = nm := ⟨_, rfl⟩
 rw [hP] at HPK HRP
 rw [hnm] at HNM HRN
 clear hP hnm hzc hz hnn s0 hTE hx hW1 hzb
 obtain ⟨t, q⟩ := P
 dsimp only at HPK HRP
 have hs1 : (t == t) = true := by simp
 have hs2 : (nm == nm) = true := by simp
 have hq1 : (q != q) = false := by simp
 have hc1 : (checkP nx l != checkP nx l) = false := by simp
 have HCP : Hid (checkP nx l = if PtOk nx l then 0 else 1) := rfl
 have HGD : Hid (∀ V, Below W1.heap.size W1 V → Calls Tryz.prog 11 #[.agg #[.int .i64 nx, .slice A n c]] V fun e w' => e = .returned (.int .i64 (checkP nx l)) ∧ Below V.heap.size V w') := HRC
 generalize checkP nx l = ck at HCK HRC hc1 HCP HGD
 obtain ⟨c0, c1⟩ := HX.out W1 (brefl W1)
 go_enter Tryz.func3, Tryz.ntmps3
 go_wp2_with fail
 rw [HWE.out]
 refine (HPK.out _ (brefl W1)).mono ?_
 rintro e w2 ⟨rfl, hb2⟩
 have HB2 := Lib.hid hb2
 obtain ⟨d0, d1⟩ := HX.out w2 hb2
 clear hb2 c0 c1 HPK
 go_wp2_with fail
 refine (HRP.out _ HB2.out).mono ?_
 rintro e w3 ⟨rfl, hb3⟩
 have HB3 := Lib.hid (HB2.out.trans (hb3.mono HB2.out.size))
 obtain ⟨e0, e1⟩ := HX.out w3 HB3.out
 clear hb3 d0 d1 HRP HB2
 go_wp2_with fail
 go_region_held3 (fun w' => w'.cell? ⟨w.heap.size, 0, none⟩ = some (.int .i64 nx) ∧ w'.cell? ⟨w.heap.size, 1, none⟩ = some (.slice A n c))
  (first | assumption | (refine HX.out _ ?_; (repeat (first | exact HV5.out | exact HV4.out | exact HV3.out | exact HV2.out | exact HV1.out | exact HB3.out | refine Below.drew ?_)); done))
  (first
  | (go_at_call 9; refine (HAW.out _ (by repeat (first | exact HB3.out | refine Below.drew ?_))).mono ?_; rintro e V1 ⟨rfl, hv⟩; have HV1 : Hid (Below W1.heap.size W1 V1) := bcall (by repeat (first | exact HB3.out | refine Below.drew ?_)) hv; clear HAW hv)
  | (go_at_call 10; refine (HCK.out _ (by repeat (first | exact HV1.out | refine Below.drew ?_))).mono ?_; rintro e V2 ⟨rfl, hv⟩; have HV2 : Hid (Below W1.heap.size W1 V2) := bcall (by repeat (first | exact HV1.out | refine Below.drew ?_)) hv; clear HCK hv)
  | (go_at_call 11; refine (HRC.out _ (by repeat (first | exact HV2.out | refine Below.drew ?_))).mono ?_; rintro e V3 ⟨rfl, hv⟩; have HV3 : Hid (Below W1.heap.size W1 V3) := bcall (by repeat (first | exact HV2.out | refine Below.drew ?_)) hv; clear HRC hv)
  | (go_at_call 12; refine (HNM.out _ (by repeat (first | exact HV3.out | refine Below.drew ?_))).mono ?_; rintro e V4 ⟨rfl, hv⟩; have HV4 : Hid (Below W1.heap.size W1 V4) := bcall (by repeat (first | exact HV3.out | refine Below.drew ?_)) hv; clear HNM hv)
  | (go_at_call 13; refine (HRN.out _ (by repeat (first | exact HV4.out | refine Below.drew ?_))).mono ?_; rintro e V5 ⟨rfl, hv⟩; have HV5 : Hid (Below W1.heap.size W1 V5) := bcall (by repeat (first | exact HV4.out | refine Below.drew ?_)) hv; clear HRN hv))
 by_cases hok : PtOk nx l
 rotate_left
 ·have hck : ck = 1 := by rw [HCP.out, if_neg hok]
  have g0 : (ck != 0) = true := by rw [hck]; rfl
  clear hck hok
  go_wp2_with fail
  refine wp_region_held_drew (S := fun w' => w'.cell? ⟨w.heap.size, 0, none⟩ = some (.int .i64 nx) ∧ w'.cell? ⟨w.heap.size, 1, none⟩ = some (.slice A n c)) (by kernel_rfl) ?_ (fun hHeld => ?_)
  ·(try dsimp only); (first | assumption | (refine HX.out _ ?_; (repeat (first | exact HV6.out | exact HV5.out | refine Below.drew ?_)); done))
  refine wpAnyH_take (i := 0) (v := ?_) rfl (by kernel_rfl) (by kernel_rfl) (by kernel_rfl) (fun _ _ _ h => h) (Or.inl ⟨by rfl, ?_⟩) (by assumption) ?_
  rotate_left
  ·intro w hSw; (try dsimp only at hSw); go_simp; (try with_reducible rfl)
  try simp only [Act.put, List.setIfInBounds_toArray]
  refine wpAnyH_ready (rs := [1]) (by kernel_rfl) (by simp) ?_
  refine AllReadyH.cons rfl (fun K hK => ?_) AllReadyH.nil
  go_simp; go_at_call 11; refine (HGD.out _ (by repeat (first | exact HV5.out | refine Below.drew ?_))).mono ?_; rintro e V6 ⟨rfl, hv⟩; have HV6 : Hid (Below W1.heap.size W1 V6) := bcall (by repeat (first | exact HV5.out | refine Below.drew ?_)) hv; clear HGD hv
  refine hK.out _ _ ?_ (fun hHeld => ?_)
  ·(try dsimp only); (first | assumption | (refine HX.out _ ?_; (repeat (first | exact HV6.out | exact HV5.out | refine Below.drew ?_)); done))
  clear hK K
  try simp only [Act.put, List.setIfInBounds_toArray, List.set_cons_zero, List.set_cons_succ]
  refine wpAnyH_take (i := 2) (v := ?_) rfl (by kernel_rfl) (by kernel_rfl) (by kernel_rfl) (fun _ _ _ h => h) (Or.inl ⟨by rfl, ?_⟩) (by assumption) ?_
  rotate_left
  ·intro w hSw; (try dsimp only at hSw); go_simp; (try with_reducible rfl)
  try simp only [Act.put, List.setIfInBounds_toArray]
  refine wpAnyH_take (i := 3) (v := ?_) rfl (by kernel_rfl) (by kernel_rfl) (by kernel_rfl) (fun _ _ _ h => h) (Or.inl ⟨by rfl, ?_⟩) (by assumption) ?_
  rotate_left
  ·intro w hSw; (try dsimp only at hSw); go_simp; (try with_reducible rfl)
  try simp only [Act.put]
  refine wpAnyH_take (i := 4) (v := undef) rfl (by kernel_rfl) (by kernel_rfl) (by kernel_rfl) (fun _ _ _ h => h) (Or.inr ⟨by kernel_rfl, rfl⟩) (by assumption) ?_
  try simp only [Act.put]
  refine wpAnyH_take (i := 5) (v := undef) rfl (by kernel_rfl) (by kernel_rfl) (by kernel_rfl) (fun _ _ _ h => h) (Or.inr ⟨by kernel_rfl, rfl⟩) (by assumption) ?_
  try simp only [Act.put]
  refine wpAnyH_take (i := 6) (v := ?_) rfl (by kernel_rfl) (by kernel_rfl) (by kernel_rfl) (fun _ _ _ h => h) (Or.inl ⟨by rfl, ?_⟩) (by assumption) ?_
  rotate_left
  ·intro w hSw; (try dsimp only at hSw); go_simp; (try with_reducible rfl)
  try simp only [Act.put]
  refine wpAnyH_take (i := 7) (v := ?_) rfl (by kernel_rfl) (by kernel_rfl) (by kernel_rfl) (fun _ _ _ h => h) (Or.inl ⟨by rfl, ?_⟩) (by assumption) ?_
  rotate_left
  ·intro w hSw; (try dsimp only at hSw); go_simp; (try with_reducible rfl)
  try simp only [Act.put]
  refine wpAnyH_take (i := 8) (v := undef) rfl (by kernel_rfl) (by kernel_rfl) (by kernel_rfl) (fun _ _ _ h => h) (Or.inr ⟨by kernel_rfl, rfl⟩) (by assumption) ?_
  try simp only [Act.put]
  refine wpAnyH_take (i := 9) (v := undef) rfl (by kernel_rfl) (by kernel_rfl) (by kernel_rfl) (fun _ _ _ h => h) (Or.inr ⟨by kernel_rfl, rfl⟩) (by assumption) ?_
  try simp only [Act.put]
  refine wpAnyH_take (i := 10) (v := ?_) rfl (by kernel_rfl) (by kernel_rfl) (by kernel_rfl) (fun _ _ _ h => h) (Or.inl ⟨by rfl, ?_⟩) (by assumption) ?_
  rotate_left
  ·intro w hSw; (try dsimp only at hSw); go_simp; (try with_reducible rfl)
  try simp only [Act.put]
  refine wpAnyH_take (i := 11) (v := ?_) rfl (by kernel_rfl) (by kernel_rfl) (by kernel_rfl) (fun _ _ _ h => h) (Or.inl ⟨by rfl, ?_⟩) (by assumption) ?_
  rotate_left
  ·intro w hSw; (try dsimp only at hSw); go_simp; (try with_reducible rfl)
  try simp only [Act.put]
  refine wpAnyH_take (i := 12) (v := undef) rfl (by kernel_rfl) (by kernel_rfl) (by kernel_rfl) (fun _ _ _ h => h) (Or.inr ⟨by kernel_rfl, rfl⟩) (by assumption) ?_
  try simp only [Act.put]
  refine wpAnyH_take (i := 13) (v := undef) rfl (by kernel_rfl) (by kernel_rfl) (by kernel_rfl) (fun _ _ _ h => h) (Or.inr ⟨by kernel_rfl, rfl⟩) (by assumption) ?_
  try simp only [Act.put]
  refine wpAnyH_take (i := 14) (v := undef) rfl (by kernel_rfl) (by kernel_rfl) (by kernel_rfl) (fun _ _ _ h => h) (Or.inr ⟨by kernel_rfl, rfl⟩) (by assumption) ?_
  try simp only [Act.put]
  refine wpAnyH_take (i := 15) (v := undef) rfl (by kernel_rfl) (by kernel_rfl) (by kernel_rfl) (fun _ _ _ h => h) (Or.inr ⟨by kernel_rfl, rfl⟩) (by assumption) ?_
  try simp only [Act.put]
  refine wpAnyH_take (i := 16) (v := undef) rfl (by kernel_rfl) (by kernel_rfl) (by kernel_rfl) (fun _ _ _ h => h) (Or.inr ⟨by kernel_rfl, rfl⟩) (by assumption) ?_
  try simp only [Act.put]
  refine wpAnyH_take (i := 17) (v := undef) rfl (by kernel_rfl) (by kernel_rfl) (by kernel_rfl) (fun _ _ _ h => h) (Or.inr ⟨by kernel_rfl, rfl⟩) (by assumption) ?_
  try simp only [Act.put]
  refine wpAnyH_take (i := 18) (v := undef) rfl (by kernel_rfl) (by kernel_rfl) (by kernel_rfl) (fun _ _ _ h => h) (Or.inr ⟨by kernel_rfl, rfl⟩) (by assumption) ?_
  try simp only [Act.put]
  refine wpAnyH_take (i := 19) (v := ?_) rfl (by kernel_rfl) (by kernel_rfl) (by kernel_rfl) (fun _ _ _ h => h) (Or.inl ⟨by rfl, ?_⟩) (by assumption) ?_
  rotate_left
  ·intro w hSw; (try dsimp only at hSw); go_simp; (try with_reducible rfl)
  try simp only [Act.put]
  refine wpAnyH_take (i := 20) (v := ?_) rfl (by kernel_rfl) (by kernel_rfl) (by kernel_rfl) (fun _ _ _ h => h) (Or.inl ⟨by rfl, ?_⟩) (by assumption) ?_
  rotate_left
  ·intro w hSw; (try dsimp only at hSw); go_simp; (try with_reducible rfl)
  try simp only [Act.put]
  refine wpAnyH_done (by kernel_rfl) ?_ _
  simp only [List.getElem_toArray, List.getElem_cons_zero, List.getElem_cons_succ, List.setIfInBounds_toArray, List.set_cons_zero, List.set_cons_succ]
  go_wp2_with fail
  go_ret
  exact ⟨rfl, HBV.out _ (by repeat (first | exact HV6.out | refine Below.drew ?_))⟩
 have hck : ck = 0 := by rw [HCP.out, if_pos hok]
 have g0 : (ck != 0) = false := by rw [hck]; rfl
 clear hck
 by_cases h1 : nn < 1
 ·have g1 : decide (nn < 1) = true := decide_eq_true h1
  clear h1 hok
  go_wp2_with fail
  refine wp_region_held_drew (S := fun w' => w'.cell? ⟨w.heap.size, 0, none⟩ = some (.int .i64 nx) ∧ w'.cell? ⟨w.heap.size, 1, none⟩ = some (.slice A n c)) (by kernel_rfl) ?_ (fun hHeld => ?_)
  ·(try dsimp only); (first | assumption | (refine HX.out _ ?_; (repeat (first | exact HV6.out | exact HV5.out | refine Below.drew ?_)); done))
  refine wpAnyH_take (i := 0) (v := ?_) rfl (by kernel_rfl) (by kernel_rfl) (by kernel_rfl) (fun _ _ _ h => h) (Or.inl ⟨by rfl, ?_⟩) (by assumption) ?_
  rotate_left
  ·intro w hSw; (try dsimp only at hSw); go_simp; (try with_reducible rfl)
  try simp only [Act.put, List.setIfInBounds_toArray]
  refine wpAnyH_ready (rs := [1]) (by kernel_rfl) (by simp) ?_
  refine AllReadyH.cons rfl (fun K hK => ?_) AllReadyH.nil
  go_simp; go_at_call 11; refine (HGD.out _ (by repeat (first | exact HV5.out | refine Below.drew ?_))).mono ?_; rintro e V6 ⟨rfl, hv⟩; have HV6 : Hid (Below W1.heap.size W1 V6) := bcall (by repeat (first | exact HV5.out | refine Below.drew ?_)) hv; clear HGD hv
  refine hK.out _ _ ?_ (fun hHeld => ?_)
  ·(try dsimp only); (first | assumption | (refine HX.out _ ?_; (repeat (first | exact HV6.out | exact HV5.out | refine Below.drew ?_)); done))
  clear hK K
  try simp only [Act.put, List.setIfInBounds_toArray, List.set_cons_zero, List.set_cons_succ]
  refine wpAnyH_take (i := 2) (v := ?_) rfl (by kernel_rfl) (by kernel_rfl) (by kernel_rfl) (fun _ _ _ h => h) (Or.inl ⟨by rfl, ?_⟩) (by assumption) ?_
  rotate_left
  ·intro w hSw; (try dsimp only at hSw); go_simp; (try with_reducible rfl)
  try simp only [Act.put, List.setIfInBounds_toArray]
  refine wpAnyH_take (i := 3) (v := ?_) rfl (by kernel_rfl) (by kernel_rfl) (by kernel_rfl) (fun _ _ _ h => h) (Or.inl ⟨by rfl, ?_⟩) (by assumption) ?_
  rotate_left
  ·intro w hSw; (try dsimp only at hSw); go_simp; (try with_reducible rfl)
  try simp only [Act.put]
  refine wpAnyH_take (i := 4) (v := ?_) rfl (by kernel_rfl) (by kernel_rfl) (by kernel_rfl) (fun _ _ _ h => h) (Or.inl ⟨by rfl, ?_⟩) (by assumption) ?_
  rotate_left
  ·intro w hSw; (try dsimp only at hSw); go_simp; (try with_reducible rfl)
  try simp only [Act.put]
  refine wpAnyH_take (i := 5) (v := ?_) rfl (by kernel_rfl) (by kernel_rfl) (by kernel_rfl) (fun _ _ _ h => h) (Or.inl ⟨by rfl, ?_⟩) (by assumption) ?_
  rotate_left
  ·intro w hSw; (try dsimp only at hSw); go_simp; (try with_reducible rfl)
  try simp only [Act.put]
  refine wpAnyH_take (i := 6) (v := ?_) rfl (by kernel_rfl) (by kernel_rfl) (by kernel_rfl) (fun _ _ _ h => h) (Or.inl ⟨by rfl, ?_⟩) (by assumption) ?_
  rotate_left
  ·intro w hSw; (try dsimp only at hSw); go_simp; (try with_reducible rfl)
  try simp only [Act.put]
  refine wpAnyH_take (i := 7) (v := ?_) rfl (by kernel_rfl) (by kernel_rfl) (by kernel_rfl) (fun _ _ _ h => h) (Or.inl ⟨by rfl, ?_⟩) (by assumption) ?_
  rotate_left
  ·intro w hSw; (try dsimp only at hSw); go_simp; (try with_reducible rfl)
  try simp only [Act.put]
  refine wpAnyH_take (i := 8) (v := undef) rfl (by kernel_rfl) (by kernel_rfl) (by kernel_rfl) (fun _ _ _ h => h) (Or.inr ⟨by kernel_rfl, rfl⟩) (by assumption) ?_
  try simp only [Act.put]
  refine wpAnyH_take (i := 9) (v := undef) rfl (by kernel_rfl) (by kernel_rfl) (by kernel_rfl) (fun _ _ _ h => h) (Or.inr ⟨by kernel_rfl, rfl⟩) (by assumption) ?_
  try simp only [Act.put]
  refine wpAnyH_take (i := 10) (v := ?_) rfl (by kernel_rfl) (by kernel_rfl) (by kernel_rfl) (fun _ _ _ h => h) (Or.inl ⟨by rfl, ?_⟩) (by assumption) ?_
  rotate_left
  ·intro w hSw; (try dsimp only at hSw); go_simp; (try with_reducible rfl)
  try simp only [Act.put]
  refine wpAnyH_take (i := 11) (v := ?_) rfl (by kernel_rfl) (by kernel_rfl) (by kernel_rfl) (fun _ _ _ h => h) (Or.inl ⟨by rfl, ?_⟩) (by assumption) ?_
  rotate_left
  ·intro w hSw; (try dsimp only at hSw); go_simp; (try with_reducible rfl)
  try simp only [Act.put]
  refine wpAnyH_take (i := 12) (v := undef) rfl (by kernel_rfl) (by kernel_rfl) (by kernel_rfl) (fun _ _ _ h => h) (Or.inr ⟨by kernel_rfl, rfl⟩) (by assumption) ?_
  try simp only [Act.put]
  refine wpAnyH_take (i := 13) (v := undef) rfl (by kernel_rfl) (by kernel_rfl) (by kernel_rfl) (fun _ _ _ h => h) (Or.inr ⟨by kernel_rfl, rfl⟩) (by assumption) ?_
  try simp only [Act.put]
  refine wpAnyH_take (i := 14) (v := undef) rfl (by kernel_rfl) (by kernel_rfl) (by kernel_rfl) (fun _ _ _ h => h) (Or.inr ⟨by kernel_rfl, rfl⟩) (by assumption) ?_
  try simp only [Act.put]
  refine wpAnyH_take (i := 15) (v := undef) rfl (by kernel_rfl) (by kernel_rfl) (by kernel_rfl) (fun _ _ _ h => h) (Or.inr ⟨by kernel_rfl, rfl⟩) (by assumption) ?_
  try simp only [Act.put]
  refine wpAnyH_take (i := 16) (v := undef) rfl (by kernel_rfl) (by kernel_rfl) (by kernel_rfl) (fun _ _ _ h => h) (Or.inr ⟨by kernel_rfl, rfl⟩) (by assumption) ?_
  try simp only [Act.put]
  refine wpAnyH_take (i := 17) (v := undef) rfl (by kernel_rfl) (by kernel_rfl) (by kernel_rfl) (fun _ _ _ h => h) (Or.inr ⟨by kernel_rfl, rfl⟩) (by assumption) ?_
  try simp only [Act.put]
  refine wpAnyH_take (i := 18) (v := undef) rfl (by kernel_rfl) (by kernel_rfl) (by kernel_rfl) (fun _ _ _ h => h) (Or.inr ⟨by kernel_rfl, rfl⟩) (by assumption) ?_
  try simp only [Act.put]
  refine wpAnyH_take (i := 19) (v := ?_) rfl (by kernel_rfl) (by kernel_rfl) (by kernel_rfl) (fun _ _ _ h => h) (Or.inl ⟨by rfl, ?_⟩) (by assumption) ?_
  rotate_left
  ·intro w hSw; (try dsimp only at hSw); go_simp; (try with_reducible rfl)
  try simp only [Act.put]
  refine wpAnyH_take (i := 20) (v := ?_) rfl (by kernel_rfl) (by kernel_rfl) (by kernel_rfl) (fun _ _ _ h => h) (Or.inl ⟨by rfl, ?_⟩) (by assumption) ?_
  rotate_left
  ·intro w hSw; (try dsimp only at hSw); go_simp; (try with_reducible rfl)
  try simp only [Act.put]
  refine wpAnyH_done (by kernel_rfl) ?_ _
  simp only [List.getElem_toArray, List.getElem_cons_zero, List.getElem_cons_succ, List.setIfInBounds_toArray, List.set_cons_zero, List.set_cons_succ]
  go_wp2_with fail
  go_ret
  exact ⟨rfl, HBV.out _ (by repeat (first | exact HV6.out | refine Below.drew ?_))⟩
 have g1 : decide (nn < 1) = false := decide_eq_false h1
 by_cases h2 : nn > 999999999
 ·have g2 : decide (nn > 999999999) = true := decide_eq_true h2
  clear h1 h2 hok
  go_wp2_with fail
  refine wp_region_held_drew (S := fun w' => w'.cell? ⟨w.heap.size, 0, none⟩ = some (.int .i64 nx) ∧ w'.cell? ⟨w.heap.size, 1, none⟩ = some (.slice A n c)) (by kernel_rfl) ?_ (fun hHeld => ?_)
  ·(try dsimp only); (first | assumption | (refine HX.out _ ?_; (repeat (first | exact HV6.out | exact HV5.out | refine Below.drew ?_)); done))
  refine wpAnyH_take (i := 0) (v := ?_) rfl (by kernel_rfl) (by kernel_rfl) (by kernel_rfl) (fun _ _ _ h => h) (Or.inl ⟨by rfl, ?_⟩) (by assumption) ?_
  rotate_left
  ·intro w hSw; (try dsimp only at hSw); go_simp; (try with_reducible rfl)
  try simp only [Act.put, List.setIfInBounds_toArray]
  refine wpAnyH_ready (rs := [1]) (by kernel_rfl) (by simp) ?_
  refine AllReadyH.cons rfl (fun K hK => ?_) AllReadyH.nil
  go_simp; go_at_call 11; refine (HGD.out _ (by repeat (first | exact HV5.out | refine Below.drew ?_))).mono ?_; rintro e V6 ⟨rfl, hv⟩; have HV6 : Hid (Below W1.heap.size W1 V6) := bcall (by repeat (first | exact HV5.out | refine Below.drew ?_)) hv; clear HGD hv
  refine hK.out _ _ ?_ (fun hHeld => ?_)
  ·(try dsimp only); (first | assumption | (refine HX.out _ ?_; (repeat (first | exact HV6.out | exact HV5.out | refine Below.drew ?_)); done))
  clear hK K
  try simp only [Act.put, List.setIfInBounds_toArray, List.set_cons_zero, List.set_cons_succ]
  refine wpAnyH_take (i := 2) (v := ?_) rfl (by kernel_rfl) (by kernel_rfl) (by kernel_rfl) (fun _ _ _ h => h) (Or.inl ⟨by rfl, ?_⟩) (by assumption) ?_
  rotate_left
  ·intro w hSw; (try dsimp only at hSw); go_simp; (try with_reducible rfl)
  try simp only [Act.put, List.setIfInBounds_toArray]
  refine wpAnyH_take (i := 3) (v := ?_) rfl (by kernel_rfl) (by kernel_rfl) (by kernel_rfl) (fun _ _ _ h => h) (Or.inl ⟨by rfl, ?_⟩) (by assumption) ?_
  rotate_left
  ·intro w hSw; (try dsimp only at hSw); go_simp; (try with_reducible rfl)
  try simp only [Act.put]
  refine wpAnyH_take (i := 4) (v := ?_) rfl (by kernel_rfl) (by kernel_rfl) (by kernel_rfl) (fun _ _ _ h => h) (Or.inl ⟨by rfl, ?_⟩) (by assumption) ?_
  rotate_left
  ·intro w hSw; (try dsimp only at hSw); go_simp; (try with_reducible rfl)
  try simp only [Act.put]
  refine wpAnyH_take (i := 5) (v := ?_) rfl (by kernel_rfl) (by kernel_rfl) (by kernel_rfl) (fun _ _ _ h => h) (Or.inl ⟨by rfl, ?_⟩) (by assumption) ?_
  rotate_left
  ·intro w hSw; (try dsimp only at hSw); go_simp; (try with_reducible rfl)
  try simp only [Act.put]
  refine wpAnyH_take (i := 6) (v := ?_) rfl (by kernel_rfl) (by kernel_rfl) (by kernel_rfl) (fun _ _ _ h => h) (Or.inl ⟨by rfl, ?_⟩) (by assumption) ?_
  rotate_left
  ·intro w hSw; (try dsimp only at hSw); go_simp; (try with_reducible rfl)
  try simp only [Act.put]
  refine wpAnyH_take (i := 7) (v := ?_) rfl (by kernel_rfl) (by kernel_rfl) (by kernel_rfl) (fun _ _ _ h => h) (Or.inl ⟨by rfl, ?_⟩) (by assumption) ?_
  rotate_left
  ·intro w hSw; (try dsimp only at hSw); go_simp; (try with_reducible rfl)
  try simp only [Act.put]
  refine wpAnyH_take (i := 8) (v := ?_) rfl (by kernel_rfl) (by kernel_rfl) (by kernel_rfl) (fun _ _ _ h => h) (Or.inl ⟨by rfl, ?_⟩) (by assumption) ?_
  rotate_left
  ·intro w hSw; (try dsimp only at hSw); go_simp; (try with_reducible rfl)
  try simp only [Act.put]
  refine wpAnyH_take (i := 9) (v := ?_) rfl (by kernel_rfl) (by kernel_rfl) (by kernel_rfl) (fun _ _ _ h => h) (Or.inl ⟨by rfl, ?_⟩) (by assumption) ?_
  rotate_left
  ·intro w hSw; (try dsimp only at hSw); go_simp; (try with_reducible rfl)
  try simp only [Act.put]
  refine wpAnyH_take (i := 10) (v := ?_) rfl (by kernel_rfl) (by kernel_rfl) (by kernel_rfl) (fun _ _ _ h => h) (Or.inl ⟨by rfl, ?_⟩) (by assumption) ?_
  rotate_left
  ·intro w hSw; (try dsimp only at hSw); go_simp; (try with_reducible rfl)
  try simp only [Act.put]
  refine wpAnyH_take (i := 11) (v := ?_) rfl (by kernel_rfl) (by kernel_rfl) (by kernel_rfl) (fun _ _ _ h => h) (Or.inl ⟨by rfl, ?_⟩) (by assumption) ?_
  rotate_left
  ·intro w hSw; (try dsimp only at hSw); go_simp; (try with_reducible rfl)
  try simp only [Act.put]
  refine wpAnyH_take (i := 12) (v := undef) rfl (by kernel_rfl) (by kernel_rfl) (by kernel_rfl) (fun _ _ _ h => h) (Or.inr ⟨by kernel_rfl, rfl⟩) (by assumption) ?_
  try simp only [Act.put]
  refine wpAnyH_take (i := 13) (v := undef) rfl (by kernel_rfl) (by kernel_rfl) (by kernel_rfl) (fun _ _ _ h => h) (Or.inr ⟨by kernel_rfl, rfl⟩) (by assumption) ?_
  try simp only [Act.put]
  refine wpAnyH_take (i := 14) (v := undef) rfl (by kernel_rfl) (by kernel_rfl) (by kernel_rfl) (fun _ _ _ h => h) (Or.inr ⟨by kernel_rfl, rfl⟩) (by assumption) ?_
  try simp only [Act.put]
  refine wpAnyH_take (i := 15) (v := undef) rfl (by kernel_rfl) (by kernel_rfl) (by kernel_rfl) (fun _ _ _ h => h) (Or.inr ⟨by kernel_rfl, rfl⟩) (by assumption) ?_
  try simp only [Act.put]
  refine wpAnyH_take (i := 16) (v := undef) rfl (by kernel_rfl) (by kernel_rfl) (by kernel_rfl) (fun _ _ _ h => h) (Or.inr ⟨by kernel_rfl, rfl⟩) (by assumption) ?_
  try simp only [Act.put]
  refine wpAnyH_take (i := 17) (v := undef) rfl (by kernel_rfl) (by kernel_rfl) (by kernel_rfl) (fun _ _ _ h => h) (Or.inr ⟨by kernel_rfl, rfl⟩) (by assumption) ?_
  try simp only [Act.put]
  refine wpAnyH_take (i := 18) (v := undef) rfl (by kernel_rfl) (by kernel_rfl) (by kernel_rfl) (fun _ _ _ h => h) (Or.inr ⟨by kernel_rfl, rfl⟩) (by assumption) ?_
  try simp only [Act.put]
  refine wpAnyH_take (i := 19) (v := ?_) rfl (by kernel_rfl) (by kernel_rfl) (by kernel_rfl) (fun _ _ _ h => h) (Or.inl ⟨by rfl, ?_⟩) (by assumption) ?_
  rotate_left
  ·intro w hSw; (try dsimp only at hSw); go_simp; (try with_reducible rfl)
  try simp only [Act.put]
  refine wpAnyH_take (i := 20) (v := ?_) rfl (by kernel_rfl) (by kernel_rfl) (by kernel_rfl) (fun _ _ _ h => h) (Or.inl ⟨by rfl, ?_⟩) (by assumption) ?_
  rotate_left
  ·intro w hSw; (try dsimp only at hSw); go_simp; (try with_reducible rfl)
  try simp only [Act.put]
  refine wpAnyH_done (by kernel_rfl) ?_ _
  simp only [List.getElem_toArray, List.getElem_cons_zero, List.getElem_cons_succ, List.setIfInBounds_toArray, List.set_cons_zero, List.set_cons_succ]
  go_wp2_with fail
  go_ret
  exact ⟨rfl, HBV.out _ (by repeat (first | exact HV6.out | refine Below.drew ?_))⟩
 have g2 : decide (nn > 999999999) = false := decide_eq_false h2
 have HFF := Lib.hid (HFL.out hok ⟨by omega, by omega⟩)
 have HF1 := Lib.hid HFF.out.1
 have HF2 := Lib.hid HFF.out.2
 clear h1 h2 hok HFF HFL
 go_wp2_with fail
 go_region_held3 (fun w' => w'.cell? ⟨w.heap.size, 0, none⟩ = some (.int .i64 nx) ∧ w'.cell? ⟨w.heap.size, 1, none⟩ = some (.slice A n c))
  (first | assumption | (refine HX.out _ ?_; (repeat (first | exact HV9.out | exact HV8.out | exact HV7.out | exact HV6.out | exact HV5.out | refine Below.drew ?_)); done))
  (first
  | (go_at_call 11; refine (HGD.out _ (by repeat (first | exact HV5.out | refine Below.drew ?_))).mono ?_; rintro e V6 ⟨rfl, hv⟩; have HV6 : Hid (Below W1.heap.size W1 V6) := bcall (by repeat (first | exact HV5.out | refine Below.drew ?_)) hv; clear HGD hv)
  | (go_at_call 15; refine (HF1.out _ (by repeat (first | exact HV6.out | refine Below.drew ?_))).mono ?_; rintro e V7 ⟨A7, k7, c7, rfl, hk7, hr7, hv⟩; have HV7 : Hid (Below W1.heap.size W1 V7) := bcall (by repeat (first | exact HV6.out | refine Below.drew ?_)) hv; have HR7 := Lib.hid hr7; clear HF1 hv hr7)
  | (go_at_call 16; refine (HF2.out _ (by repeat (first | exact HV7.out | refine Below.drew ?_))).mono ?_; rintro e V8 ⟨A8, k8, c8, rfl, hk8, hr8, hv⟩; have HV8 : Hid (Below W1.heap.size W1 V8) := bcall (by repeat (first | exact HV7.out | refine Below.drew ?_)) hv; have HR8 := Lib.hid hr8; have HR7' : Hid (Sl V8 V8.heap.size 1 A7 k7 (((filesZ nn l).map bs).map .string)) := (HR7.out.below (show Below V7.heap.size V7 V8 from bcall (by repeat (first | exact (brefl V7) | refine Below.drew ?_)) hv)).more (show Below V7.heap.size V7 V8 from bcall (by repeat (first | exact (brefl V7) | refine Below.drew ?_)) hv).size; clear HF2 hv hr8)
  | (go_at_call 14; refine (same_yes _ V8.heap.size A7 A8 k7 k8 c7 c8 ((filesZ nn l).map bs) ((filesZ nn l).map bs) (HR7'.out.below (by repeat (first | exact (brefl V8) | refine Below.drew ?_))) (HR8.out.below (by repeat (first | exact (brefl V8) | refine Below.drew ?_))) (Below.size (B := V8.heap.size) (by repeat (first | exact (brefl V8) | refine Below.drew ?_))) (by unfold maxLen; omega) (by unfold maxLen; omega) rfl).mono ?_; rintro e V9 ⟨rfl, hv⟩; have HV9 : Hid (Below W1.heap.size W1 V9) := bcall (by repeat (first | exact HV8.out | refine Below.drew ?_)) hv; clear hv))
 go_wp2_with fail
 go_ret
 exact ⟨rfl, HBV.out _ (by repeat (first | exact HV9.out | refine Below.drew ?_))⟩
end Go.Proofs.YtkhemhiifhggmaaGreatDoor
namespace Go.Proofs.YtkhemhiifhggmaaGreatDoor
open Go.RowKit
abbrev tSeg : Ty := .cons (.int .i64) (.cons (.int .i64) (.cons (.int .i64) (.cons (.int .i64) .nil)))
abbrev tPoint : Ty := .cons (.int .i64) (.cons (.slice tSeg 32) .nil)
theorem ty_point : tyOf Tryz.prog 8 24 = some tPoint := by kernel_rfl
def segOf (d : tSeg.den) : Sg := ⟨(show Int from d.1), (show Int from d.2.1), (show Int from d.2.2.1), (show Int from d.2.2.2.1)⟩
theorem point_in {w : World} {x : tPoint.den} {cs : Array Value} (h : Reads w w.heap.size tPoint x cs.toList) :
  ∃ nx A n c l, cs = #[.int .i64 nx, .slice A n c] ∧ SegsIn w w.heap.size A n l ∧ n ≤ 4398046511104 := by
 obtain ⟨d1, d2, u⟩ := x
 obtain ⟨⟨A, n, c⟩, x2⟩ := d2
 obtain ⟨c1, c2, e, _, h1, h2⟩ := h
 obtain ⟨c3, c4, e2, _, h3, h4⟩ := h2
 obtain ⟨nx, _, hc1, _⟩ := h1
 have hc4 : c4 = [] := h4
 have hs := h3.sl (e := tSeg) (fun d => rfl)
 have hb : n * 32 ≤ reachBytes := h3.2.1.2.2.1
 refine ⟨nx, A, n, c, (List.range n).map fun i => segOf (x2 i), ?_, ⟨?_, ?_⟩, by unfold reachBytes at hb; omega⟩
 ·have hc3 : c3 = [.slice A n c] := h3.1
  have : cs.toList = [.int .i64 nx, .slice A n c] := by rw [e, e2, hc1, hc3, hc4]; rfl
  obtain ⟨l⟩ := cs
  simpa using this
 ·have e3 : ((List.range n).map fun i => segOf (x2 i)).flatMap Sg.cells = (List.range n).flatMap fun i => Ty.cells tSeg (x2 i) := by
   rw [List.flatMap_map]
   rfl
  rw [e3]
  exact hs
 ·rw [List.length_map, List.length_range]
end Go.Proofs.YtkhemhiifhggmaaGreatDoor
