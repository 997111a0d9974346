/- Disk.SyncDir. -/
import Derived.Test.YtfiphjhpjaddcaaNew
import Derived.Test.YtfiphjhpjaddcaaShelf
namespace Go.Proofs.Ytfiphjhpjaddcaa
open Go.RowKit Go.Maps

theorem clone_any {H : Type} (w : World) (b n : Nat) (D : DataW H) (h : w.ownsMap Try.prog 9 (plainElem Try.prog 3) b n D) : Calls Try.prog 32 #[.map (some b)] w fun e w' => e = .returned (.map (some w.heap.size)) ∧ w'.ownsMap Try.prog 9 (plainElem Try.prog 3) w.heap.size n D ∧ Below w.heap.size w w' :=
  (AnyW.maps_Clone_owns Try.clone32 9 (plainElem Try.prog 3) b n D w h).mono fun e w' hh => by
    obtain ⟨h1, h2, _, h4⟩ := hh
    exact ⟨h1, h2, h4⟩

/-- A disk whose maps may be new ones. -/
def NewFoot {H : Type} (w : World) (F : Foot) (D : DS H) (w' : World) : Prop := ∃ F' : Foot, F'.p = F.p ∧ (F'.fb = F.fb ∨ w.heap.size ≤ F'.fb) ∧ (F'.nb = F.nb ∨ w.heap.size ≤ F'.nb) ∧ (F'.kb = F.kb ∨ w.heap.size ≤ F'.kb) ∧ DiskAt w' F' D
theorem NewFoot.same {H : Type} {w w' : World} {F : Foot} {D : DS H} (h : DiskAt w' F D) : NewFoot w F D w' := ⟨F, rfl, .inl rfl, .inl rfl, .inl rfl, h⟩
def DS.syncDir {H : Type} (D : DS H) : DS H × Int :=
  if D.down = true then (D, 15) else if D.step.2 ≠ 0 then D.step else ({ D.step.1 with kept := D.names }, 0)
set_option maxRecDepth 100000 in
set_option maxHeartbeats 4000000 in
theorem syncDir_any {H : Type} (w : World) (F : Foot) (D : DS H) (h : DiskAt w F D) (hf : D.fits) :
    Calls Try.prog 13 #[.pointer (some ⟨F.p, 0, none⟩)] w fun e w' => e = .returned (.int .i64 D.syncDir.2) ∧ NewFoot w F D.syncDir.1 w' ∧ Fr F w w' := by
  obtain ⟨a0, a1, s0, s1, l0, l1, cp⟩ := hf
  have HM := Lib.hid (may_any w F D none 0 0 0 [] h Sl.empty (Nat.zero_le _) (by omega))
  have HST := Lib.hid (fun (w' : World) (h' : DiskAt w' F D) => step_any w' F D h' ⟨a0, a1⟩ ⟨s0, by omega⟩)
  have HD := Lib.hid h
  cases hd : D.down with
  | true =>
    have e1 : mayE [] D.down = 15 := by rw [hd]; rfl
    rw [e1] at HM
    have hcr : Hid (D.syncDir = (D, 15)) := by
      show _ = _
      unfold DS.syncDir
      rw [if_pos hd]
    clear e1 hd h
    go_enter Try.func13, Try.ntmps13
    go_wp2_with fail
    refine HM.out.mono ?_
    rintro e w1 ⟨rfl, hb1⟩
    go_wp2_with fail
    go_ret
    exact ⟨by rw [hcr.out]; rfl, by rw [hcr.out]; exact NewFoot.same (HD.out.below hb1), Fr.of_below hb1⟩
  | false =>
    have e1 : mayE [] D.down = 0 := by rw [hd]; rfl
    rw [e1] at HM
    by_cases ht : D.step.2 = 0
    · have hcr : Hid (D.syncDir = ({ D.step.1 with kept := D.names }, 0)) := by
        show _ = _
        unfold DS.syncDir
        rw [if_neg (by rw [hd]; simp), if_neg (by rw [ht]; simp)]
      have hd1 : D.step.1.names = D.names := by
        unfold DS.step
        split <;> rfl
      obtain ⟨D1, hD1⟩ : ∃ D1, D.step.1 = D1 := ⟨_, rfl⟩
      rw [hD1] at hd1 hcr
      rw [ht, hD1] at HST
      have HE := Lib.hid hd1
      clear e1 hd h ht hD1 hd1
      go_enter Try.func13, Try.ntmps13
      go_wp2_with fail
      refine HM.out.mono ?_
      rintro e w1 ⟨rfl, hb1⟩
      have HB1 := Lib.hid hb1
      clear hb1
      go_wp2_with fail
      refine (HST.out _ (HD.out.below HB1.out)).mono ?_
      rintro e w2 ⟨rfl, hd2, hf2⟩
      obtain ⟨_, c1, _⟩ := hd2.cells
      obtain ⟨n2, ln2, f2⟩ := hd2.nam
      have HC := Lib.hid (clone_any w2 F.nb n2 D1.names f2)
      have HD2 := Lib.hid hd2
      have HR2 := Lib.hid hf2
      have HL2 := Lib.hid ln2
      clear hd2 f2 hf2 ln2
      go_wp2_with fail
      refine HC.out.mono ?_
      rintro e w3 ⟨rfl, ho3, hb3⟩
      have hd3 := HD2.out.below hb3
      have r2 := hd3.free 2
      obtain ⟨_, _, c2, _⟩ := hd3.cells
      have HO3 := Lib.hid ho3
      have HB3 := Lib.hid hb3
      have HD3 := Lib.hid hd3
      clear ho3 hb3 hd3 c1
      go_wp2_with fail
      go_ret
      have hz1 := HB1.out.size
      have hz2 := HR2.out.size
      refine ⟨by rw [hcr.out]; rfl, ?_, (((Fr.of_below HB1.out).trans HR2.out).trans (Fr.of_below HB3.out)).set 2 _⟩
      rw [hcr.out]
      refine ⟨{ F with kb := w2.heap.size }, rfl, .inl rfl, .inl rfl, .inr (by show w.heap.size ≤ w2.heap.size; omega), ?_⟩
      obtain ⟨blk, ⟨m1, k1, g1⟩, ⟨m2, k2, g2⟩, _, ap1, _, _⟩ := HD3.out
      have l1 := (Array.getElem?_eq_some_iff.1 HD2.out.blk).1
      have lf : F.fb < w2.heap.size := by
        obtain ⟨_, ⟨_, _, es, clock, hh, _⟩, _⟩ := HD2.out
        exact (Array.getElem?_eq_some_iff.1 hh).1
      have ln : F.nb < w2.heap.size := by
        obtain ⟨_, _, ⟨_, _, es, clock, hh, _⟩, _⟩ := HD2.out
        exact (Array.getElem?_eq_some_iff.1 hh).1
      refine ⟨by rw [blk_set blk]; rfl, ⟨m1, k1, g1.setCell (map_ne_cells g1 blk) _⟩, ⟨m2, k2, g2.setCell (map_ne_cells g2 blk) _⟩, ⟨n2, HL2.out, ?_⟩, ap1, ?_, ?_⟩
      · show World.ownsMap _ _ _ _ w2.heap.size n2 D.names
        rw [← HE.out]
        exact HO3.out.setCell (map_ne_cells HO3.out blk) _
      · show F.fb ≠ w2.heap.size; omega
      · show F.nb ≠ w2.heap.size; omega
    · have hcr : Hid (D.syncDir = D.step) := by
        show _ = _
        unfold DS.syncDir
        rw [if_neg (by rw [hd]; simp), if_pos ht]
      obtain ⟨t, htt⟩ : ∃ t, D.step.2 = t := ⟨_, rfl⟩
      rw [htt] at ht HST
      have q1 : (t == 0) = false := by simpa using ht
      have q2 : (t != 0) = true := by simpa using ht
      have HT := Lib.hid htt
      clear e1 hd h ht htt
      go_enter Try.func13, Try.ntmps13
      go_wp2_with fail
      refine HM.out.mono ?_
      rintro e w1 ⟨rfl, hb1⟩
      have HB1 := Lib.hid hb1
      clear hb1
      go_wp2_with fail
      refine (HST.out _ (HD.out.below HB1.out)).mono ?_
      rintro e w2 ⟨rfl, hd2, hf2⟩
      have HD2 := Lib.hid hd2
      clear hd2
      go_wp2_with fail
      go_ret
      exact ⟨by rw [hcr.out, HT.out]; rfl, by rw [hcr.out]; exact NewFoot.same HD2.out, (Fr.of_below HB1.out).trans hf2⟩
end Go.Proofs.Ytfiphjhpjaddcaa
