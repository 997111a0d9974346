/- Disk.Create. -/
import Derived.Test.YtfiphjhpjaddcaaStore
namespace Go.Proofs.Ytfiphjhpjaddcaa
open Go.RowKit Go.Maps

theorem sl_one (w : World) (x : Value) (e : TypeId) : Sl (w.alloc (.cells #[x] e)) (w.heap.size + 1) 1 (some ⟨w.heap.size, 0, none⟩) 1 [x] :=
  ⟨rfl, fun _ => ⟨w.heap.size, 0, rfl, by omega, fun j u hu => by
    have h := news_at w #[x] e j u hu
    rwa [Addr.add_lit] at h⟩⟩
theorem may_one {H : Type} (w : World) (F : Foot) (D : DS H) (s : ByteArray) (h : DiskAt w F D) : Calls Try.prog 27 #[.pointer (some ⟨F.p, 0, none⟩), .slice (some ⟨w.heap.size, 0, none⟩) 1 1] (w.alloc (.cells #[.string s] 9)) fun e w' => e = .returned (.int .i64 (mayE [s] D.down)) ∧ DiskAt w' F D ∧ Below w.heap.size w w' := by
  refine (may_any (w.alloc (.cells #[.string s] 9)) F D _ 1 1 (w.heap.size + 1) [s] (h.below (bnew (brefl w) _)) (sl_one w _ _) (by simp) (by omega)).mono ?_
  rintro e w' ⟨rfl, hb⟩
  exact ⟨rfl, h.below (bcall (bnew (brefl w) _) hb), bcall (bnew (brefl w) _) hb⟩
theorem cells2_grown {w' w'' : World} {p i j c : Nat} {x y : Value} (h : w'.cell? ⟨p, i, none⟩ = some x ∧ w'.cell? ⟨p, j, none⟩ = some y) (hg : w'.grownBy w'' (some c)) (hr : p ≠ c) : w''.cell? ⟨p, i, none⟩ = some x ∧ w''.cell? ⟨p, j, none⟩ = some y := by
  obtain ⟨h1, h2⟩ := h
  have hl := (lt_of_cell h1).1
  exact ⟨(World.cell?_of_block (w := w') (hg.block p hl (by simpa using hr))).trans h1, (World.cell?_of_block (w := w') (hg.block p hl (by simpa using hr))).trans h2⟩
theorem DiskAt.apart {H : Type} {w : World} {F : Foot} {D : DS H} (h : DiskAt w F D) : F.p ≠ F.fb ∧ F.p ≠ F.nb ∧ F.p ≠ F.kb := by
  obtain ⟨blk, ⟨n1, l1, f1⟩, ⟨n2, l2, f2⟩, ⟨n3, l3, f3⟩, _⟩ := h
  exact ⟨Ne.symm (map_ne_cells f1 blk), Ne.symm (map_ne_cells f2 blk), Ne.symm (map_ne_cells f3 blk)⟩
theorem fileElem_mk {H : Type} {s : ByteArray} {n : Int} (hs : s.size ≤ maxLen) (hw : (Lit.int .i64 n).wf = true) : fileElem (H := H) (.agg #[.string s, .int .i64 n]) = some (.agg [.lit (.string s.data.toList), .lit (.int .i64 n)], []) := by
  simp [fileElem, hs, hw]
/-- The bounds under which a disk counts. -/
structure DS.fits {H : Type} (D : DS H) : Prop where
  a0 : -1 ≤ D.armed
  a1 : D.armed ≤ 9223372036854775807
  s0 : 0 ≤ D.steps
  s1 : D.steps ≤ 1099511627776
  l0 : 0 ≤ D.last
  l1 : D.last ≤ 1099511627776
  c1 : D.cap ≤ 1099511627776

set_option maxRecDepth 100000 in
set_option maxHeartbeats 4000000 in
theorem create_any {H : Type} (w : World) (F : Foot) (D : DS H) (s : ByteArray) (h : DiskAt w F D) (hf : D.fits) (hs : s.size ≤ maxLen) :
    Calls Try.prog 10 #[.pointer (some ⟨F.p, 0, none⟩), .string s] w fun e w' => e = .returned (.int .i64 (D.create s).2) ∧ DiskAt w' F (D.create s).1 ∧ Fr F w w' := by
  obtain ⟨a0, a1, s0, s1, l0, l1, cp⟩ := hf
  have HM := Lib.hid (may_one w F D s h)
  have HAP := Lib.hid h.apart
  have HST := Lib.hid (fun (w' : World) (h' : DiskAt w' F D) => step_any w' F D h' ⟨a0, a1⟩ ⟨s0, by omega⟩)
  have HS := Lib.hid hs
  by_cases hm : mayE [s] D.down = 0
  · rw [hm] at HM
    by_cases ht : D.step.2 = 0
    · have hcr : Hid (D.create s = ({ D.step.1 with last := D.last + 1, files := D.files.put (.int .i64 (D.last + 1)) (.agg [.lit (.string []), .lit (.int .i64 0)]), names := D.names.put (.string s.data.toList) (.lit (.int .i64 (D.last + 1))), cap := D.cap + 2 }, 0)) := by
        show _ = _
        unfold DS.create
        rw [if_neg (by rw [hm]; simp), if_neg (by rw [ht]; simp)]
      have hd1 : D.step.1.last = D.last ∧ D.step.1.files = D.files ∧ D.step.1.names = D.names ∧ D.step.1.cap = D.cap := by
        unfold DS.step
        split <;> exact ⟨rfl, rfl, rfl, rfl⟩
      obtain ⟨D1, hD1⟩ : ∃ D1, D.step.1 = D1 := ⟨_, rfl⟩
      rw [hD1] at hd1 hcr
      rw [ht, hD1] at HST
      obtain ⟨e1, e2, e3, e4⟩ := hd1
      have HE := Lib.hid (And.intro e1 (And.intro e2 (And.intro e3 e4)))
      clear hm ht hs hD1
      go_enter Try.func10, Try.ntmps10
      go_wp2_with fail
      refine HM.out.mono ?_
      rintro e w1 ⟨rfl, hd1, hb1⟩
      have HB1 := Lib.hid hb1
      have HD1 := Lib.hid hd1
      clear hd1 hb1
      go_wp2_with fail
      refine (HST.out _ HD1.out).mono ?_
      rintro e w2 ⟨rfl, hd2, hf2⟩
      have HF2 := Lib.hid hf2
      have hc := hd2.cells
      rw [e1] at hc
      obtain ⟨c0, c1, c2, c3, c4, c5, c6, c7⟩ := hc
      have r3 := hd2.free 3
      have HD2 := Lib.hid hd2
      have HD3 := Lib.hid (hd2.set (D' := { D1 with last := D.last + 1 }) 3 (.int .i64 (D.last + 1)) rfl rfl rfl rfl (Nat.le_refl _))
      obtain ⟨x0, _, _, x3, _⟩ := HD3.out.cells
      obtain ⟨n1, ln1, f1⟩ := HD3.out.fil
      have HF1 := Lib.hid f1
      clear hd2 hf2 c1 c2 c4 c5 c6 c7 e1 e2 e3 e4 f1
      go_wp2_with fail
      obtain ⟨w3, run3, ho3, ht3⟩ := World.ownsMap.store (w := (w2.setCell ⟨F.p, 3, none⟩ (.int .i64 (D.last + 1))).drew) HF1.out lawI Try.underlying55 (by unfold maxLen; have := HE.out.2.2.2; omega) (key := .int .i64 (D.last + 1)) (val := .agg #[.string ⟨#[]⟩, .int .i64 0]) (keyOf_int_mk Try.underlying3 (WalkArith.wf_i64 (by omega))) (fileElem_mk (s := ⟨#[]⟩) (n := 0) (Nat.zero_le _) (by decide))
      have hg3 := ht3.grown
      have HG3 := Lib.hid hg3
      have HO3 := Lib.hid ho3
      clear ho3 ht3 hg3
      go_region_held3 (fun w' => w'.cell? ⟨F.p, 0, none⟩ = some (.map (some F.fb)) ∧ w'.cell? ⟨F.p, 3, none⟩ = some (.int .i64 (D.last + 1)))
        (first
          | (refine cells2_grown ?_ HG3.out HAP.out.1; assumption)
          | (refine ⟨?_, ?_⟩ <;> first | exact x0 | exact x3 | (simp; done)))
        (fail)
      have HD4 := Lib.hid ((HD3.out.below (brefl _).drew).files' (w' := w3) (by have := HE.out.2.2.2; show n1 + 1 ≤ D1.cap + 1; omega) HO3.out HG3.out)
      have HF3 := Lib.hid (((HF2.out.set 3 (.int .i64 (D.last + 1))).trans (Fr.of_below (brefl _).drew)).grown HG3.out (.inl rfl))
      clear x0 x3 c0 c3 r3 run3
      obtain ⟨_, y1, _, y3, _⟩ := HD4.out.cells
      obtain ⟨n2, ln2, f2⟩ := HD4.out.nam
      obtain ⟨w4, run4, ho4, ht4⟩ := World.ownsMap.store (w := w3.drew) f2 lawS Try.underlying56 (by unfold maxLen; have := HE.out.2.2.2; have : n2 ≤ D1.cap + 1 := ln2; omega) (key := .string s) (val := .int .i64 (D.last + 1)) (Go.WideMaps.keyOf_string_mk Try.underlying9 HS.out) (plainElem_int Try.underlying3 (WalkArith.wf_i64 (by omega)))
      have HG4 := Lib.hid ht4.grown
      have HO4 := Lib.hid ho4
      have HL2 := Lib.hid ln2
      clear ho4 ht4 f2 ln2
      go_wp2_with fail
      go_region_held3 (fun w' => w'.cell? ⟨F.p, 1, none⟩ = some (.map (some F.nb)) ∧ w'.cell? ⟨F.p, 3, none⟩ = some (.int .i64 (D.last + 1)))
        (first
          | (refine cells2_grown ?_ HG4.out HAP.out.2.1; assumption)
          | (refine ⟨?_, ?_⟩ <;> first | exact y1 | exact y3 | (simp; done)))
        (fail)
      have HD5 := Lib.hid ((HD4.out.below (brefl _).drew).names' (w' := w4) (by have := HL2.out; show n2 + 1 ≤ D1.cap + 1 + 1; exact Nat.succ_le_succ this) HO4.out HG4.out)
      have HF4 := Lib.hid ((HF3.out.trans (Fr.of_below (brefl _).drew)).grown HG4.out (.inr (.inl rfl)))
      go_wp2_with fail
      go_ret
      refine ⟨by rw [hcr.out]; rfl, ?_, (Fr.of_below HB1.out).trans HF4.out⟩
      rw [hcr.out]
      obtain ⟨e1, e2, e3, e4⟩ := HE.out
      have hd5 := HD5.out
      simp only [e2, e3, e4] at hd5
      exact hd5
    · have hcr : Hid (D.create s = D.step) := by
        show _ = _
        unfold DS.create
        rw [if_neg (by rw [hm]; simp), if_pos ht]
      obtain ⟨t, htt⟩ : ∃ t, D.step.2 = t := ⟨_, rfl⟩
      rw [htt] at ht HST
      have q1 : (t == 0) = false := by simpa using ht
      have q2 : (t != 0) = true := by simpa using ht
      have HT := Lib.hid htt
      clear hm ht htt hs
      go_enter Try.func10, Try.ntmps10
      go_wp2_with fail
      refine HM.out.mono ?_
      rintro e w1 ⟨rfl, hd1, hb1⟩
      have HB1 := Lib.hid hb1
      have HD1 := Lib.hid hd1
      clear hd1 hb1
      go_wp2_with fail
      refine (HST.out _ HD1.out).mono ?_
      rintro e w2 ⟨rfl, hd2, hf2⟩
      have HD2 := Lib.hid hd2
      clear hd2
      go_wp2_with fail
      go_ret
      exact ⟨by rw [hcr.out, HT.out]; rfl, by rw [hcr.out]; exact HD2.out, (Fr.of_below HB1.out).trans hf2⟩
  · have hcr : Hid (D.create s = (D, mayE [s] D.down)) := by
      show _ = _
      unfold DS.create
      rw [if_pos hm]
    obtain ⟨t, htt⟩ : ∃ t, mayE [s] D.down = t := ⟨_, rfl⟩
    rw [htt] at hm HM hcr
    have q1 : (t == 0) = false := by simpa using hm
    have q2 : (t != 0) = true := by simpa using hm
    clear hm htt hs
    go_enter Try.func10, Try.ntmps10
    go_wp2_with fail
    refine HM.out.mono ?_
    rintro e w1 ⟨rfl, hd1, hb1⟩
    have HD1 := Lib.hid hd1
    clear hd1
    go_wp2_with fail
    go_ret
    exact ⟨by rw [hcr.out]; rfl, by rw [hcr.out]; exact HD1.out, Fr.of_below hb1⟩
end Go.Proofs.Ytfiphjhpjaddcaa
