/- Disk.Rename. -/
import Derived.Test.YtfiphjhpjaddcaaRead
namespace Go.Proofs.Ytfiphjhpjaddcaa
open Go.RowKit Go.Maps

theorem may_two {H : Type} (w : World) (F : Foot) (D : DS H) (s x : ByteArray) (h : DiskAt w F D) : Calls Try.prog 27 #[.pointer (some ⟨F.p, 0, none⟩), .slice (some ⟨w.heap.size, 0, none⟩) 2 2] (w.alloc (.cells #[.string s, .string x] 9)) fun e w' => e = .returned (.int .i64 (mayE [s, x] D.down)) ∧ DiskAt w' F D ∧ Below w.heap.size w w' := by
  have hs : Sl (w.alloc (.cells #[.string s, .string x] 9)) (w.heap.size + 1) 1 (some ⟨w.heap.size, 0, none⟩) 2 (([s, x] : List ByteArray).map .string) :=
    ⟨rfl, fun _ => ⟨w.heap.size, 0, rfl, by omega, fun j u hu => by
      have h := news_at w #[.string s, .string x] 9 j u hu
      rwa [Addr.add_lit] at h⟩⟩
  refine (may_any (w.alloc (.cells #[.string s, .string x] 9)) F D _ 2 2 (w.heap.size + 1) [s, x] (h.below (bnew (brefl w) _)) hs (by simp) (by omega)).mono ?_
  rintro e w' ⟨rfl, hb⟩
  exact ⟨rfl, h.below (bcall (bnew (brefl w) _) hb), bcall (bnew (brefl w) _) hb⟩
def DS.rename {H : Type} (D : DS H) (s x : ByteArray) : DS H × Int :=
  if mayE [s, x] D.down ≠ 0 then (D, mayE [s, x] D.down) else if Maps.has D.names (keyS s) = false then (D, 11) else if D.step.2 ≠ 0 then D.step else
    ({ D.step.1 with names := (D.names.del (keyS s)).put (keyS x) (.lit (.int .i64 (numOf D.names s))), cap := D.cap + 2 }, 0)
set_option maxRecDepth 100000 in
set_option maxHeartbeats 4000000 in
theorem rename_any {H : Type} (w : World) (F : Foot) (D : DS H) (s x : ByteArray) (h : DiskAt w F D) (hf : D.fits) (hs : s.size ≤ maxLen) (hx : x.size ≤ maxLen) :
    Calls Try.prog 14 #[.pointer (some ⟨F.p, 0, none⟩), .string s, .string x] w fun e w' => e = .returned (.int .i64 (D.rename s x).2) ∧ DiskAt w' F (D.rename s x).1 ∧ Fr F w w' := by
  obtain ⟨a0, a1, s0, s1, l0, l1, cp⟩ := hf
  have HM := Lib.hid (may_two w F D s x h)
  have HAP := Lib.hid h.apart
  have HST := Lib.hid (fun (w' : World) (h' : DiskAt w' F D) => step_any w' F D h' ⟨a0, a1⟩ ⟨s0, by omega⟩)
  have HS := Lib.hid hs
  have HX := Lib.hid hx
  by_cases hm : mayE [s, x] D.down = 0
  · rw [hm] at HM
    cases hh : Maps.has D.names (keyS s) with
    | false =>
      have hcr : Hid (D.rename s x = (D, 11)) := by
        show _ = _
        unfold DS.rename
        rw [if_neg (by rw [hm]; simp), if_pos hh]
      have HH := Lib.hid hh
      clear hm hh
      go_enter Try.func14, Try.ntmps14
      go_wp2_with fail
      refine HM.out.mono ?_
      rintro e w1 ⟨rfl, hd1, hb1⟩
      obtain ⟨_, c1, _⟩ := hd1.cells
      obtain ⟨n1, ln1, f1⟩ := hd1.nam
      have hl := (names_look f1 s hs).1
      rw [HH.out] at hl
      have HD1 := Lib.hid hd1
      clear hd1 f1
      go_wp2_with fail
      go_ret
      exact ⟨by rw [hcr.out]; rfl, by rw [hcr.out]; exact HD1.out, Fr.of_below hb1⟩
    | true =>
      by_cases ht : D.step.2 = 0
      · have hcr : Hid (D.rename s x = ({ D.step.1 with names := (D.names.del (keyS s)).put (keyS x) (.lit (.int .i64 (numOf D.names s))), cap := D.cap + 2 }, 0)) := by
          show _ = _
          unfold DS.rename
          rw [if_neg (by rw [hm]; simp), if_neg (by rw [hh]; simp), if_neg (by rw [ht]; simp)]
        have hd1 : D.step.1.names = D.names ∧ D.step.1.cap = D.cap := by
          unfold DS.step
          split <;> exact ⟨rfl, rfl⟩
        obtain ⟨D1, hD1⟩ : ∃ D1, D.step.1 = D1 := ⟨_, rfl⟩
        rw [hD1] at hd1 hcr
        rw [ht, hD1] at HST
        have HE := Lib.hid hd1
        have HH := Lib.hid hh
        clear hm hh ht hD1 hd1
        go_enter Try.func14, Try.ntmps14
        go_wp2_with fail
        refine HM.out.mono ?_
        rintro e w1 ⟨rfl, hd1, hb1⟩
        obtain ⟨_, c1, _⟩ := hd1.cells
        obtain ⟨n1, ln1, f1⟩ := hd1.nam
        obtain ⟨hl, hkw, _⟩ := names_look f1 s hs
        have HKW := Lib.hid hkw
        rw [HH.out] at hl
        have HD1 := Lib.hid hd1
        have HB1 := Lib.hid hb1
        clear hd1 f1 hb1 hkw
        generalize numOf D.names s = k at *
        go_wp2_with fail
        refine (HST.out _ HD1.out).mono ?_
        rintro e w2 ⟨rfl, hd2, hf2⟩
        clear c1 hl
        obtain ⟨_, c1, _⟩ := hd2.cells
        obtain ⟨n2, ln2, f2⟩ := hd2.nam
        have HF2 := Lib.hid f2
        have HD2 := Lib.hid hd2
        have HR2 := Lib.hid hf2
        have HL2 := Lib.hid ln2
        clear f2 hd2 hf2 ln2
        go_wp2_with (first
          | (at_delete; refine wpList_delete_own _ rfl _ _ _ _ rfl _ lawS Try.underlying56 (plainElem Try.prog 3) F.nb n2 D1.names rfl HF2.out (.string s) (keyS s) rfl (Go.WideMaps.keyOf_string_mk Try.underlying9 HS.out) ?_; intro w3 ho3 hg3; have c1w := cell_grown c1 hg3.grown HAP.out.2.1; have HO3 := Lib.hid ho3; have HG3 := Lib.hid hg3.grown; clear ho3 hg3)
          | (at_mapUpdate; refine wpList_mapUpdate_own _ rfl _ _ _ _ rfl _ _ lawS Try.underlying56 (plainElem Try.prog 3) F.nb n2 _ rfl HO3.out (by unfold maxLen; have := HE.out.2; have := HL2.out; omega) (.string x) (.int .i64 k) (keyS x) rfl rfl (Go.WideMaps.keyOf_string_mk Try.underlying9 HX.out) _ _ (plainElem_int Try.underlying3 HKW.out) ?_; intro w4 ho4 hg4))
        have hd3 := HD2.out.names' (w' := w3) (Nat.le_succ_of_le HL2.out) HO3.out HG3.out
        have HR3 := Lib.hid (((Fr.of_below HB1.out).trans HR2.out).grown HG3.out (.inr (.inl rfl)))
        have HD3 := Lib.hid hd3
        clear hd3
        go_ret
        have hd4 := HD3.out.names' (w' := w4) (Nat.succ_le_succ (Nat.le_succ_of_le HL2.out)) ho4 hg4
        refine ⟨by rw [hcr.out]; rfl, ?_, HR3.out.grown hg4 (.inr (.inl rfl))⟩
        rw [hcr.out]
        simp only [HE.out.1, HE.out.2] at hd4
        exact hd4
      · have hcr : Hid (D.rename s x = D.step) := by
          show _ = _
          unfold DS.rename
          rw [if_neg (by rw [hm]; simp), if_neg (by rw [hh]; simp), if_pos ht]
        obtain ⟨t, htt⟩ : ∃ t, D.step.2 = t := ⟨_, rfl⟩
        rw [htt] at ht HST
        have q1 : (t == 0) = false := by simpa using ht
        have q2 : (t != 0) = true := by simpa using ht
        have HT := Lib.hid htt
        have HH := Lib.hid hh
        clear hm ht htt hh
        go_enter Try.func14, Try.ntmps14
        go_wp2_with fail
        refine HM.out.mono ?_
        rintro e w1 ⟨rfl, hd1, hb1⟩
        obtain ⟨_, c1, _⟩ := hd1.cells
        obtain ⟨n1, ln1, f1⟩ := hd1.nam
        have hl := (names_look f1 s hs).1
        rw [HH.out] at hl
        have HD1 := Lib.hid hd1
        have HB1 := Lib.hid hb1
        clear hd1 f1 hb1
        go_wp2_with fail
        refine (HST.out _ HD1.out).mono ?_
        rintro e w2 ⟨rfl, hd2, hf2⟩
        have HD2 := Lib.hid hd2
        clear hd2 c1 hl
        go_wp2_with fail
        go_ret
        exact ⟨by rw [hcr.out, HT.out]; rfl, by rw [hcr.out]; exact HD2.out, (Fr.of_below HB1.out).trans hf2⟩
  · have hcr : Hid (D.rename s x = (D, mayE [s, x] D.down)) := by
      show _ = _
      unfold DS.rename
      rw [if_pos hm]
    obtain ⟨t, htt⟩ : ∃ t, mayE [s, x] D.down = t := ⟨_, rfl⟩
    rw [htt] at hm HM hcr
    have q1 : (t == 0) = false := by simpa using hm
    have q2 : (t != 0) = true := by simpa using hm
    clear hm htt hs
    go_enter Try.func14, Try.ntmps14
    go_wp2_with fail
    refine HM.out.mono ?_
    rintro e w1 ⟨rfl, hd1, hb1⟩
    have HD1 := Lib.hid hd1
    clear hd1
    go_wp2_with fail
    go_ret
    exact ⟨by rw [hcr.out]; rfl, by rw [hcr.out]; exact HD1.out, Fr.of_below hb1⟩
end Go.Proofs.Ytfiphjhpjaddcaa
