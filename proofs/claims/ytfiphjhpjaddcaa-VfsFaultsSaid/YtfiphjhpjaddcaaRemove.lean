/- Disk.Remove; how names are looked up. -/
import Derived.Test.YtfiphjhpjaddcaaCreate
namespace Go.Proofs.Ytfiphjhpjaddcaa
open Go.RowKit Go.Maps

def intOfD {H : Type} : DataW H → Int
  | .lit (.int _ n) => n
  | _ => 0
def keyS (s : ByteArray) : Lit := .string s.data.toList
/-- The number of a name, and whether it is there. -/
def numOf {H : Type} (N : DataW H) (s : ByteArray) : Int := intOfD (N.atKey (keyS s) (.lit (.int .i64 0)))
theorem zeroI (w : World) : (zeroValue 3).run Try.prog w = .ok (.int .i64 0) w := by kernel_rfl
theorem names_look {H : Type} {w : World} {b n : Nat} {N : DataW H} (h : w.ownsMap Try.prog 9 (plainElem Try.prog 3) b n N) (s : ByteArray) (hs : s.size ≤ maxLen) :
    (Instr.lookup 56 (.map (some b)) (.string s) true).run Try.prog w = .ok (.tuple #[.int .i64 (numOf N s), .bool (Maps.has N (keyS s))]) w ∧ (Lit.int .i64 (numOf N s)).wf = true ∧ N.atKey (keyS s) (.lit (.int .i64 0)) = .lit (.int .i64 (numOf N s)) := by
  obtain ⟨v, ps, hrun, hR⟩ := h.look_ok lawS Try.underlying56 (zeroI w) (plainElem_int Try.underlying3 (a := 0) (by decide)) (Go.WideMaps.keyOf_string_mk Try.underlying9 hs)
  obtain ⟨c, rfl, hc, hw⟩ := plainElem_int_inv Try.underlying3 hR
  injection hc with hc _
  have e : numOf N s = c := by
    unfold numOf keyS
    rw [hc]
    rfl
  rw [e]
  exact ⟨hrun, hw, hc⟩
def DS.remove {H : Type} (D : DS H) (s : ByteArray) : DS H × Int :=
  if mayE [s] D.down ≠ 0 then (D, mayE [s] D.down) else if Maps.has D.names (keyS s) = false then (D, 11) else if D.step.2 ≠ 0 then D.step else
    ({ D.step.1 with names := D.names.del (keyS s), cap := D.cap + 1 }, 0)
set_option maxRecDepth 100000 in
set_option maxHeartbeats 4000000 in
theorem remove_any {H : Type} (w : World) (F : Foot) (D : DS H) (s : ByteArray) (h : DiskAt w F D) (hf : D.fits) (hs : s.size ≤ maxLen) :
    Calls Try.prog 24 #[.pointer (some ⟨F.p, 0, none⟩), .string s] w fun e w' => e = .returned (.int .i64 (D.remove s).2) ∧ DiskAt w' F (D.remove s).1 ∧ Fr F w w' := by
  obtain ⟨a0, a1, s0, s1, l0, l1, cp⟩ := hf
  have HM := Lib.hid (may_one w F D s h)
  have HAP := Lib.hid h.apart
  have HST := Lib.hid (fun (w' : World) (h' : DiskAt w' F D) => step_any w' F D h' ⟨a0, a1⟩ ⟨s0, by omega⟩)
  have HS := Lib.hid hs
  by_cases hm : mayE [s] D.down = 0
  · rw [hm] at HM
    cases hh : Maps.has D.names (keyS s) with
    | false =>
      have hcr : Hid (D.remove s = (D, 11)) := by
        show _ = _
        unfold DS.remove
        rw [if_neg (by rw [hm]; simp), if_pos hh]
      have HH := Lib.hid hh
      clear hm hh
      go_enter Try.func24, Try.ntmps24
      go_wp2_with fail
      refine HM.out.mono ?_
      rintro e w1 ⟨rfl, hd1, hb1⟩
      obtain ⟨_, c1, _⟩ := hd1.cells
      obtain ⟨n1, ln1, f1⟩ := hd1.nam
      have hl := (names_look f1 s hs).1
      rw [HH.out] at hl
      have HD1 := Lib.hid hd1
      clear hd1 f1
      go_wp2_with fail
      go_ret
      exact ⟨by rw [hcr.out]; rfl, by rw [hcr.out]; exact HD1.out, Fr.of_below hb1⟩
    | true =>
      by_cases ht : D.step.2 = 0
      · have hcr : Hid (D.remove s = ({ D.step.1 with names := D.names.del (keyS s), cap := D.cap + 1 }, 0)) := by
          show _ = _
          unfold DS.remove
          rw [if_neg (by rw [hm]; simp), if_neg (by rw [hh]; simp), if_neg (by rw [ht]; simp)]
        have hd1 : D.step.1.names = D.names ∧ D.step.1.cap = D.cap := by
          unfold DS.step
          split <;> exact ⟨rfl, rfl⟩
        obtain ⟨D1, hD1⟩ : ∃ D1, D.step.1 = D1 := ⟨_, rfl⟩
        rw [hD1] at hd1 hcr
        rw [ht, hD1] at HST
        have HE := Lib.hid hd1
        have HH := Lib.hid hh
        clear hm hh ht hD1 hd1
        go_enter Try.func24, Try.ntmps24
        go_wp2_with fail
        refine HM.out.mono ?_
        rintro e w1 ⟨rfl, hd1, hb1⟩
        obtain ⟨_, c1, _⟩ := hd1.cells
        obtain ⟨n1, ln1, f1⟩ := hd1.nam
        have hl := (names_look f1 s hs).1
        rw [HH.out] at hl
        have HD1 := Lib.hid hd1
        have HB1 := Lib.hid hb1
        clear hd1 f1 hb1
        go_wp2_with fail
        refine (HST.out _ HD1.out).mono ?_
        rintro e w2 ⟨rfl, hd2, hf2⟩
        clear c1 hl
        obtain ⟨_, c1, _⟩ := hd2.cells
        obtain ⟨n2, ln2, f2⟩ := hd2.nam
        have HF2 := Lib.hid f2
        have HD2 := Lib.hid hd2
        have HR2 := Lib.hid hf2
        have HL2 := Lib.hid ln2
        clear f2 hd2 hf2 ln2
        go_wp2_with (at_delete; refine wpList_delete_own _ rfl _ _ _ _ rfl _ lawS Try.underlying56 (plainElem Try.prog 3) F.nb n2 D1.names rfl HF2.out (.string s) (keyS s) rfl (Go.WideMaps.keyOf_string_mk Try.underlying9 HS.out) ?_; intro w3 ho3 hg3)
        go_ret
        have hd3 := HD2.out.names' (w' := w3) (Nat.le_succ_of_le HL2.out) ho3 hg3.grown
        refine ⟨by rw [hcr.out]; rfl, ?_, ((Fr.of_below HB1.out).trans HR2.out).grown hg3.grown (.inr (.inl rfl))⟩
        rw [hcr.out]
        simp only [HE.out.1, HE.out.2] at hd3
        exact hd3
      · have hcr : Hid (D.remove s = D.step) := by
          show _ = _
          unfold DS.remove
          rw [if_neg (by rw [hm]; simp), if_neg (by rw [hh]; simp), if_pos ht]
        obtain ⟨t, htt⟩ : ∃ t, D.step.2 = t := ⟨_, rfl⟩
        rw [htt] at ht HST
        have q1 : (t == 0) = false := by simpa using ht
        have q2 : (t != 0) = true := by simpa using ht
        have HT := Lib.hid htt
        have HH := Lib.hid hh
        clear hm ht htt hh
        go_enter Try.func24, Try.ntmps24
        go_wp2_with fail
        refine HM.out.mono ?_
        rintro e w1 ⟨rfl, hd1, hb1⟩
        obtain ⟨_, c1, _⟩ := hd1.cells
        obtain ⟨n1, ln1, f1⟩ := hd1.nam
        have hl := (names_look f1 s hs).1
        rw [HH.out] at hl
        have HD1 := Lib.hid hd1
        have HB1 := Lib.hid hb1
        clear hd1 f1 hb1
        go_wp2_with fail
        refine (HST.out _ HD1.out).mono ?_
        rintro e w2 ⟨rfl, hd2, hf2⟩
        have HD2 := Lib.hid hd2
        clear hd2 c1 hl
        go_wp2_with fail
        go_ret
        exact ⟨by rw [hcr.out, HT.out]; rfl, by rw [hcr.out]; exact HD2.out, (Fr.of_below HB1.out).trans hf2⟩
  · have hcr : Hid (D.remove s = (D, mayE [s] D.down)) := by
      show _ = _
      unfold DS.remove
      rw [if_pos hm]
    obtain ⟨t, htt⟩ : ∃ t, mayE [s] D.down = t := ⟨_, rfl⟩
    rw [htt] at hm HM hcr
    have q1 : (t == 0) = false := by simpa using hm
    have q2 : (t != 0) = true := by simpa using hm
    clear hm htt hs
    go_enter Try.func24, Try.ntmps24
    go_wp2_with fail
    refine HM.out.mono ?_
    rintro e w1 ⟨rfl, hd1, hb1⟩
    have HD1 := Lib.hid hd1
    clear hd1
    go_wp2_with fail
    go_ret
    exact ⟨by rw [hcr.out]; rfl, by rw [hcr.out]; exact HD1.out, Fr.of_below hb1⟩
end Go.Proofs.Ytfiphjhpjaddcaa
