/- Disk.Read, Steps, Down, Calm. -/
import Derived.Test.YtfiphjhpjaddcaaAppend
namespace Go.Proofs.Ytfiphjhpjaddcaa
open Go.RowKit Go.Maps

theorem file_field (X : ByteArray) (m : Int) (w : World) : (Instr.field 62 (.agg #[.string X, .int .i64 m]) 0).run Try.prog w = .ok (.string X) w := by kernel_rfl
def readS {H : Type} (D : DS H) (s : ByteArray) : ByteArray := if mayE [s] D.down ≠ 0 then ⟨#[]⟩ else if Maps.has D.names (keyS s) = false then ⟨#[]⟩ else bs (fileOf D.files (numOf D.names s)).1
def readE {H : Type} (D : DS H) (s : ByteArray) : Int := if mayE [s] D.down ≠ 0 then mayE [s] D.down else if Maps.has D.names (keyS s) = false then 11 else 0
set_option maxRecDepth 100000 in
set_option maxHeartbeats 2000000 in
theorem read_any {H : Type} (w : World) (F : Foot) (D : DS H) (s : ByteArray) (h : DiskAt w F D) (hs : s.size ≤ maxLen) :
    Calls Try.prog 16 #[.pointer (some ⟨F.p, 0, none⟩), .string s] w fun e w' => e = .returned (.tuple #[.string (readS D s), .int .i64 (readE D s)]) ∧ Below w.heap.size w w' := by
  have HM := Lib.hid (may_one w F D s h)
  have HS := Lib.hid hs
  by_cases hm : mayE [s] D.down = 0
  · rw [hm] at HM
    cases hh : Maps.has D.names (keyS s) with
    | false =>
      have hcr : Hid (readS D s = ⟨#[]⟩ ∧ readE D s = 11) := by
        unfold readS readE
        rw [if_neg (by rw [hm]; simp), if_pos hh, if_neg (by rw [hm]; simp), if_pos hh]
        exact ⟨rfl, rfl⟩
      have HH := Lib.hid hh
      clear hm hh
      go_enter Try.func16, Try.ntmps16
      go_wp2_with fail
      refine HM.out.mono ?_
      rintro e w1 ⟨rfl, hd1, hb1⟩
      obtain ⟨_, c1, _⟩ := hd1.cells
      obtain ⟨n1, ln1, f1⟩ := hd1.nam
      have hl := (names_look f1 s hs).1
      rw [HH.out] at hl
      clear hd1 f1
      go_wp2_with fail
      go_ret2
      exact ⟨by rw [hcr.out.1, hcr.out.2]; rfl, hb1⟩
    | true =>
      have hcr : Hid (readS D s = bs (fileOf D.files (numOf D.names s)).1 ∧ readE D s = 0) := by
        unfold readS readE
        rw [if_neg (by rw [hm]; simp), if_neg (by rw [hh]; simp), if_neg (by rw [hm]; simp), if_neg (by rw [hh]; simp)]
        exact ⟨rfl, rfl⟩
      have HH := Lib.hid hh
      clear hm hh
      go_enter Try.func16, Try.ntmps16
      go_wp2_with fail
      refine HM.out.mono ?_
      rintro e w1 ⟨rfl, hd1, hb1⟩
      obtain ⟨c0, c1, _⟩ := hd1.cells
      obtain ⟨n1, ln1, f1⟩ := hd1.nam
      obtain ⟨n2, ln2, f2⟩ := hd1.fil
      obtain ⟨hl, hkw, _⟩ := names_look f1 s hs
      rw [HH.out] at hl
      obtain ⟨r, hlk, hr, _⟩ := files_look (w := w1) f2 _ hkw false
      rw [hr rfl] at hlk
      have hfld := file_field (bs (fileOf D.files (numOf D.names s)).1) (fileOf D.files (numOf D.names s)).2 w1
      clear hd1 f1 f2 hr
      go_wp2_with fail
      go_ret2
      exact ⟨by rw [hcr.out.1, hcr.out.2]; rfl, hb1⟩
  · have hcr : Hid (readS D s = ⟨#[]⟩ ∧ readE D s = mayE [s] D.down) := by
      unfold readS readE
      rw [if_pos hm, if_pos hm]
      exact ⟨rfl, rfl⟩
    obtain ⟨t, htt⟩ : ∃ t, mayE [s] D.down = t := ⟨_, rfl⟩
    rw [htt] at hm HM hcr
    have q1 : (t == 0) = false := by simpa using hm
    have q2 : (t != 0) = true := by simpa using hm
    clear hm htt hs
    go_enter Try.func16, Try.ntmps16
    go_wp2_with fail
    refine HM.out.mono ?_
    rintro e w1 ⟨rfl, hd1, hb1⟩
    clear hd1
    go_wp2_with fail
    go_ret2
    exact ⟨by rw [hcr.out.1, hcr.out.2]; rfl, hb1⟩
theorem steps_any {H : Type} (w : World) (F : Foot) (D : DS H) (h : DiskAt w F D) : Calls Try.prog 25 #[.pointer (some ⟨F.p, 0, none⟩)] w fun e w' => e = .returned (.int .i64 D.steps) ∧ w = w' := by
  obtain ⟨_, _, _, _, c4, _⟩ := h.cells
  clear h
  go_enter Try.func25, Try.ntmps25
  go_wp2_with fail
  go_ret
  exact ⟨rfl, rfl⟩
theorem down_any {H : Type} (w : World) (F : Foot) (D : DS H) (h : DiskAt w F D) : Calls Try.prog 18 #[.pointer (some ⟨F.p, 0, none⟩)] w fun e w' => e = .returned (.bool D.down) ∧ Below w.heap.size w w' := by
  obtain ⟨_, _, _, _, _, _, _, c7⟩ := h.cells
  clear h
  go_enter Try.func18, Try.ntmps18
  go_wp2_with fail
  go_ret
  exact ⟨rfl, brefl w⟩
theorem calm_any {H : Type} (w : World) (F : Foot) (D : DS H) (h : DiskAt w F D) : Calls Try.prog 20 #[.pointer (some ⟨F.p, 0, none⟩)] w fun e w' => e = .returned (.tuple #[]) ∧ DiskAt w' F { D with armed := -1 } ∧ Fr F w w' := by
  have r5 := h.free 5
  obtain ⟨_, _, _, _, _, c5, _⟩ := h.cells
  have HD := Lib.hid (h.set (D' := { D with armed := -1 }) 5 (.int .i64 (-1)) rfl rfl rfl rfl (Nat.le_refl _))
  clear h
  go_enter Try.func20, Try.ntmps20
  go_wp2_with fail
  go_end0
  exact ⟨rfl, HD.out, (Fr.refl F w).set 5 _⟩
end Go.Proofs.Ytfiphjhpjaddcaa
