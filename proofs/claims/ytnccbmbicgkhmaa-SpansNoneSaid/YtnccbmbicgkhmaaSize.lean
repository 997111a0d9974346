/- The contract of spans.size; the rows in memory. -/
import Derived.Test.YtnccbmbicgkhmaaRowp
import Derived.Deep.RegionHeld3
namespace Go.Proofs.Ytnccbmbicgkhmaa
open Go.RowKit

theorem encS_one {c : Int} (h : wholeB c = true) : encS [c] = strOfNums (encC c) ∧ encE [c] = 0 := by
  have : encOk [c] = true := by simp [encOk, h]
  unfold encS encE
  rw [this]
  exact ⟨by simp [encL], rfl⟩
theorem sl_one (w : World) (x : Value) (e : TypeId) : Sl (w.alloc (.cells #[x] e)) (w.heap.size + 1) 1 (some ⟨w.heap.size, 0, none⟩) 1 [x] :=
  ⟨rfl, fun _ => ⟨w.heap.size, 0, rfl, by omega, fun j u hu => by
    have h := news_at w #[x] e j u hu
    rwa [Addr.add_lit] at h⟩⟩
/-- Encode of one character, in the form that the walks meet. -/
theorem encode_one (w : World) (c : Int) (hw : wholeB c = true) : Calls Try.prog 18 #[.slice (some ⟨w.heap.size, 0, none⟩) 1 1] (w.alloc (.cells #[.int .i64 c] 3)) fun e w' => e = .returned (.tuple #[.string (strOfNums (encC c)), .int .i64 0]) ∧ Below w.heap.size w w' := by
  refine (encode_any (w.alloc (.cells #[.int .i64 c] 3)) _ 1 1 [c] (w.heap.size + 1) (by simp) (sl_one w _ _) (by omega)).mono ?_
  rintro e w' ⟨rfl, hb⟩
  obtain ⟨h1, h2⟩ := encS_one hw
  rw [h1, h2]
  exact ⟨rfl, bcall (bnew (brefl w) _) hb⟩
theorem size_any (c : Int) (hw : wholeB c = true) (w : World) : Calls Try.prog 17 #[.int .i64 c] w fun e w' => e = .returned (.int .i64 (szC c)) ∧ Below w.heap.size w w' := by
  have HC := Lib.hid (encode_one w c hw)
  have hz : (((strOfNums (encC c)).size : Nat) : Int) = szC c := by rw [strOfNums_size, szC_len]
  generalize strOfNums (encC c) = s at *
  have HZ := Lib.hid hz
  clear hz hw
  go_enter Try.func17, Try.ntmps17
  go_wp2_with fail
  refine HC.out.mono ?_
  rintro e w1 ⟨rfl, hb1⟩
  go_wp2_with fail
  go_ret
  exact ⟨ret_int HZ.out, hb1⟩
end Go.Proofs.Ytnccbmbicgkhmaa
