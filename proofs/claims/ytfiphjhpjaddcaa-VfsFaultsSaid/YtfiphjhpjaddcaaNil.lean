/- The nil disk refuses. -/
import Derived.Test.YtfiphjhpjaddcaaIter
namespace Go.Proofs.Ytfiphjhpjaddcaa
open Go.RowKit Go.Maps

theorem nil_create (w : World) (s : ByteArray) : Calls Try.prog 10 #[.pointer none, .string s] w fun e w' => e = .returned (.int .i64 1) ∧ Below w.heap.size w w' := by
  go_enter Try.func10, Try.ntmps10
  go_wp2_with (go_at_call 27; refine (may_nil _ _).mono ?_; rintro e w' ⟨rfl, rfl⟩)
  go_ret
  exact ⟨rfl, bnew (brefl w) _⟩
theorem nil_remove (w : World) (s : ByteArray) : Calls Try.prog 24 #[.pointer none, .string s] w fun e w' => e = .returned (.int .i64 1) ∧ Below w.heap.size w w' := by
  go_enter Try.func24, Try.ntmps24
  go_wp2_with (go_at_call 27; refine (may_nil _ _).mono ?_; rintro e w' ⟨rfl, rfl⟩)
  go_ret
  exact ⟨rfl, bnew (brefl w) _⟩
theorem nil_rename (w : World) (s t : ByteArray) : Calls Try.prog 14 #[.pointer none, .string s, .string t] w fun e w' => e = .returned (.int .i64 1) ∧ Below w.heap.size w w' := by
  go_enter Try.func14, Try.ntmps14
  go_wp2_with (go_at_call 27; refine (may_nil _ _).mono ?_; rintro e w' ⟨rfl, rfl⟩)
  go_ret
  exact ⟨rfl, bnew (brefl w) _⟩
theorem nil_read (w : World) (s : ByteArray) : Calls Try.prog 16 #[.pointer none, .string s] w fun e w' => e = .returned (.tuple #[.string ⟨#[]⟩, .int .i64 1]) ∧ Below w.heap.size w w' := by
  go_enter Try.func16, Try.ntmps16
  go_wp2_with (go_at_call 27; refine (may_nil _ _).mono ?_; rintro e w' ⟨rfl, rfl⟩)
  go_ret2
  exact ⟨rfl, bnew (brefl w) _⟩
theorem nil_syncDir (w : World) : Calls Try.prog 13 #[.pointer none] w fun e w' => e = .returned (.int .i64 1) ∧ Below w.heap.size w w' := by
  go_enter Try.func13, Try.ntmps13
  go_wp2_with (go_at_call 27; refine (may_nil _ _).mono ?_; rintro e w' ⟨rfl, rfl⟩)
  go_ret
  exact ⟨rfl, brefl w⟩
theorem nil_change (w : World) (s : ByteArray) (v : Value) : Calls Try.prog 29 #[.pointer none, .string s, v] w fun e w' => e = .returned (.int .i64 1) ∧ Below w.heap.size w w' := by
  go_enter Try.func29, Try.ntmps29
  go_wp2_with (go_at_call 27; refine (may_nil _ _).mono ?_; rintro e w' ⟨rfl, rfl⟩)
  go_ret
  exact ⟨rfl, bnew (brefl w) _⟩
set_option maxRecDepth 100000 in
theorem nil_restart (w : World) (n : Int) : Calls Try.prog 15 #[.pointer none, .int .i64 n] w fun e w' => e = .returned (.int .i64 1) ∧ Below w.heap.size w w' := by
  go_enter Try.func15, Try.ntmps15
  go_wp2
  go_ret
  exact ⟨rfl, bnew (brefl w) _⟩
theorem nil_list (w : World) : Calls Try.prog 19 #[.pointer none] w fun e w' => e = .returned (.slice none 0 0) ∧ Below w.heap.size w w' := by
  go_enter Try.func19, Try.ntmps19
  go_wp2
  go_ret
  exact ⟨rfl, brefl w⟩
theorem nil_steps (w : World) : Calls Try.prog 25 #[.pointer none] w fun e w' => e = .returned (.int .i64 0) ∧ w = w' := by
  go_enter Try.func25, Try.ntmps25
  go_wp2
  go_ret
  exact ⟨rfl, rfl⟩
theorem nil_down (w : World) : Calls Try.prog 18 #[.pointer none] w fun e w' => e = .returned (.bool false) ∧ w = w' := by
  go_enter Try.func18, Try.ntmps18
  go_wp2
  go_ret
  exact ⟨rfl, rfl⟩
theorem nil_arm (w : World) (n e : Int) : Calls Try.prog 17 #[.pointer none, .int .i64 n, .int .i64 e] w fun x w' => x = .returned (.int .i64 1) ∧ w = w' := by
  go_enter Try.func17, Try.ntmps17
  go_wp2
  go_ret
  exact ⟨rfl, rfl⟩
theorem nil_append (w : World) (s x : ByteArray) : Calls Try.prog 11 #[.pointer none, .string s, .string x] w fun e w' => e = .returned (.int .i64 1) ∧ Below w.heap.size w w' := by
  go_enter Try.func11, Try.ntmps11
  go_wp2_with fail
  refine (nil_change _ _ _).mono ?_
  rintro e w1 ⟨rfl, hb⟩
  go_wp2_with fail
  go_ret
  exact ⟨rfl, bcall (bnew (brefl w) _) hb⟩
theorem nil_sync (w : World) (s : ByteArray) : Calls Try.prog 12 #[.pointer none, .string s] w fun e w' => e = .returned (.int .i64 1) ∧ Below w.heap.size w w' := by
  go_enter Try.func12, Try.ntmps12
  go_wp2_with fail
  refine (nil_change _ _ _).mono ?_
  rintro e w1 ⟨rfl, hb⟩
  go_wp2_with fail
  go_ret
  exact ⟨rfl, hb⟩
theorem nil_calm (w : World) : Calls Try.prog 20 #[.pointer none] w fun e w' => e = .returned (.tuple #[]) ∧ w = w' := by
  go_enter Try.func20, Try.ntmps20
  go_wp2
  go_end0
  exact ⟨rfl, rfl⟩
end Go.Proofs.Ytfiphjhpjaddcaa
