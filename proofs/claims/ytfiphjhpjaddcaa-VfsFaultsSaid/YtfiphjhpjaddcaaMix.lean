/- The number that looks like chance, and the closure that draws it. -/
import Derived.Test.YtfiphjhpjaddcaaNil
import Derived.Laws.BitsLemmas
namespace Go.Proofs.Ytfiphjhpjaddcaa
open Go.RowKit Go.Maps

def mixA (loss n : Int) : Int := IntKind.u64.wrap (loss + IntKind.u64.wrap (n * 11400714819323198485))
def mixB (x : Int) : Int := IntKind.u64.wrap (bits BinOp.xor IntKind.u64 x (x / 1073741824) * 13787848793156543929)
def mixC (x : Int) : Int := IntKind.u64.wrap (bits BinOp.xor IntKind.u64 x (x / 134217728) * 10723151780598845931)
def mixD (x : Int) : Int := bits BinOp.xor IntKind.u64 x (x / 2147483648)
def mixU (loss n : Int) : Int := mixD (mixC (mixB (mixA loss n)))
theorem mix_any (w : World) (loss n : Int) : Calls Try.prog 35 #[.int .u64 loss, .int .u64 n] w fun e w' => e = .returned (.int .u64 (mixU loss n)) ∧ w = w' := by
  go_enter Try.func35, Try.ntmps35
  go_wp2_with fail
  go_ret
  exact ⟨rfl, rfl⟩
/-- The n-th number of a loss. -/
def mixV (loss n : Int) : Int := mixU (IntKind.u64.wrap loss) n
theorem mixV_range (loss n : Int) : 0 ≤ mixV loss n ∧ mixV loss n ≤ 18446744073709551615 := by
  unfold mixV mixU mixD
  generalize mixC _ = x
  have : ∀ y, 0 ≤ bits BinOp.xor IntKind.u64 x y ∧ bits BinOp.xor IntKind.u64 x y ≤ 18446744073709551615 := by
    intro y
    unfold bits
    simp only []
    rw [IntKind.wrap_u64]
    omega
  exact this _
theorem next_any (w : World) (ib lb : Nat) (i loss : Int) (hi : w.cell? ⟨ib, 0, none⟩ = some (.int .i64 i)) (hl : w.cell? ⟨lb, 0, none⟩ = some (.int .i64 loss)) (hne : lb ≠ ib) (hf : w.frozen? ⟨ib, 0, none⟩ = false) (h0 : 0 ≤ i) (h1 : i ≤ 1099511627776000) :
    Calls Try.prog 34 #[.pointer (some ⟨ib, 0, none⟩), .pointer (some ⟨lb, 0, none⟩)] w fun e w' => e = .returned (.int .u64 (mixV loss (i + 1))) ∧ w' = w.setCell ⟨ib, 0, none⟩ (.int .i64 (i + 1)) := by
  go_enter Try.func34, Try.ntmps34
  go_wp2_with fail
  refine (mix_any _ _ _).mono ?_
  rintro e _ ⟨rfl, rfl⟩
  go_wp2_with fail
  go_ret
  exact ⟨rfl, rfl⟩
end Go.Proofs.Ytfiphjhpjaddcaa
