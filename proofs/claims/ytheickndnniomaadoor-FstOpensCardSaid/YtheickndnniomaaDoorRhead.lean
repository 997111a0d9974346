/- What the reference's node promises. -/
import Derived.Test.YtheickndnniomaaDoorRmake
import Derived.Test.YtheickndnniomaaDoorRefnum
namespace Go.Proofs.YtheickndnniomaaDoor
open Go.RowKit Go.Maps

def RPost (W : World) (p base : Nat) (q : Nat × List Nd) : Ending → World → Prop := fun e W' => e = .returned (.int .i64 (q.1 : Int)) ∧ Hid (Keeps W W' ∧ Below p W W') ∧
  ∃ (Al At : Option Addr) (n cl k ct : Nat) (H : List Lh), Hid (MkB W' p base Al n cl At k ct H (q.2.map writeZ) ∧ H.map (·.l) = lefts q.2)
theorem numA_numI {z : Int} (h : pos63 z) : numA z = numI z := numA_eq h.1 h.2
theorem ways_snoc_len {ws : List (Int × Int × Int)} (h : ∀ x ∈ ws, wayP x) (hl : ws.length ≤ 256) {b : List Int} (hb : b.length ≤ 9) : (b ++ ws.flatMap wayZ).length ≤ 10000 := by
  have := wayZs_len h
  rw [List.length_append]
  omega
end Go.Proofs.YtheickndnniomaaDoor
