/- An argument of type Counts, by value. -/
import Derived.Test.YtdiekkligpinkaaRsc
import Derived.Lib.SmallJoins
import Derived.Deep.Fields
import Derived.Deep.Slices
import Derived.ChangeSame
import Derived.OpenShut
namespace Go.Proofs.Ytdiekkligpinkaa
open Go.Joins Go.ChangeShapes Go.WideShapes Go.RowKit Go.Deep
section
variable {H : Type} {enc : TypeId × Value → H} {w : World} {base : Nat} {spare : Nat → Bool} {held : Bool}
theorem open_counts {r : Reach} {b0 : Nat} {v : Value} {d : DataW H} {p : List MemPlace} (hv : Value.okWide Try.prog w r b0 30 v) (h : DataW.Trod enc Try.prog w base spare held 30 v d p) :
    ∃ c : Counts, v = c.val ∧ (Lit.int .i64 c.docs).wf = true ∧ (Lit.int .i64 c.total).wf = true ∧ (Lit.int .i64 c.have_).wf = true ∧ (Lit.int .i64 c.times).wf = true ∧ (Lit.int .i64 c.len).wf = true := by
  have hs := Try.underlying30
  obtain ⟨cs, rfl, hsz⟩ := okWide_struct hs hv
  obtain ⟨l⟩ := cs
  have hC : Try.prog.cellsOf 30 = 5 := by kernel_rfl
  match l, hsz.trans hC with
  | [c0, c1, c2, c3, c4], _ =>
    obtain ⟨fuel, hf⟩ := h
    obtain ⟨xs, n, _, hx, _, hlen, hg⟩ := DataW.trod_struct hs hf
    have hI : Try.prog.cellsOf 3 = 1 := by kernel_rfl
    have hT := Try.underlying3
    match xs, hlen with
    | [y0, y1, y2, y3, y4], _ =>
      obtain ⟨z0, e0, _, w0⟩ := DataW.trod_int hT (hg 0 _ rfl)
      obtain ⟨z1, e1, _, w1⟩ := DataW.trod_int hT (hg 1 _ rfl)
      obtain ⟨z2, e2, _, w2⟩ := DataW.trod_int hT (hg 2 _ rfl)
      obtain ⟨z3, e3, _, w3⟩ := DataW.trod_int hT (hg 3 _ rfl)
      obtain ⟨z4, e4, _, w4⟩ := DataW.trod_int hT (hg 4 _ rfl)
      refine ⟨⟨z0, z1, z2, z3, z4⟩, ?_, w0, w1, w2, w3, w4⟩
      simp [Value.cells, hI] at e0 e1 e2 e3 e4
      unfold Counts.val
      rw [e0, e1, e2, e3, e4]
end
end Go.Proofs.Ytdiekkligpinkaa
