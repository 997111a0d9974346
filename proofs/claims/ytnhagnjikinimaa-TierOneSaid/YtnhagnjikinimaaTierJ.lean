/- How a list of segments that came in reads. -/
import Derived.Test.YtnhagnjikinimaaTierB
namespace Go.Proofs.Ytnhagnjikinimaa
open Go.RowKit

/-- What a walk is told of a list of segments that came in. -/
structure SegsIn (w : World) (A : Option Addr) (n c : Nat) (l : List Seg) : Prop where
  len : l.length = n
  cap : n ≤ c
  capm : c ≤ maxLen
  none_ : A = none → c = 0
  reach : n ≤ 4398046510976
  sl : Sl w w.heap.size 4 A n (segCells l)

def segOf (r : List Int) : Seg := ⟨r.getD 0 0, r.getD 1 0, r.getD 2 0, r.getD 3 0⟩
theorem segOf_cells {r : List Int} (h : r.length = 4) : (segOf r).cells = r.map (.int .i64) := by
  match r, h with
  | [a, b, c, d], _ => rfl
theorem segs_cells {rows : List (List Int)} (h : ∀ r ∈ rows, r.length = 4) : segCells (rows.map segOf) = rows.flatMap fun r => r.map (.int .i64) := by
  induction rows with
  | nil => rfl
  | cons r rows ih =>
    have h1 := segOf_cells (h r (List.mem_cons_self ..))
    have h2 := ih fun x hx => h x (List.mem_cons_of_mem _ hx)
    unfold segCells at h2 ⊢
    rw [List.map_cons, List.flatMap_cons, List.flatMap_cons, h1, h2]

theorem open_segs {H : Type} {enc : TypeId × Value → H} {W : World} {base : Nat} {spare : Nat → Bool} {held : Bool} {A : Option Addr} {n c : Nat} {d : DataW H} {p : List MemPlace} {ts : List TypeId} {ds : List (DataW H)} {j : Nat}
    (h : DataW.Trod enc Try.prog W base spare held 22 (.slice A n c) d p) (hsz : (DataW.weightsEach Try.prog ts ds).all (· ≤ reachBytes) = true) (ht : ts[j]? = some 22) (hd : ds[j]? = some d) :
    ∃ l : List Seg, SegsIn W A n c l := by
  obtain ⟨fuel, hf⟩ := h
  obtain ⟨hx, rows, h1, h2, h3, h4, h5, h6⟩ := open_flat (T := 3) (m := 4) Try.underlying22 Try.underlying24 Try.underlying3 (by kernel_rfl) (by kernel_rfl) (by kernel_rfl) (by kernel_rfl) (by decide) hf
  refine ⟨rows.map segOf, by simpa using h1, h2, h3, h4, ?_, by rw [segs_cells fun r hr => (h5 r hr).1]; exact h6⟩
  rcases hx with ⟨_, h0⟩ | ⟨es, sp, hx, hl⟩
  · omega
  · have hb := sized_slice hsz ht (hd.trans (congrArg some hx)) Try.underlying22
    rw [show Try.prog.bytesOf 24 = 32 from by kernel_rfl, hl] at hb
    simp only [reachBytes] at hb
    omega
end Go.Proofs.Ytnhagnjikinimaa
