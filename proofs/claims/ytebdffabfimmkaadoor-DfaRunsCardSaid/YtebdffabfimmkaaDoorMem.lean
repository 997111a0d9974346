/- Automata in memory: arcs, states. -/
import Derived.Test.YtebdffabfimmkaaDoorMore
import Derived.Test.YtebdffabfimmkaaDoorRefine
namespace Go.Proofs.YtebdffabfimmkaaDoor
open Go.RowKit

def arcC (a : Arc3) : List Value := [.int .i64 a.1, .int .i64 a.2.1, .int .i64 a.2.2]
def arcsC (l : List Arc3) : List Value := l.flatMap arcC
theorem arcsC_len (l : List Arc3) : (arcsC l).length = l.length * 3 := by
  induction l with
  | nil => rfl
  | cons x r ih => show (arcC x ++ arcsC r).length = _; rw [List.length_append, ih, List.length_cons]; show 3 + _ = _; omega
theorem arcsC_app (a b : List Arc3) : arcsC (a ++ b) = arcsC a ++ arcsC b := List.flatMap_append
/-- A state, and where its arcs lie. -/
structure Sh where
  d : St
  A : Option Addr
  c : Nat
def Sh.hdr (x : Sh) : List Value := [.bool x.d.1, .slice x.A x.d.2.length x.c]
/-- States that are read. -/
structure StsIn (w : World) (B : Nat) (A : Option Addr) (n c : Nat) (H : List Sh) : Prop where
  len : H.length = n
  sl : Sl w B 2 A n (H.flatMap Sh.hdr)
  nc : n ≤ c
  cm : n ≤ 140737488355328
  ar : ∀ x ∈ H, Sl w B 3 x.A x.d.2.length (arcsC x.d.2) ∧ x.d.2.length ≤ x.c ∧ x.d.2.length ≤ 140737488355328
section
variable {w w' : World} {B B' : Nat} {A : Option Addr} {n c : Nat} {H : List Sh}
theorem StsIn.keep (h : StsIn w B A n c H) (hb : Below B w w') (hB : B ≤ B') : StsIn w' B' A n c H :=
  ⟨h.len, (h.sl.below hb).more hB, h.nc, h.cm, fun x hx => ⟨((h.ar x hx).1.below hb).more hB, (h.ar x hx).2⟩⟩
theorem StsIn.at_ (h : StsIn w B A n c H) (hn : 0 < n) : ∃ b off, A = some ⟨b, off, none⟩ ∧ b < B ∧ ∀ k x, H[k]? = some x → w.cell? ⟨b, off + k * 2, none⟩ = some (.bool x.d.1) ∧ w.cell? ⟨b, off + k * 2 + 1, none⟩ = some (.slice x.A x.d.2.length x.c) := by
  obtain ⟨b, off, hA, hb, hc⟩ := h.sl.at_ hn
  refine ⟨b, off, hA, hb, fun k e he => ?_⟩
  have g : ∀ j u, e.hdr[j]? = some u → j < 2 → w.cell? ⟨b, off + (k * 2 + j), none⟩ = some u := fun j u hu hj =>
    hc _ _ (by rw [flat_at Sh.hdr 2 (fun _ => rfl) H k j e he hj]; exact hu)
  exact ⟨g 0 _ rfl (by omega), by have := g 1 _ rfl (by omega); rwa [← Nat.add_assoc] at this⟩
theorem StsIn.arc (h : StsIn w B A n c H) {x : Sh} (hx : x ∈ H) (hn : 0 < x.d.2.length) : ∃ b off, x.A = some ⟨b, off, none⟩ ∧ b < B ∧ ∀ k a, x.d.2[k]? = some a → w.cell? ⟨b, off + k * 3, none⟩ = some (.int .i64 a.1) ∧ w.cell? ⟨b, off + k * 3 + 1, none⟩ = some (.int .i64 a.2.1) ∧ w.cell? ⟨b, off + k * 3 + 2, none⟩ = some (.int .i64 a.2.2) := by
  obtain ⟨b, off, hA, hb, hc⟩ := (h.ar x hx).1.at_ hn
  refine ⟨b, off, hA, hb, fun k e he => ?_⟩
  have g : ∀ j u, (arcC e)[j]? = some u → j < 3 → w.cell? ⟨b, off + (k * 3 + j), none⟩ = some u := fun j u hu hj =>
    hc _ _ (by unfold arcsC; rw [flat_at arcC 3 (fun _ => rfl) x.d.2 k j e he hj]; exact hu)
  exact ⟨g 0 _ rfl (by omega), by have := g 1 _ rfl (by omega); rwa [← Nat.add_assoc] at this, by have := g 2 _ rfl (by omega); rwa [← Nat.add_assoc] at this⟩
end
/-- Arcs in order, from a byte on. -/
def okA (n : Nat) : Int → List Arc3 → Bool
  | _, [] => true
  | last, a :: r => decide (last < a.1 ∧ a.1 ≤ a.2.1 ∧ a.2.1 ≤ 255 ∧ 0 ≤ a.2.2 ∧ a.2.2 < (n : Int)) && okA n a.2.1 r
/-- What Check says. -/
def checkE (d : List St) : Int := if d = [] then 1 else if 20000 < d.length then 8 else if d.all (fun s => okA d.length (-1) s.2) then 0 else 3
end Go.Proofs.YtebdffabfimmkaaDoor
