/- The document's three terms (plain Lean). -/
import Derived.Test.YtheickndnniomaaDoorLook
namespace Go.Proofs.YtheickndnniomaaDoor
open Go.RowKit Go.Maps

/-- Nodes by equality. -/
def idxD : List Nd → Nd → Option Nat
  | [], _ => none
  | x :: r, d => if x = d then some 0 else (idxD r d).map (· + 1)
theorem idx_idxD (ds : List Nd) (d : Nd) : idx (ds.map sgn) (sgn d) = idxD ds d := by
  induction ds with
  | nil => rfl
  | cons x r ih =>
    rw [List.map_cons, idx, idxD, ih]
    by_cases h : x = d
    · rw [if_pos h, if_pos (by rw [h])]
    · rw [if_neg h, if_neg (fun e => h (sgn_inj e))]
def addD (ds : List Nd) (d : Nd) : Nat × List Nd := match idxD ds d with
  | some i => (i, ds)
  | none => (ds.length, ds ++ [d])
theorem addN_addD : addN = addD := by
  funext ds d
  unfold addN addD
  rw [idx_idxD]
  cases idxD ds d <;> rfl
def nodeD : Nat → List Nd → List Ent → Nat → Int → Nat × List Nd
  | 0, ds, _, _, _ => (0, ds)
  | f + 1, ds, l, at_, told =>
    let q := waysL (fun ds g m => nodeD f ds g (at_ + 1) m) at_ told (restL at_ l).length ds [] (restL at_ l)
    addD q.1 ⟨isFin at_ l, if headL l = at_ then headO l - told else 0, q.2⟩
theorem nodeF_nodeD : ∀ f, nodeF f = nodeD f
  | 0 => rfl
  | f + 1 => by
    funext ds l at_ told
    rw [nodeF, nodeD, nodeF_nodeD f, addN_addD]
def threeL : List Ent := [([99, 97, 116], 5), ([100, 111, 103], 7), ([104, 97, 116], 3)]
theorem three_right : rightE threeL = 0 := by decide +kernel
theorem three_fits : ∀ e ∈ threeL, fits64 e.2 := by unfold fits64; decide +kernel
theorem three_six : (buildDs threeL).length = 6 := by
  unfold buildDs
  rw [nodeF_nodeD]
  decide +kernel
theorem three_dog : lookE threeL [100, 111, 103] = some 7 := by decide +kernel
end Go.Proofs.YtheickndnniomaaDoor
