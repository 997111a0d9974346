/- The segments of a list of numbers, as the statements make them. -/
import Derived.Test.YtnhagnjikinimaaTierD
namespace Go.Proofs.Ytnhagnjikinimaa
open Go.RowKit

theorem el_seg : Elem Try.prog 22 24 4 32 := Elem.mk_ Try.underlying22 (z := .agg #[.int .i64 0, .int .i64 0, .int .i64 0, .int .i64 0]) (by kernel_rfl) rfl (by decide)
theorem el_int : Elem Try.prog 25 3 1 8 := Elem.mk_ Try.underlying25 (z := .int .i64 0) (by kernel_rfl) rfl (by decide)

def segsOf (l : List Int) : List Seg := (List.range l.length).map fun (i : Nat) => ⟨(i : Int) + 1, l.getD i 0, 0, 0⟩
def segsTo (l : List Int) (k : Nat) : List Seg := (List.range k).map fun (i : Nat) => ⟨(i : Int) + 1, l.getD i 0, 0, 0⟩
theorem segsTo_succ (l : List Int) (k : Nat) : segsTo l (k + 1) = segsTo l k ++ [⟨(k : Int) + 1, l.getD k 0, 0, 0⟩] := by
  unfold segsTo; rw [List.range_succ, List.map_append]; rfl
theorem segCells_append (a b : List Seg) : segCells (a ++ b) = segCells a ++ segCells b := by unfold segCells; rw [List.flatMap_append]
theorem segsTo_len (l : List Int) (k : Nat) : (segsTo l k).length = k := by simp [segsTo]
theorem segs_rel {w : World} {B : Nat} {v : Value} {l : List Int} {k : Nat} (hk : k < l.length)
    (h : w.ownsRow B 24 4 v (k + 1) (segCells (segsTo l k) ++ [.int .i64 ((k : Int) + 1), .int .i64 l[k], .int .i64 0, .int .i64 0])) :
    w.ownsRow B 24 4 v (k + 1) (segCells (segsTo l (k + 1))) := by
  rw [segsTo_succ, segCells_append]
  have e : l.getD k 0 = l[k] := by simp [List.getD, hk]
  rw [e]
  exact h

set_option maxHeartbeats 1000000 in
theorem segs_any (A : Option Addr) (c : Nat) (l : List Int) (w : World) (h : Sl w w.heap.size 1 A l.length (ints l)) (hl : l.length ≤ 1048576) :
    Calls Try.prog 16 #[.slice A l.length c] w fun e w' => ∃ v, e = .returned v ∧ w'.ownsRow w.heap.size 24 4 v l.length (segCells (segsOf l)) ∧ Below w.heap.size w w' := by
  go_enter Try.func16, Try.ntmps16
  go_wp2
  go_loopw [3, 4] (fun v i wr => ∃ k : Nat, k ≤ l.length ∧ i = .int .i64 k ∧ wr.ownsRow w.heap.size 24 4 v k (segCells (segsTo l k)) ∧ Below w.heap.size w wr) (fun _ i _ => l.length - (intOf i).toNat)
  case atStart => exact ⟨0, by omega, rfl, World.ownsRow_nil _ _ _ _, Below.refl _ _⟩
  case round =>
    obtain ⟨k, hk, rfl, hown, hb⟩ := hrel
    by_cases hlt : k < l.length
    · obtain ⟨b, o, rfl, hB, hc⟩ := ints_at (h.below hb) rfl hlt
      go_wp2_with (at_builtin; refine wpList_push w _ _ rfl _ _ _ rfl el_seg _ k _ rfl hown rfl (by simp) rfl ?_ ?_ ?_ hb.size hb ?_)
      · simp [Value.oneCell']
      · unfold maxLen; omega
      · omega
      · intro v' w1 hown1 hb1 _ _
        go_wp2
        go_roundw
        case rel => exact ⟨k + 1, by omega, by go_num, segs_rel hlt hown1, hb1⟩
        case measure => simp [intOf]; omega
    · go_wp2
      obtain rfl : k = l.length := by omega
      go_ret
      exact ⟨_, rfl, hown, hb⟩
end Go.Proofs.Ytnhagnjikinimaa
