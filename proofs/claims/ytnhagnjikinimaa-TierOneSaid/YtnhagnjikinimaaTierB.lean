/- Check of tier and of the reference: which lists of segments may be. -/
import Derived.Test.YtnhagnjikinimaaRows
import Derived.Test.YtnhagnjikinimaaLib
namespace Go.Proofs.Ytnhagnjikinimaa
open Go.RowKit

structure Seg where
  id : Int
  docs : Int
  gen : Int
  gone : Int
def Seg.cells (s : Seg) : List Value := [.int .i64 s.id, .int .i64 s.docs, .int .i64 s.gen, .int .i64 s.gone]
def segCells (l : List Seg) : List Value := l.flatMap Seg.cells
def Seg.ok (s : Seg) : Bool := decide (0 ≤ s.docs) && decide (s.docs ≤ 1048576) && decide (0 ≤ s.gone) && decide (s.gone ≤ s.docs)
def segsOk (l : List Seg) : Bool := l.all Seg.ok

theorem Seg.len (s : Seg) : s.cells.length = 4 := rfl
theorem seg_at {w : World} {B : Nat} {A : Option Addr} {l : List Seg} (h : Sl w B 4 A l.length (segCells l)) {k : Nat} (hk : k < l.length) :
    ∃ b off, A = some ⟨b, off, none⟩ ∧ b < B ∧ w.cell? ⟨b, off + k * 4, none⟩ = some (.int .i64 l[k].id) ∧ w.cell? ⟨b, off + k * 4 + 1, none⟩ = some (.int .i64 l[k].docs) ∧
      w.cell? ⟨b, off + k * 4 + 2, none⟩ = some (.int .i64 l[k].gen) ∧ w.cell? ⟨b, off + k * 4 + 3, none⟩ = some (.int .i64 l[k].gone) := by
  obtain ⟨b, off, hA, hb, hc⟩ := h.at_ hk
  have g : ∀ j, j < 4 → (segCells l)[k * 4 + j]? = l[k].cells[j]? := fun j hj => flat_at Seg.cells 4 Seg.len l k j _ (List.getElem?_eq_getElem hk) hj
  refine ⟨b, off, hA, hb, ?_, ?_, ?_, ?_⟩
  · exact hc (k * 4 + 0) _ (g 0 (by omega))
  · rw [Nat.add_assoc]; exact hc (k * 4 + 1) _ (g 1 (by omega))
  · rw [Nat.add_assoc]; exact hc (k * 4 + 2) _ (g 2 (by omega))
  · rw [Nat.add_assoc]; exact hc (k * 4 + 3) _ (g 3 (by omega))

def Err (b : Bool) : Int := if b then 0 else 1

theorem segOk_iff (s : Seg) : s.ok = true ↔ 0 ≤ s.docs ∧ s.docs ≤ 1048576 ∧ 0 ≤ s.gone ∧ s.gone ≤ s.docs := by
  simp [Seg.ok, and_assoc]
theorem segsOk_succ {l : List Seg} {k : Nat} (hk : k < l.length) (h : Hid (segsOk (l.take k) = true)) (hs : 0 ≤ l[k].docs ∧ l[k].docs ≤ 1048576 ∧ 0 ≤ l[k].gone ∧ l[k].gone ≤ l[k].docs) :
    Hid (segsOk (l.take (k + 1)) = true) := by
  have h := h.out
  show segsOk _ = true
  unfold segsOk at h ⊢
  rw [List.take_succ_eq_append_getElem hk, List.all_append, h]
  simpa using (segOk_iff _).2 hs
theorem segsOk_bad {l : List Seg} {k : Nat} (hk : k < l.length) (hs : ¬ (0 ≤ l[k].docs ∧ l[k].docs ≤ 1048576 ∧ 0 ≤ l[k].gone ∧ l[k].gone ≤ l[k].docs)) : (1 : Int) = Err (segsOk l) := by
  have : segsOk l = false := by
    rw [Bool.eq_false_iff]
    intro h
    unfold segsOk at h
    rw [List.all_eq_true] at h
    exact hs ((segOk_iff _).1 (h _ (List.getElem_mem hk)))
  rw [this]; rfl
theorem segsOk_end {l : List Seg} {k : Nat} (hk : ¬ k < l.length) (h : Hid (segsOk (l.take k) = true)) : (0 : Int) = Err (segsOk l) := by
  have h := h.out
  rw [List.take_of_length_le (by omega)] at h
  rw [h]; rfl

set_option maxHeartbeats 1000000 in
theorem check_any (A : Option Addr) (c : Nat) (l : List Seg) (w : World) (h : Sl w w.heap.size 4 A l.length (segCells l)) (hl : l.length ≤ 4398046511104) :
    Calls Try.prog 11 #[.slice A l.length c] w fun e w' => e = .returned (.int .i64 (Err (segsOk l))) ∧ Below w.heap.size w w' := by
  go_enter Try.func11, Try.ntmps11
  go_wp2
  go_loopw [7] (fun i wr => ∃ k : Nat, k ≤ l.length ∧ i = .int .i64 k ∧ Hid (segsOk (l.take k) = true) ∧ Below w.heap.size w wr) (fun i _ => l.length - (intOf i).toNat)
  case atStart => exact ⟨0, by omega, rfl, rfl, Below.refl _ _⟩
  case round =>
    obtain ⟨k, hk, rfl, hok, hb⟩ := hrel
    by_cases hlt : k < l.length
    · obtain ⟨b, off, rfl, hbB, h0, h1, h2, h3⟩ := seg_at (h.below hb) hlt
      go_wp2
      all_goals first
        | (go_roundw
           case rel => exact ⟨k + 1, by omega, by go_num, segsOk_succ hlt hok (by omega), hb.alloc hb.size _⟩
           case measure => simp [intOf]; omega)
        | (go_ret
           exact ⟨ret_int (segsOk_bad hlt (by omega)), hb.alloc hb.size _⟩)
    · go_wp2
      go_ret
      exact ⟨ret_int (segsOk_end hlt hok), hb⟩

end Go.Proofs.Ytnhagnjikinimaa
