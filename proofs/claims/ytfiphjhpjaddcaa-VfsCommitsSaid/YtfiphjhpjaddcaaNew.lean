/- New, Arm; the nil disk. -/
import Derived.Test.YtfiphjhpjaddcaaRename
namespace Go.Proofs.Ytfiphjhpjaddcaa
open Go.RowKit Go.Maps

def DS.new (H : Type) : DS H := ⟨.map [], .map [], .map [], 0, 0, -1, 0, false, 0⟩
theorem map_alloc {H : Type} {w : World} {b k n : Nat} {R : Value → Option (DataW H × List MemPlace)} {D : DataW H} (h : w.ownsMap Try.prog k R b n D) (o : Obj) : (w.alloc o).ownsMap Try.prog k R b n D := map_below h (bnew (brefl w) o)
set_option maxRecDepth 100000 in
theorem new_any (H : Type) (w : World) : Calls Try.prog 8 #[] w fun e w' => e = .returned (.pointer (some ⟨w.heap.size + 3, 0, none⟩)) ∧ DiskAt w' ⟨w.heap.size + 3, w.heap.size, w.heap.size + 1, w.heap.size + 2⟩ (DS.new H) ∧ Below w.heap.size w w' := by
  have hmm := @run_makeMap Try.prog
  go_enter Try.func8, Try.ntmps8
  go_wp2_with fail
  go_ret
  refine ⟨rfl, ⟨?_, ⟨0, Nat.le_refl _, ?_⟩, ⟨0, Nat.le_refl _, ?_⟩, ⟨0, Nat.le_refl _, ?_⟩, by simp, by simp, by simp⟩, bnew (bnew (bnew (bnew (brefl w) _) _) _) _⟩
  · have := heap_alloc_new (((w.alloc (.map #[] 0)).alloc (.map #[] 0)).alloc (.map #[] 0)) (.cells (DS.cells ⟨w.heap.size + 3, w.heap.size, w.heap.size + 1, w.heap.size + 2⟩ (DS.new H)) 58)
    simp only [World.size_alloc] at this
    exact this
  · exact map_alloc (map_alloc (map_alloc (World.ownsMap_made w Try.prog 3 fileElem) _) _) _
  · have := map_alloc (map_alloc (World.ownsMap_made (H := H) (w.alloc (.map #[] 0)) Try.prog 9 (plainElem Try.prog 3)) (.map #[] 0)) (.cells (DS.cells ⟨w.heap.size + 3, w.heap.size, w.heap.size + 1, w.heap.size + 2⟩ (DS.new H)) 58)
    simp only [World.size_alloc] at this
    exact this
  · have := map_alloc (World.ownsMap_made (H := H) ((w.alloc (.map #[] 0)).alloc (.map #[] 0)) Try.prog 9 (plainElem Try.prog 3)) (.cells (DS.cells ⟨w.heap.size + 3, w.heap.size, w.heap.size + 1, w.heap.size + 2⟩ (DS.new H)) 58)
    simp only [World.size_alloc] at this
    exact this
theorem arm_any {H : Type} (w : World) (F : Foot) (D : DS H) (n e : Int) (h : DiskAt w F D) (hn : 0 ≤ n) (he : e = 14 ∨ e = 13 ∨ e = 15) : Calls Try.prog 17 #[.pointer (some ⟨F.p, 0, none⟩), .int .i64 n, .int .i64 e] w fun x w' => x = .returned (.int .i64 0) ∧ DiskAt w' F { D with armed := n, fault := e } ∧ Fr F w w' := by
  have r5 := h.free 5
  have r6 := h.free 6
  obtain ⟨_, _, _, _, _, c5, c6, _⟩ := h.cells
  have HD := Lib.hid ((h.set (D' := { D with armed := n }) 5 (.int .i64 n) rfl rfl rfl rfl (Nat.le_refl _)).set (D' := { D with armed := n, fault := e }) 6 (.int .i64 e) rfl rfl rfl rfl (Nat.le_refl _))
  clear h
  have hz : decide (n < 0) = false := by simp; omega
  rcases he with rfl | rfl | rfl
  all_goals
    go_enter Try.func17, Try.ntmps17
    go_wp2_with fail
    try go_region
    all_goals
      go_wp2_with fail
      go_ret
      exact ⟨rfl, HD.out, ((Fr.refl F w).set 5 _).set 6 _⟩
end Go.Proofs.Ytfiphjhpjaddcaa
