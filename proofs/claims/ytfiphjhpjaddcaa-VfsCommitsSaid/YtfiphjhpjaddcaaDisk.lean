/- A disk in memory. -/
import Derived.Test.YtfiphjhpjaddcaaName
import Derived.Maps.OwnSet
import Derived.Maps.OwnOps
import Derived.Maps.Ext
import Derived.Lib.SmallJoins
namespace Go.Proofs.Ytfiphjhpjaddcaa
open Go.RowKit Go.Maps

/-- A file as an element of a map. -/
def fileElem {H : Type} : Value → Option (DataW H × List MemPlace)
  | .agg cs => match cs.toList with
    | [.string s, .int .i64 n] => if s.size ≤ maxLen ∧ (Lit.int .i64 n).wf = true then some (.agg [.lit (.string s.data.toList), .lit (.int .i64 n)], []) else none
    | _ => none
  | _ => none
/-- What a disk holds. -/
structure DS (H : Type) where
  files : DataW H
  names : DataW H
  kept : DataW H
  last : Int
  steps : Int
  armed : Int
  fault : Int
  down : Bool
  cap : Nat
/-- Where it lies: the disk's block and those of its maps. -/
structure Foot where
  p : Nat
  fb : Nat
  nb : Nat
  kb : Nat
def DS.cells {H : Type} (F : Foot) (D : DS H) : Array Value := #[.map (some F.fb), .map (some F.nb), .map (some F.kb), .int .i64 D.last, .int .i64 D.steps, .int .i64 D.armed, .int .i64 D.fault, .bool D.down]
structure DiskAt {H : Type} (w : World) (F : Foot) (D : DS H) : Prop where
  blk : w.heap[F.p]? = some (.cells (D.cells F) 58 (0, 0))
  fil : ∃ n, n ≤ D.cap ∧ w.ownsMap Try.prog 3 fileElem F.fb n D.files
  nam : ∃ n, n ≤ D.cap ∧ w.ownsMap Try.prog 9 (plainElem Try.prog 3) F.nb n D.names
  kep : ∃ n, n ≤ D.cap ∧ w.ownsMap Try.prog 9 (plainElem Try.prog 3) F.kb n D.kept
  ap : F.fb ≠ F.nb ∧ F.fb ≠ F.kb ∧ F.nb ≠ F.kb
/-- All but a disk's blocks is as it was. -/
structure Fr (F : Foot) (w w' : World) : Prop where
  os : w'.os = w.os
  tape : w'.tape = w.tape
  output : w'.output = w.output
  size : w.heap.size ≤ w'.heap.size
  block : ∀ k, k < w.heap.size → k ≠ F.p → k ≠ F.fb → k ≠ F.nb → k ≠ F.kb → w'.heap[k]? = w.heap[k]?
theorem Fr.refl (F : Foot) (w : World) : Fr F w w := ⟨rfl, rfl, rfl, Nat.le_refl _, fun _ _ _ _ _ _ => rfl⟩
theorem Fr.of_below {F : Foot} {w w' : World} (h : Below w.heap.size w w') : Fr F w w' := ⟨h.os, h.tape, h.output, h.size, fun k hk _ _ _ _ => h.block k hk⟩
theorem Fr.trans {F : Foot} {a b c : World} (h : Fr F a b) (k : Fr F b c) : Fr F a c :=
  ⟨k.os.trans h.os, k.tape.trans h.tape, k.output.trans h.output, Nat.le_trans h.size k.size, fun i hi h1 h2 h3 h4 => (k.block i (Nat.lt_of_lt_of_le hi h.size) h1 h2 h3 h4).trans (h.block i hi h1 h2 h3 h4)⟩
theorem blk_set {w : World} {b j : Nat} {C : Array Value} {t : TypeId} {f : Nat × Nat} (h : w.heap[b]? = some (.cells C t f)) (v : Value) : (w.setCell ⟨b, j, none⟩ v).heap[b]? = some (.cells (C.setIfInBounds j v) t f) := by
  simp [World.setCell, Array.getElem?_modify, h]
theorem Fr.set {F : Foot} {a w : World} (h : Fr F a w) (j : Nat) (v : Value) : Fr F a (w.setCell ⟨F.p, j, none⟩ v) :=
  h.trans ⟨rfl, rfl, rfl, by simp [World.setCell], fun k _ h1 _ _ _ => Below.heap_setCell _ _ _ _ h1⟩
theorem map_ne_cells {H : Type} {w : World} {b k n : Nat} {R : Value → Option (DataW H × List MemPlace)} {D : DataW H} (h : w.ownsMap Try.prog k R b n D) {p : Nat} {C : Array Value} {t : TypeId} {f : Nat × Nat} (hp : w.heap[p]? = some (.cells C t f)) : b ≠ p := by
  intro e
  subst e
  obtain ⟨es, clock, hb, _⟩ := h
  rw [hb] at hp
  cases hp
/-- A store into the disk's own block. -/
theorem DiskAt.set {H : Type} {w : World} {F : Foot} {D D' : DS H} (h : DiskAt w F D) (j : Nat) (v : Value) (hc : (D.cells F).setIfInBounds j v = D'.cells F) (h1 : D'.files = D.files) (h2 : D'.names = D.names) (h3 : D'.kept = D.kept) (h4 : D.cap ≤ D'.cap) : DiskAt (w.setCell ⟨F.p, j, none⟩ v) F D' := by
  obtain ⟨blk, ⟨n1, l1, f1⟩, ⟨n2, l2, f2⟩, ⟨n3, l3, f3⟩, ap⟩ := h
  refine ⟨by rw [blk_set blk, hc], ⟨n1, by omega, ?_⟩, ⟨n2, by omega, ?_⟩, ⟨n3, by omega, ?_⟩, ap⟩
  · rw [h1]; exact f1.setCell (map_ne_cells f1 blk) v
  · rw [h2]; exact f2.setCell (map_ne_cells f2 blk) v
  · rw [h3]; exact f3.setCell (map_ne_cells f3 blk) v
theorem DiskAt.cells {H : Type} {w : World} {F : Foot} {D : DS H} (h : DiskAt w F D) : w.cell? ⟨F.p, 0, none⟩ = some (.map (some F.fb)) ∧ w.cell? ⟨F.p, 1, none⟩ = some (.map (some F.nb)) ∧ w.cell? ⟨F.p, 2, none⟩ = some (.map (some F.kb)) ∧
    w.cell? ⟨F.p, 3, none⟩ = some (.int .i64 D.last) ∧ w.cell? ⟨F.p, 4, none⟩ = some (.int .i64 D.steps) ∧ w.cell? ⟨F.p, 5, none⟩ = some (.int .i64 D.armed) ∧ w.cell? ⟨F.p, 6, none⟩ = some (.int .i64 D.fault) ∧ w.cell? ⟨F.p, 7, none⟩ = some (.bool D.down) := by
  have g : ∀ j, w.cell? ⟨F.p, j, none⟩ = (D.cells F)[j]? := fun j => cell_of_row _ F.p j _ _ (0, 0) h.blk
  exact ⟨g 0, g 1, g 2, g 3, g 4, g 5, g 6, g 7⟩
theorem DiskAt.free {H : Type} {w : World} {F : Foot} {D : DS H} (h : DiskAt w F D) (j : Nat) : w.frozen? ⟨F.p, j, none⟩ = false := by
  unfold World.frozen?
  rw [h.blk]
  simp
def DS.step {H : Type} (D : DS H) : DS H × Int :=
  if D.armed = 0 then ({ D with armed := -1, down := D.fault == 15 }, D.fault) else ({ D with armed := max (-1) (D.armed - 1), steps := D.steps + 1 }, 0)
set_option maxRecDepth 100000 in
set_option maxHeartbeats 2000000 in
theorem step_any {H : Type} (w : World) (F : Foot) (D : DS H) (h : DiskAt w F D) (ha : -1 ≤ D.armed ∧ D.armed ≤ 9223372036854775807) (hs : 0 ≤ D.steps ∧ D.steps ≤ 4611686018427387904) :
    Calls Try.prog 28 #[.pointer (some ⟨F.p, 0, none⟩)] w fun e w' => e = .returned (.int .i64 D.step.2) ∧ DiskAt w' F D.step.1 ∧ Fr F w w' := by
  obtain ⟨c0, c1, c2, c3, c4, c5, c6, c7⟩ := h.cells
  have r4 := h.free 4
  have r5 := h.free 5
  have r7 := h.free 7
  have HD := Lib.hid h
  by_cases h0 : D.armed = 0
  · have hst : Hid (D.step = ({ D with armed := -1, down := D.fault == 15 }, D.fault)) := by unfold DS.step; exact if_pos h0
    rw [h0] at c5
    clear h h0 ha hs
    go_enter Try.func28, Try.ntmps28
    go_wp2_with fail
    go_ret
    have h1 := HD.out.set (D' := { D with armed := -1 }) 5 (.int .i64 (-1)) rfl rfl rfl rfl (Nat.le_refl _)
    have h2 := h1.set (D' := { D with armed := -1, down := D.fault == 15 }) 7 (.bool (D.fault == 15)) rfl rfl rfl rfl (Nat.le_refl _)
    exact ⟨by rw [hst.out]; rfl, by rw [hst.out]; exact h2, ((Fr.refl F w).set 5 _).set 7 _⟩
  · have hst : Hid (D.step = ({ D with armed := max (-1) (D.armed - 1), steps := D.steps + 1 }, 0)) := by unfold DS.step; exact if_neg h0
    have q0 : (D.armed == 0) = false := by simpa using h0
    obtain ⟨ha1, ha2⟩ := ha
    obtain ⟨hs1, hs2⟩ := hs
    clear h
    go_enter Try.func28, Try.ntmps28
    go_wp2_with fail
    go_ret
    have h1 := HD.out.set (D' := { D with armed := max (-1) (D.armed - 1) }) 5 (.int .i64 (max (-1) (D.armed - 1))) rfl rfl rfl rfl (Nat.le_refl _)
    have h2 := h1.set (D' := { D with armed := max (-1) (D.armed - 1), steps := D.steps + 1 }) 4 (.int .i64 (D.steps + 1)) rfl rfl rfl rfl (Nat.le_refl _)
    exact ⟨by rw [hst.out]; rfl, by rw [hst.out]; exact h2, ((Fr.refl F w).set 5 _).set 4 _⟩
end Go.Proofs.Ytfiphjhpjaddcaa
