/- The library's table; numbers as texts; a Builder that is written. -/
import Derived.Test.YtebdffabfimmkaaDoorBuilder
import Derived.Lib.AppendIntMem
import Derived.Lib.ItoaLen
import Derived.Deep.RegionHeld3
namespace Go.Proofs.YtebdffabfimmkaaDoor
open Go.RowKit

/-- What the calls ask of the library's table. -/
def Tab (w : World) : Prop := Lib.TabIs Tryd.prog w "internal/strconv.uint64pow10" .u64 Lib.pow10Tab
theorem tab_gn : Tryd.prog.globalNamed "internal/strconv.uint64pow10" = some 0 := by kernel_rfl
theorem Tab.keep {w w' : World} {B : Nat} (h : Tab w) (hB : 0 < B) (hb : Below B w w') : Tab w' := by
  unfold Tab Lib.TabIs World.var? at h ⊢
  rw [tab_gn] at h ⊢
  simp only [Option.bind_some] at h ⊢
  rw [hb.block _ hB]
  exact h
theorem Tab.lt {w : World} (h : Tab w) : 0 < w.heap.size := by
  unfold Tab Lib.TabIs World.var? at h
  rw [tab_gn] at h
  simp only [Option.bind_some] at h
  rcases Nat.lt_or_ge 0 w.heap.size with h' | h'
  · exact h'
  · rw [Array.getElem?_eq_none h'] at h; cases h
theorem Tab.below {w w' : World} (h : Tab w) (hb : Below w.heap.size w w') : Tab w' := h.keep h.lt hb
theorem itoa_any (n : Int) (h0 : -9223372036854775808 ≤ n) (h1 : n ≤ 9223372036854775807) (w : World) (ht : Tab w) :
    Calls Tryd.prog 42 #[.int .i64 n] w fun e w' => e = .returned (.string ⟨(Lib.itoa n).toArray⟩) ∧ Below w.heap.size w w' := by
  refine (Tryd.strconv_Itoa n h0 h1 w ht).mono ?_
  rintro e w' ⟨rfl, k, os, rfl⟩
  exact ⟨rfl, Lib.below_grow _ w (Nat.le_refl _) k os⟩
/-- What a walk that writes a Builder keeps. -/
structure SgR (w W : World) (b : Nat) (l : List UInt8) : Prop where
  sb : Sb W b b l
  tab : Tab W
  bel : Below w.heap.size w W
  le : w.heap.size ≤ b
  lt : b < W.heap.size
theorem SgR.keep {w W W' : World} {b : Nat} {l : List UInt8} (h : SgR w W b l) (hb : Below W.heap.size W W') : SgR w W' b l := by
  refine ⟨?_, h.tab.below hb, bcall h.bel hb, h.le, Nat.lt_of_lt_of_le h.lt hb.size⟩
  rcases h.sb with ⟨h1, v, h2, h3, h4⟩ | ⟨h1, v, h2, h3, h4⟩
  · exact .inl ⟨h1, v, (hb.block b h.lt).trans h2, own_kept h3 hb, h4⟩
  · exact .inr ⟨h1, v, (hb.block b h.lt).trans h2, own_kept h3 hb, h4⟩
theorem SgR.write {w W : World} {b : Nat} {l : List UInt8} (h : SgR w W b l) (hb0 : 0 < b) (s : List UInt8) (hl : l.length + s.length ≤ 4611686018427) :
    Calls Tryd.prog 41 #[.pointer (some ⟨b, 0, none⟩), .string ⟨s.toArray⟩] W fun e w' => e = .returned (.tuple #[.int .i64 (⟨s.toArray⟩ : ByteArray).size, .nilIface]) ∧ SgR w w' b (l ++ s) ∧ Below b W w' ∧ OthersStand b W w' := by
  refine (writes_any b b (Lib.byteCells l) ⟨s.toArray⟩ W h.sb (by rw [Lib.byteCells_length]; show _ + s.toArray.size ≤ _; simp; omega) (Nat.le_of_lt h.lt)).mono ?_
  rintro e w' ⟨rfl, h1, h2, h3⟩
  refine ⟨rfl, ⟨?_, h.tab.keep hb0 h2, h.bel.trans (h2.mono h.le), h.le, Nat.lt_of_lt_of_le h.lt h2.size⟩, h2, h3⟩
  have e1 : Lib.byteCells l ++ Lib.strCells ⟨s.toArray⟩ = Lib.byteCells (l ++ s) := by
    simp [Lib.byteCells, Lib.strCells]
  unfold Sb
  rw [← e1]
  exact h1
theorem SgR.start (w : World) (ht : Tab w) {W : World} {b : Nat} (hb : Below w.heap.size w W) (hs : W.heap.size = b) : SgR w (W.alloc (.cells #[.pointer none, .slice none 0 0] 84)) b [] := by
  subst hs
  refine ⟨.inl ⟨Nat.le_refl _, .slice none 0 0, heap_alloc_new _ _, ⟨rfl, .inl ⟨rfl, rfl⟩⟩, by simp [Value.ownBlock]⟩, ht.below (bnew hb _), bnew hb _, hb.size, by simp⟩
theorem size_mk (l : List UInt8) : (⟨l.toArray⟩ : ByteArray).size = l.length := by show l.toArray.size = _; simp
theorem add_mk (l m : List UInt8) : (⟨l.toArray⟩ : ByteArray) ++ ⟨m.toArray⟩ = ⟨(l ++ m).toArray⟩ := by
  apply ByteArray.ext
  simp
theorem cat_mk (l m : List UInt8) (h : l.length + m.length ≤ 4611686018427) (w : World) : (Op.stringOp .add (⟨l.toArray⟩ : ByteArray) ⟨m.toArray⟩).run Tryd.prog w = .ok (.string ⟨(l ++ m).toArray⟩) w := by
  rw [← add_mk]
  exact run_string_add_sum w _ _ (by rw [size_mk, size_mk]; omega)
end Go.Proofs.YtebdffabfimmkaaDoor
