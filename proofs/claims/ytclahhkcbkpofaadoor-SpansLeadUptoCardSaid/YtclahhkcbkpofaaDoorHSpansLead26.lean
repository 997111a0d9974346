/- Arguments of loose states, of a bounded bulk. -/
import Derived.Test.YtclahhkcbkpofaaDoorHSpansLead25
import Derived.Test.YtclahhkcbkpofaaDoorHSpansLead6
import Derived.Test.YtclahhkcbkpofaaDoorHSpansLead8
namespace Go.Proofs.YtclahhkcbkpofaaDoor
open Go.RowKit

abbrev tLoose : Ty := .cons .bool (.cons (.slice tArc 24) (.cons (.slice (.int .i64) 8) .nil))
theorem ty_loose : tyOf Tryd.prog 8 28 = some (.slice tLoose 56) := by kernel_rfl
def lshOf (d : tLoose.den) : Lsh := ⟨⟨(show Bool from d.1), (List.range (show SlH from d.2.1.1).n).map fun q => arcOf (d.2.1.2 q), (List.range (show SlH from d.2.2.1.1).n).map fun q => (show Int from d.2.2.1.2 q)⟩, (show SlH from d.2.1.1).A, (show SlH from d.2.1.1).c, (show SlH from d.2.2.1.1).A, (show SlH from d.2.2.1.1).c⟩
def looL (n : Nat) (x : Nat → tLoose.den) : List Lsh := (List.range n).map fun i => lshOf (x i)
theorem loose_in {w : World} {A : Option Addr} {n c : Nat} {x : Nat → tLoose.den} {cs : List Value} (h : Reads w w.heap.size (.slice tLoose 56) (⟨A, n, c⟩, x) cs) (hn : n ≤ 2097152) (hf : ∀ i, i < n → Few 2097152 tLoose (x i)) : LoIn w w.heap.size A n c (looL n x) := by
  have hs := h.sl (e := tLoose) (fun d => rfl)
  have hal : ∀ i, (lshOf (x i)).d.arcs.length = (show SlH from (x i).2.1.1).n := fun i => by
    show ((List.range _).map _).length = _
    rw [List.length_map, List.length_range]
  have hfl : ∀ i, (lshOf (x i)).d.free.length = (show SlH from (x i).2.2.1.1).n := fun i => by
    show ((List.range _).map _).length = _
    rw [List.length_map, List.length_range]
  refine ⟨by unfold looL; rw [List.length_map, List.length_range], ?_, h.2.1.1, hn, fun y hy => ?_, fun y hy => ?_⟩
  · have e : (looL n x).flatMap Lsh.hdr = (List.range n).flatMap fun i => Ty.cells tLoose (x i) := by
      unfold looL
      rw [List.flatMap_map]
      refine congrArg (fun f => (List.range n).flatMap f) (funext fun i => ?_)
      unfold Lsh.hdr
      rw [hal, hfl]
      rfl
    rw [e]
    exact hs
  · obtain ⟨i, hi, rfl⟩ := List.mem_map.1 hy
    obtain ⟨cl, _, c2, _, _, _, c3, c4, _, _, hr, _⟩ := h.elem (List.mem_range.1 hi)
    have h1 := hr.sl (e := tArc) (fun d => rfl)
    have h2 := hr.2.1
    have h3 := (hf i (List.mem_range.1 hi)).2.1.1
    refine ⟨?_, by rw [hal]; exact h2.1, by rw [hal]; exact h3⟩
    rw [hal]
    have e := arcs_cells (show SlH from (x i).2.1.1).n (x i).2.1.2
    show Sl _ _ 3 _ _ (arcsC ((List.range _).map _))
    rw [e]
    exact h1
  · obtain ⟨i, hi, rfl⟩ := List.mem_map.1 hy
    obtain ⟨cl, _, c2, _, _, _, c3, c4, _, _, hr, c5, c6, _, _, hr2, _⟩ := h.elem (List.mem_range.1 hi)
    have h1 := hr2.sl (e := .int .i64) (fun d => rfl)
    have h2 := hr2.2.1
    have h3 := (hf i (List.mem_range.1 hi)).2.2.1.1
    refine ⟨?_, by rw [hfl]; exact h2.1, by rw [hfl]; exact h3, fun e => by rw [hfl]; exact Nat.le_zero.1 (Nat.le_trans h2.1 (Nat.le_of_eq (h2.2.2.2 e)))⟩
    rw [hfl]
    have e : ((lshOf (x i)).d.free.map (Value.int .i64)) = (List.range (show SlH from (x i).2.2.1.1).n).flatMap fun q => Ty.cells (.int .i64) ((x i).2.2.1.2 q) := by
      show ((List.range _).map _).map _ = _
      rw [List.map_map, List.map_eq_flatMap]
      rfl
    rw [e]
    exact h1
end Go.Proofs.YtclahhkcbkpofaaDoor
/- A struct argument of a bounded bulk. -/
namespace Go.Proofs.YtclahhkcbkpofaaDoor
open Go.RowKit Go.ChangeShapes Go.WideShapes Go.Deep

section
variable {H : Type} {enc : TypeId × Value → H} {P : Program} {w : World} {base : Nat} {spare : Nat → Bool} {held : Bool}
theorem open_deepb_struct {bulk : DataW H → Nat} (bk : BulkLaw bulk) {M : Nat} {k : Nat} {t : TypeId} {e : Ty} {cs : Array Value} {d : DataW H} {p : List MemPlace} (hT : tyOf P k t = some e) (h : DataW.Trod enc P w base spare held t (.agg cs) d p) (hs : Small P t d) (hM : bulk d ≤ M) :
    ∃ x : e.den, Reads w w.heap.size e x cs.toList ∧ Few M e x := by
  obtain ⟨m, hm⟩ := h
  obtain ⟨x, hr, hf⟩ := readb_of bk k t _ hT m _ _ hm hs hM
  exact ⟨x, hr, hf⟩
end
end Go.Proofs.YtclahhkcbkpofaaDoor
/- A loose state by value, of a bounded bulk. -/
namespace Go.Proofs.YtclahhkcbkpofaaDoor
open Go.RowKit

theorem ty_loose1 : tyOf Tryd.prog 8 25 = some tLoose := by kernel_rfl
/-- A state whose rows lie in memory. -/
structure OneIn (w : World) (B : Nat) (x : Lsh) : Prop where
  ar : Sl w B 3 x.A x.d.arcs.length (arcsC x.d.arcs) ∧ x.d.arcs.length ≤ x.c ∧ x.d.arcs.length ≤ 1048576
  fr : Sl w B 1 x.F x.d.free.length (x.d.free.map (.int .i64)) ∧ x.d.free.length ≤ x.e ∧ x.d.free.length ≤ 1048576 ∧ (x.F = none → x.d.free.length = 0)
theorem OneIn.keep {w w' : World} {B B' : Nat} {x : Lsh} (h : OneIn w B x) (hb : Below B w w') (hB : B ≤ B') : OneIn w' B' x := ⟨⟨(h.ar.1.below hb).more hB, h.ar.2⟩, ⟨(h.fr.1.below hb).more hB, h.fr.2⟩⟩
theorem one_in {w : World} {x : tLoose.den} {cs : Array Value} (h : Reads w w.heap.size tLoose x cs.toList) (hf : Few 1048576 tLoose x) : cs = #[.bool (lshOf x).d.fin, .slice (lshOf x).A (lshOf x).d.arcs.length (lshOf x).c, .slice (lshOf x).F (lshOf x).d.free.length (lshOf x).e] ∧ OneIn w w.heap.size (lshOf x) := by
  have hal : (lshOf x).d.arcs.length = (show SlH from x.2.1.1).n := by
    show ((List.range _).map _).length = _
    rw [List.length_map, List.length_range]
  have hfl : (lshOf x).d.free.length = (show SlH from x.2.2.1.1).n := by
    show ((List.range _).map _).length = _
    rw [List.length_map, List.length_range]
  have hc : cs.toList = Ty.cells tLoose x := Reads.cells (t := tLoose) h
  refine ⟨?_, ?_, ?_⟩
  · rw [hal, hfl]
    apply Array.toList_inj.1
    rw [hc]
    rfl
  · obtain ⟨c1, c2, _, _, _, hr⟩ := h
    obtain ⟨c3, c4, _, _, hr, _⟩ := hr
    have h1 := hr.sl (e := tArc) (fun d => rfl)
    have h2 := hr.2.1
    have h3 := hf.2.1.1
    refine ⟨?_, by rw [hal]; exact h2.1, by rw [hal]; exact h3⟩
    rw [hal]
    have e := arcs_cells (show SlH from x.2.1.1).n x.2.1.2
    show Sl _ _ 3 _ _ (arcsC ((List.range _).map _))
    rw [e]
    exact h1
  · obtain ⟨c1, c2, _, _, _, hr⟩ := h
    obtain ⟨c3, c4, _, _, _, hr⟩ := hr
    obtain ⟨c5, c6, _, _, hr2, _⟩ := hr
    have h1 := hr2.sl (e := .int .i64) (fun d => rfl)
    have h2 := hr2.2.1
    have h3 := hf.2.2.1.1
    refine ⟨?_, by rw [hfl]; exact h2.1, by rw [hfl]; exact h3, fun e => by rw [hfl]; exact Nat.le_zero.1 (Nat.le_trans h2.1 (Nat.le_of_eq (h2.2.2.2 e)))⟩
    rw [hfl]
    have e : ((lshOf x).d.free.map (Value.int .i64)) = (List.range (show SlH from x.2.2.1.1).n).flatMap fun q => Ty.cells (.int .i64) (x.2.2.1.2 q) := by
      show ((List.range _).map _).map _ = _
      rw [List.map_map, List.map_eq_flatMap]
      rfl
    rw [e]
    exact h1
end Go.Proofs.YtclahhkcbkpofaaDoor
/- The bytes of what is no character. -/
namespace Go.Proofs.YtclahhkcbkpofaaDoor
open Go.RowKit
open Sp

set_option maxRecDepth 100000 in
theorem rencode_no (w : World) (c : Int) (hw : wholeB c = false) : Calls Tryd.prog 32 #[.slice (some ⟨w.heap.size, 0, none⟩) 1 1] (w.alloc (.cells #[.int .i64 c] 3)) fun e w' => e = .returned (.tuple #[.string ⟨#[]⟩, .int .i64 1]) ∧ Below w.heap.size w w' := by
  have HW := Lib.hid (rwhole_any c)
  have HY := Lib.hid hw
  clear hw
  go_enter Tryd.func32, Tryd.ntmps32
  go_wp2_with fail
  refine wp_loop_rounds 2 ?_
  rw [rounds_succ]
  go_wp2_with fail
  refine (HW.out _).mono ?_
  rw [HY.out]
  rintro e w1 ⟨rfl, rfl⟩
  have hB := bnew (brefl w) (.cells #[.int .i64 c] 3)
  go_wp2_with fail
  go_ret2
  exact ⟨by simp, hB⟩
set_option maxRecDepth 100000 in
theorem bytes_no (c : Int) (hw : wholeB c = false) (w : World) : Calls Tryd.prog 13 #[.int .i64 c] w fun e w' => e = .returned (.string ⟨#[]⟩) ∧ Below w.heap.size w w' := by
  have HC := Lib.hid (rencode_no w c hw)
  clear hw
  go_enter Tryd.func13, Tryd.ntmps13
  go_wp2_with fail
  refine HC.out.mono ?_
  rintro e w1 ⟨rfl, hb1⟩
  go_wp2_with fail
  go_ret
  exact ⟨rfl, hb1⟩
end Go.Proofs.YtclahhkcbkpofaaDoor
/- strings.Builder: WriteByte at this program. -/
namespace Go.Proofs.YtclahhkcbkpofaaDoor
open Go.RowKit Go.Shelf

theorem el_u8 : Elem Tryd.prog 91 5 1 1 := Elem.mk_ Tryd.underlying91 (z := .int .u8 0) (by kernel_rfl) rfl (by omega)
set_option maxRecDepth 100000 in
set_option maxHeartbeats 4000000 in
theorem writeb_any (B b : Nat) (bs : List Value) (ch : Int) (w : World) (h : Lib.IsBuilder 93 5 B b bs w) (hlen : bs.length + 1 ≤ 1407374883553) (hBw : B ≤ w.heap.size) :
    Calls Tryd.prog 57 #[.pointer (some ⟨b, 0, none⟩), .int .u8 ch] w fun e w' => e = .returned .nilIface ∧ (Lib.IsBuilder 93 5 B b (bs ++ [.int .u8 ch]) w' ∧ Below B w w' ∧ OthersStand b w w') := by
  go_enter Tryd.func57, Tryd.ntmps57
  go_wp2_with fail
  refine (check_any B b bs _ h).mono ?_
  rintro e w1 ⟨rfl, h1, hb1, ho1⟩
  obtain ⟨hB, v, hbk, hown, hne⟩ := h1
  have c0 : w1.cell? ⟨b, 0, none⟩ = some (.pointer (some ⟨b, 0, none⟩)) := by rw [Lib.cell_of_heap hbk]; rfl
  have c1 : w1.cell? ⟨b, 1, none⟩ = some v := by rw [Lib.cell_of_heap hbk]; rfl
  have hlt : b < w1.heap.size := by
    rcases Nat.lt_or_ge b w1.heap.size with h' | h'
    · exact h'
    · simp [Array.getElem?_eq_none h'] at hbk
  have hbw1 : B ≤ w1.heap.size := Nat.le_trans hBw hb1.size
  obtain ⟨A1, cap1, rfl, _⟩ := own_shape hown
  have hkeep : ∀ w2 : World, w1.grownBy w2 (Value.slice A1 bs.length cap1).ownBlock → w2.heap[b]? = some (.cells #[.pointer (some ⟨b, 0, none⟩), .slice A1 bs.length cap1] 93 (0, 0)) := fun w2 hg => by
    rw [hg.block b hlt (fun e => hne e.symm)]
    exact hbk
  go_wp2_with (at_builtin; refine wpList_push w1 w1 _ rfl _ _ _ rfl el_u8 (.slice A1 bs.length cap1) bs.length bs rfl hown rfl (by simp) rfl (by simp [Value.oneCell']) (by unfold maxLen; omega) (by omega) hbw1 (Below.refl _ _) ?_; intro v' w2 hown' hb2' hgrow _; obtain ⟨A2, cap2, rfl, _⟩ := own_shape hown'; have hb2 := hkeep w2 hgrow; have d1 : w2.cell? ⟨b, 1, none⟩ = some (.slice A1 bs.length cap1) := (Lib.cell_of_heap hb2 1).trans rfl; have f1 : w2.frozen? ⟨b, 1, none⟩ = false := Lib.frozen_of_heap hb2 1)
  go_ret
  refine ⟨rfl, .inr ?_, ?_, ?_⟩
  · exact Lib.BuilderAt.put (T := 93) (e := 5) hB hb2 (bs' := bs ++ [.int .u8 ch]) (by simpa using hown') (by decide)
  · exact (hb1.trans hb2').setCell (p := ⟨b, 1, none⟩) hB _
  · refine ho1.trans fun k cs t f h1 h2 h3 => ?_
    rw [Below.heap_setCell _ _ _ _ h1, hgrow.block k (Array.getElem?_eq_some_iff.1 h3).1 ?_]
    · exact h3
    · intro e
      rcases hown.2 with ⟨hv, _⟩ | ⟨g, cap', cur, hv, _, hg, _⟩
      · injection hv with hv _ _
        subst hv
        cases e
      · injection hv with hv _ _
        subst hv
        simp only [Value.ownBlock, Option.some.injEq] at e
        subst e
        rw [hg] at h3
        injection h3 with h3
        injection h3 with _ h3 _
        exact h2 h3.symm
end Go.Proofs.YtclahhkcbkpofaaDoor
