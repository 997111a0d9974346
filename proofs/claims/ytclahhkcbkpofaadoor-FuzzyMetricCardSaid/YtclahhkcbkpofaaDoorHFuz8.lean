/- strings.Builder: its copy check and WriteString at this program (the translation's copyCheck refuses where the shelf's panics; so these two are walked here, after the shelf's own walks). -/
import Derived.Test.YtclahhkcbkpofaaDoorHFuz2
import Derived.Test.YtclahhkcbkpofaaDoorHFuz7
import Derived.Shelf.Strings.Builder1
import Derived.Lib.AppendIntMem
import Derived.Lib.ItoaLen
import Derived.Deep.RegionHeld3
import Derived.Test.YtclahhkcbkpofaaDoorCards
import Derived.Test.YtclahhkcbkpofaaDoorTie
import Derived.WalkKit
import Derived.ProofKit
import Derived.OpenShut
import Derived.ShutString
import Derived.ChangeOld
import Derived.SizedLaws
import Derived.Deep.DeepHandedRow
import Derived.Lib.LaidTab
namespace Go.Proofs.YtclahhkcbkpofaaDoor
open Go.RowKit Go.Shelf

theorem sb_size : (Tryd.prog.info? 93).map (·.size) = some 2 := by kernel_rfl
theorem sb_lies : liesAt Tryd.prog Tryd.prog.depth 93 (2 / Tryd.prog.cellsOf 93) 0 93 1 = true := by kernel_rfl
set_option maxHeartbeats 1000000 in
set_option maxRecDepth 100000 in
theorem check_used (b : Nat) (w : World) (h0 : w.cell? ⟨b, 0, none⟩ = some (.pointer (some ⟨b, 0, none⟩))) :
    Calls Tryd.prog 72 #[.pointer (some ⟨b, 0, none⟩)] w fun e w' => e = .returned (.tuple #[]) ∧ w' = w := by
  obtain ⟨j, hj, _⟩ := Option.map_eq_some_iff.1 sb_size
  go_enter Tryd.func72, Tryd.ntmps72
  go_wp2
  all_goals
    rw [Lib.run_neq_ptr_same w _ Tryd.underlying90 hj]
    go_wp2
    go_end0
    exact ⟨rfl, rfl⟩
set_option maxHeartbeats 1000000 in
set_option maxRecDepth 100000 in
theorem check_fresh (b : Nat) (w : World) (h0 : w.cell? ⟨b, 0, none⟩ = some (.pointer none)) (hsh : w.shape? b = some (93, 2)) (hfz : w.frozen? ⟨b, 0, none⟩ = false) :
    Calls Tryd.prog 72 #[.pointer (some ⟨b, 0, none⟩)] w fun e w' => e = .returned (.tuple #[]) ∧ w' = w.setCell ⟨b, 0, none⟩ (.pointer (some ⟨b, 0, none⟩)) := by
  obtain ⟨j, hj, hjs⟩ := Option.map_eq_some_iff.1 sb_size
  go_enter Tryd.func72, Tryd.ntmps72
  go_wp2
  rw [Lib.run_to_unsafe w ⟨b, 0, none⟩ Tryd.underlying90 Tryd.underlying121 hj (by rw [hjs]; decide) hsh (Nat.zero_lt_succ 1)]
  simp only [Result.andThen]
  rw [Oper.upon_value]
  go_wp2
  rw [run_callFunc_extern Tryd.func79 (by kernel_rfl) (by kernel_rfl) (by kernel_rfl) (e := Extern.AbiNoEscape.same) (by kernel_rfl)]
  rw [Lib.run_noEscape]
  simp only [Result.andThen]
  rw [Oper.upon_value]
  go_wp2
  rw [Lib.run_from_unsafe w ⟨b, 0, none⟩ Tryd.underlying121 Tryd.underlying90 hj hsh sb_lies]
  simp only [Result.andThen]
  rw [Oper.upon_value]
  go_wp2
  go_end0
  exact ⟨rfl, rfl⟩
/-- All blocks but b and rows of bytes stand as they stood. -/
def OthersStand (b : Nat) (w w' : World) : Prop := ∀ k cs t f, k ≠ b → t ≠ 5 → w.heap[k]? = some (.cells cs t f) → w'.heap[k]? = some (.cells cs t f)
theorem OthersStand.trans {b : Nat} {a c d : World} (h : OthersStand b a c) (k : OthersStand b c d) : OthersStand b a d := fun i cs t f h1 h2 h3 => k i cs t f h1 h2 (h i cs t f h1 h2 h3)
/-- A builder that holds these bytes. -/
def Sb (w : World) (B b : Nat) (l : List UInt8) : Prop := Lib.IsBuilder 93 5 B b (Lib.byteCells l) w
theorem check_any (B b : Nat) (bs : List Value) (w : World) (h : Lib.IsBuilder 93 5 B b bs w) :
    Calls Tryd.prog 72 #[.pointer (some ⟨b, 0, none⟩)] w fun e w' => e = .returned (.tuple #[]) ∧ (Lib.BuilderAt 93 5 B b (.pointer (some ⟨b, 0, none⟩)) bs w' ∧ Below B w w' ∧ OthersStand b w w') := by
  rcases h with h | h
  · refine (check_fresh b w h.cell0 h.shape h.frozen0).mono ?_
    rintro e w' ⟨rfl, rfl⟩
    exact ⟨rfl, h.used _, (Below.refl B w).setCell (p := ⟨b, 0, none⟩) h.1 _, fun k cs t f h1 _ h3 => (Below.heap_setCell _ _ _ _ h1).trans h3⟩
  · refine (check_used b w h.cell0).mono ?_
    rintro e w' ⟨rfl, rfl⟩
    exact ⟨rfl, h, Below.refl B _, fun _ _ _ _ _ _ h3 => h3⟩
set_option maxHeartbeats 2000000 in
set_option maxRecDepth 100000 in
theorem writes_any (B b : Nat) (bs : List Value) (s : ByteArray) (w : World) (h : Lib.IsBuilder 93 5 B b bs w) (hlen : bs.length + s.size ≤ 140737488355328) (hBw : B ≤ w.heap.size) :
    Calls Tryd.prog 55 #[.pointer (some ⟨b, 0, none⟩), .string s] w fun e w' => e = .returned (.tuple #[.int .i64 s.size, .nilIface]) ∧ (Lib.IsBuilder 93 5 B b (bs ++ Lib.strCells s) w' ∧ Below B w w' ∧ OthersStand b w w') := by
  obtain ⟨i0, hi, hz0, hz1, hz2⟩ := info_parts (show (Tryd.prog.info? 5).map (fun i => (i.zero, i.size, i.bytes)) = some (some (.int .u8 0), 1, 1) by kernel_rfl)
  go_enter Tryd.func55, Tryd.ntmps55
  go_wp2_with fail
  refine (check_any B b bs _ h).mono ?_
  rintro e w1 ⟨rfl, h1, hb1, ho1⟩
  obtain ⟨hB, v, hbk, hown, hne⟩ := h1
  have c0 : w1.cell? ⟨b, 0, none⟩ = some (.pointer (some ⟨b, 0, none⟩)) := by rw [Lib.cell_of_heap hbk]; rfl
  have c1 : w1.cell? ⟨b, 1, none⟩ = some v := by rw [Lib.cell_of_heap hbk]; rfl
  go_wp2_with (at_builtin; refine Lib.wpList_append_own_string _ rfl _ _ 91 9 rfl B 5 i0 Tryd.underlying91 Tryd.underlying9 hi hz0 hz1 hz2 _ _ _ rfl hown s rfl ?c3 ?c4 ?c5 ?_)
  case c3 => unfold maxLen; omega
  case c4 => omega
  case c5 => have := hb1.size; omega
  intro v' w2 hown' hgrow _
  have hlt : b < w1.heap.size := by
    rcases Nat.lt_or_ge b w1.heap.size with h' | h'
    · exact h'
    · simp [Array.getElem?_eq_none h'] at hbk
  have hb2 : w2.heap[b]? = some (.cells #[.pointer (some ⟨b, 0, none⟩), v] 93 (0, 0)) := by
    rw [hgrow.block b hlt (fun e => hne e.symm)]
    exact hbk
  have d0 : w2.cell? ⟨b, 0, none⟩ = some (.pointer (some ⟨b, 0, none⟩)) := by rw [Lib.cell_of_heap hb2]; rfl
  have d1 : w2.cell? ⟨b, 1, none⟩ = some v := by rw [Lib.cell_of_heap hb2]; rfl
  have f1 : w2.frozen? ⟨b, 1, none⟩ = false := Lib.frozen_of_heap hb2 1
  obtain ⟨ao, n', cap, rfl⟩ : ∃ ao n' cap, v' = .slice ao n' cap := by
    rcases hown'.2 with ⟨hv, _⟩ | ⟨g, cap, cur, hv, _⟩
    · exact ⟨_, _, _, hv⟩
    · exact ⟨_, _, _, hv⟩
  go_wp2
  go_ret2
  refine ⟨rfl, .inr ?_, ?_, ?_⟩
  · exact Lib.BuilderAt.put (T := 93) (e := 5) hB hb2 (bs' := bs ++ Lib.strCells s) (by simpa [Lib.strCells_length] using hown') (by decide)
  · exact (hb1.grown hgrow (by have := hb1.size; omega) (fun k hk => (hown.lt k hk).1)).setCell (p := ⟨b, 1, none⟩) hB _
  · refine ho1.trans fun k cs t f h1 h2 h3 => ?_
    rw [Below.heap_setCell _ _ _ _ h1, hgrow.block k (Array.getElem?_eq_some_iff.1 h3).1 ?_]
    · exact h3
    · intro e
      rcases hown.2 with ⟨rfl, _⟩ | ⟨g, cap', cur, rfl, _, hg, _⟩
      · cases e
      · simp only [Value.ownBlock, Option.some.injEq] at e
        subst e
        rw [hg] at h3
        injection h3 with h3
        injection h3 with _ h3 _
        exact h2 h3.symm
end Go.Proofs.YtclahhkcbkpofaaDoor
/- The library's table; numbers as texts; a Builder that is written. -/
namespace Go.Proofs.YtclahhkcbkpofaaDoor
open Go.RowKit

/-- What the calls ask of the library's table. -/
def Tab (w : World) : Prop := Lib.TabIs Tryd.prog w "internal/strconv.uint64pow10" .u64 Lib.pow10Tab
theorem tab_gn : Tryd.prog.globalNamed "internal/strconv.uint64pow10" = some 0 := by kernel_rfl
theorem Tab.keep {w w' : World} {B : Nat} (h : Tab w) (hB : 0 < B) (hb : Below B w w') : Tab w' := by
  unfold Tab Lib.TabIs World.var? at h ⊢
  rw [tab_gn] at h ⊢
  simp only [Option.bind_some] at h ⊢
  rw [hb.block _ hB]
  exact h
theorem Tab.lt {w : World} (h : Tab w) : 0 < w.heap.size := by
  unfold Tab Lib.TabIs World.var? at h
  rw [tab_gn] at h
  simp only [Option.bind_some] at h
  rcases Nat.lt_or_ge 0 w.heap.size with h' | h'
  · exact h'
  · rw [Array.getElem?_eq_none h'] at h; cases h
theorem Tab.below {w w' : World} (h : Tab w) (hb : Below w.heap.size w w') : Tab w' := h.keep h.lt hb
theorem itoa_any (n : Int) (h0 : -9223372036854775808 ≤ n) (h1 : n ≤ 9223372036854775807) (w : World) (ht : Tab w) :
    Calls Tryd.prog 56 #[.int .i64 n] w fun e w' => e = .returned (.string ⟨(Lib.itoa n).toArray⟩) ∧ Below w.heap.size w w' := by
  refine (Tryd.strconv_Itoa n h0 h1 w ht).mono ?_
  rintro e w' ⟨rfl, k, os, rfl⟩
  exact ⟨rfl, Lib.below_grow _ w (Nat.le_refl _) k os⟩
/-- What a walk that writes a Builder keeps. -/
structure SgR (w W : World) (b : Nat) (l : List UInt8) : Prop where
  sb : Sb W b b l
  tab : Tab W
  bel : Below w.heap.size w W
  le : w.heap.size ≤ b
  lt : b < W.heap.size
theorem SgR.keep {w W W' : World} {b : Nat} {l : List UInt8} (h : SgR w W b l) (hb : Below W.heap.size W W') : SgR w W' b l := by
  refine ⟨?_, h.tab.below hb, bcall h.bel hb, h.le, Nat.lt_of_lt_of_le h.lt hb.size⟩
  rcases h.sb with ⟨h1, v, h2, h3, h4⟩ | ⟨h1, v, h2, h3, h4⟩
  · exact .inl ⟨h1, v, (hb.block b h.lt).trans h2, own_kept h3 hb, h4⟩
  · exact .inr ⟨h1, v, (hb.block b h.lt).trans h2, own_kept h3 hb, h4⟩
theorem SgR.write {w W : World} {b : Nat} {l : List UInt8} (h : SgR w W b l) (hb0 : 0 < b) (s : List UInt8) (hl : l.length + s.length ≤ 4611686018427) :
    Calls Tryd.prog 55 #[.pointer (some ⟨b, 0, none⟩), .string ⟨s.toArray⟩] W fun e w' => e = .returned (.tuple #[.int .i64 (⟨s.toArray⟩ : ByteArray).size, .nilIface]) ∧ SgR w w' b (l ++ s) ∧ Below b W w' ∧ OthersStand b W w' := by
  refine (writes_any b b (Lib.byteCells l) ⟨s.toArray⟩ W h.sb (by rw [Lib.byteCells_length]; show _ + s.toArray.size ≤ _; simp; omega) (Nat.le_of_lt h.lt)).mono ?_
  rintro e w' ⟨rfl, h1, h2, h3⟩
  refine ⟨rfl, ⟨?_, h.tab.keep hb0 h2, h.bel.trans (h2.mono h.le), h.le, Nat.lt_of_lt_of_le h.lt h2.size⟩, h2, h3⟩
  have e1 : Lib.byteCells l ++ Lib.strCells ⟨s.toArray⟩ = Lib.byteCells (l ++ s) := by
    simp [Lib.byteCells, Lib.strCells]
  unfold Sb
  rw [← e1]
  exact h1
theorem SgR.start (w : World) (ht : Tab w) {W : World} {b : Nat} (hb : Below w.heap.size w W) (hs : W.heap.size = b) : SgR w (W.alloc (.cells #[.pointer none, .slice none 0 0] 93)) b [] := by
  subst hs
  refine ⟨.inl ⟨Nat.le_refl _, .slice none 0 0, heap_alloc_new _ _, ⟨rfl, .inl ⟨rfl, rfl⟩⟩, by simp [Value.ownBlock]⟩, ht.below (bnew hb _), bnew hb _, hb.size, by simp⟩
theorem size_mk (l : List UInt8) : (⟨l.toArray⟩ : ByteArray).size = l.length := by show l.toArray.size = _; simp
theorem add_mk (l m : List UInt8) : (⟨l.toArray⟩ : ByteArray) ++ ⟨m.toArray⟩ = ⟨(l ++ m).toArray⟩ := by
  apply ByteArray.ext
  simp
theorem cat_mk (l m : List UInt8) (h : l.length + m.length ≤ 4611686018427) (w : World) : (Op.stringOp .add (⟨l.toArray⟩ : ByteArray) ⟨m.toArray⟩).run Tryd.prog w = .ok (.string ⟨(l ++ m).toArray⟩) w := by
  rw [← add_mk]
  exact run_string_add_sum w _ _ (by rw [size_mk, size_mk]; omega)
end Go.Proofs.YtclahhkcbkpofaaDoor
/- What the rows' lists give; a world that meets them. -/
namespace Go.Proofs.YtclahhkcbkpofaaDoor
open Go.RowKit

theorem own : ownKnob Tryd.prog.godebug = none := by kernel_rfl
theorem laidOut : laidOutB Tryd.prog = true := by kernel_rfl
theorem gTabType : (Tryd.prog.globals[0]?).map (·.type) = some 147 := by kernel_rfl
theorem laid_tail {P : Program} {x : String × DataW Unit} {r : List (String × DataW Unit)} {w : World} (h : laidMet P (x :: r) w) : laidMet P r w := by
  obtain ⟨ps, ⟨g, t, cs, fuel, p, q, _, _, _, _, hq, rfl⟩, hn, hc⟩ := h
  exact ⟨q, hq, (List.nodup_append.1 hn).2.1, fun b off hm => hc b off (List.mem_append_right _ hm)⟩
/-- The third of the tables. -/
theorem table {W : World} (h : laidMetH Tryd.prog Rows.spansLeadRow.laid W) : Tab W :=
  Lib.tabIs_of_head (rest := []) tab_gn gTabType Tryd.underlying147 Tryd.underlying135 (by kernel_rfl) (by kernel_rfl) (laid_tail (laid_tail h))
def cellsOfD : DataW Unit → Array Value
  | .agg l => (l.map fun d => match d with
    | .lit (.int k z) => Value.int k z
    | _ => .nilIface).toArray
  | _ => #[]
def put0 (o : Obj) (d : DataW Unit) : Obj := match o with
  | .cells _ t frozen => .cells (cellsOfD d) t frozen
  | o => o
/-- A world for the witness. -/
noncomputable def laidWorld (os : Os) : World :=
  { World.holding Tryd.prog os ⟨#[], #[], []⟩ with heap := (((World.holding Tryd.prog os ⟨#[], #[], []⟩).heap.modify 0 fun o => put0 o Rows.laid_internal_strconv_uint64pow10).modify 1 fun o => put0 o Rows.laid_math_bits_deBruijn32tab).modify 2 fun o => put0 o Rows.laid_math_bits_deBruijn64tab }
end Go.Proofs.YtclahhkcbkpofaaDoor
