/- strings.Builder: its copy check and WriteString at this program (the translation's copyCheck refuses where the shelf's panics; so these two are walked here, after the shelf's own walks). -/
import Derived.Test.YtebdffabfimmkaaDoorHDfaMeets1
import Derived.Test.YtebdffabfimmkaaDoorHDfaMeets2
import Derived.Shelf.Strings.Builder1
import Derived.Lib.AppendIntMem
import Derived.Lib.ItoaLen
import Derived.Deep.RegionHeld3
import Derived.Test.YtebdffabfimmkaaDoorCards
import Derived.Test.YtebdffabfimmkaaDoorTie
import Derived.WalkKit
import Derived.ProofKit
import Derived.OpenShut
import Derived.ShutString
import Derived.ChangeOld
import Derived.SizedLaws
import Derived.Deep.DeepHandedRow
import Derived.Lib.LaidTab
namespace Go.Proofs.YtebdffabfimmkaaDoor
open Go.RowKit Go.Shelf

theorem sb_size : (Tryd.prog.info? 84).map (·.size) = some 2 := by kernel_rfl
theorem sb_lies : liesAt Tryd.prog Tryd.prog.depth 84 (2 / Tryd.prog.cellsOf 84) 0 84 1 = true := by kernel_rfl
set_option maxHeartbeats 1000000 in
set_option maxRecDepth 100000 in
theorem check_used (b : Nat) (w : World) (h0 : w.cell? ⟨b, 0, none⟩ = some (.pointer (some ⟨b, 0, none⟩))) :
    Calls Tryd.prog 51 #[.pointer (some ⟨b, 0, none⟩)] w fun e w' => e = .returned (.tuple #[]) ∧ w' = w := by
  obtain ⟨j, hj, _⟩ := Option.map_eq_some_iff.1 sb_size
  go_enter Tryd.func51, Tryd.ntmps51
  go_wp2
  all_goals
    rw [Lib.run_neq_ptr_same w _ Tryd.underlying81 hj]
    go_wp2
    go_end0
    exact ⟨rfl, rfl⟩
set_option maxHeartbeats 1000000 in
set_option maxRecDepth 100000 in
theorem check_fresh (b : Nat) (w : World) (h0 : w.cell? ⟨b, 0, none⟩ = some (.pointer none)) (hsh : w.shape? b = some (84, 2)) (hfz : w.frozen? ⟨b, 0, none⟩ = false) :
    Calls Tryd.prog 51 #[.pointer (some ⟨b, 0, none⟩)] w fun e w' => e = .returned (.tuple #[]) ∧ w' = w.setCell ⟨b, 0, none⟩ (.pointer (some ⟨b, 0, none⟩)) := by
  obtain ⟨j, hj, hjs⟩ := Option.map_eq_some_iff.1 sb_size
  go_enter Tryd.func51, Tryd.ntmps51
  go_wp2
  rw [Lib.run_to_unsafe w ⟨b, 0, none⟩ Tryd.underlying81 Tryd.underlying104 hj (by rw [hjs]; decide) hsh (Nat.zero_lt_succ 1)]
  simp only [Result.andThen]
  rw [Oper.upon_value]
  go_wp2
  rw [run_callFunc_extern Tryd.func56 (by kernel_rfl) (by kernel_rfl) (by kernel_rfl) (e := Extern.AbiNoEscape.same) (by kernel_rfl)]
  rw [Lib.run_noEscape]
  simp only [Result.andThen]
  rw [Oper.upon_value]
  go_wp2
  rw [Lib.run_from_unsafe w ⟨b, 0, none⟩ Tryd.underlying104 Tryd.underlying81 hj hsh sb_lies]
  simp only [Result.andThen]
  rw [Oper.upon_value]
  go_wp2
  go_end0
  exact ⟨rfl, rfl⟩
/-- All blocks but b and rows of bytes stand as they stood. -/
def OthersStand (b : Nat) (w w' : World) : Prop := ∀ k cs t f, k ≠ b → t ≠ 5 → w.heap[k]? = some (.cells cs t f) → w'.heap[k]? = some (.cells cs t f)
theorem OthersStand.trans {b : Nat} {a c d : World} (h : OthersStand b a c) (k : OthersStand b c d) : OthersStand b a d := fun i cs t f h1 h2 h3 => k i cs t f h1 h2 (h i cs t f h1 h2 h3)
/-- A builder that holds these bytes. -/
def Sb (w : World) (B b : Nat) (l : List UInt8) : Prop := Lib.IsBuilder 84 5 B b (Lib.byteCells l) w
theorem check_any (B b : Nat) (bs : List Value) (w : World) (h : Lib.IsBuilder 84 5 B b bs w) :
    Calls Tryd.prog 51 #[.pointer (some ⟨b, 0, none⟩)] w fun e w' => e = .returned (.tuple #[]) ∧ (Lib.BuilderAt 84 5 B b (.pointer (some ⟨b, 0, none⟩)) bs w' ∧ Below B w w' ∧ OthersStand b w w') := by
  rcases h with h | h
  · refine (check_fresh b w h.cell0 h.shape h.frozen0).mono ?_
    rintro e w' ⟨rfl, rfl⟩
    exact ⟨rfl, h.used _, (Below.refl B w).setCell (p := ⟨b, 0, none⟩) h.1 _, fun k cs t f h1 _ h3 => (Below.heap_setCell _ _ _ _ h1).trans h3⟩
  · refine (check_used b w h.cell0).mono ?_
    rintro e w' ⟨rfl, rfl⟩
    exact ⟨rfl, h, Below.refl B _, fun _ _ _ _ _ _ h3 => h3⟩
set_option maxHeartbeats 2000000 in
set_option maxRecDepth 100000 in
theorem writes_any (B b : Nat) (bs : List Value) (s : ByteArray) (w : World) (h : Lib.IsBuilder 84 5 B b bs w) (hlen : bs.length + s.size ≤ 140737488355328) (hBw : B ≤ w.heap.size) :
    Calls Tryd.prog 41 #[.pointer (some ⟨b, 0, none⟩), .string s] w fun e w' => e = .returned (.tuple #[.int .i64 s.size, .nilIface]) ∧ (Lib.IsBuilder 84 5 B b (bs ++ Lib.strCells s) w' ∧ Below B w w' ∧ OthersStand b w w') := by
  obtain ⟨i0, hi, hz0, hz1, hz2⟩ := info_parts (show (Tryd.prog.info? 5).map (fun i => (i.zero, i.size, i.bytes)) = some (some (.int .u8 0), 1, 1) by kernel_rfl)
  go_enter Tryd.func41, Tryd.ntmps41
  go_wp2_with fail
  refine (check_any B b bs _ h).mono ?_
  rintro e w1 ⟨rfl, h1, hb1, ho1⟩
  obtain ⟨hB, v, hbk, hown, hne⟩ := h1
  have c0 : w1.cell? ⟨b, 0, none⟩ = some (.pointer (some ⟨b, 0, none⟩)) := by rw [Lib.cell_of_heap hbk]; rfl
  have c1 : w1.cell? ⟨b, 1, none⟩ = some v := by rw [Lib.cell_of_heap hbk]; rfl
  go_wp2_with (at_builtin; refine Lib.wpList_append_own_string _ rfl _ _ 82 9 rfl B 5 i0 Tryd.underlying82 Tryd.underlying9 hi hz0 hz1 hz2 _ _ _ rfl hown s rfl ?c3 ?c4 ?c5 ?_)
  case c3 => unfold maxLen; omega
  case c4 => omega
  case c5 => have := hb1.size; omega
  intro v' w2 hown' hgrow _
  have hlt : b < w1.heap.size := by
    rcases Nat.lt_or_ge b w1.heap.size with h' | h'
    · exact h'
    · simp [Array.getElem?_eq_none h'] at hbk
  have hb2 : w2.heap[b]? = some (.cells #[.pointer (some ⟨b, 0, none⟩), v] 84 (0, 0)) := by
    rw [hgrow.block b hlt (fun e => hne e.symm)]
    exact hbk
  have d0 : w2.cell? ⟨b, 0, none⟩ = some (.pointer (some ⟨b, 0, none⟩)) := by rw [Lib.cell_of_heap hb2]; rfl
  have d1 : w2.cell? ⟨b, 1, none⟩ = some v := by rw [Lib.cell_of_heap hb2]; rfl
  have f1 : w2.frozen? ⟨b, 1, none⟩ = false := Lib.frozen_of_heap hb2 1
  obtain ⟨ao, n', cap, rfl⟩ : ∃ ao n' cap, v' = .slice ao n' cap := by
    rcases hown'.2 with ⟨hv, _⟩ | ⟨g, cap, cur, hv, _⟩
    · exact ⟨_, _, _, hv⟩
    · exact ⟨_, _, _, hv⟩
  go_wp2
  go_ret2
  refine ⟨rfl, .inr ?_, ?_, ?_⟩
  · exact Lib.BuilderAt.put (T := 84) (e := 5) hB hb2 (bs' := bs ++ Lib.strCells s) (by simpa [Lib.strCells_length] using hown') (by decide)
  · exact (hb1.grown hgrow (by have := hb1.size; omega) (fun k hk => (hown.lt k hk).1)).setCell (p := ⟨b, 1, none⟩) hB _
  · refine ho1.trans fun k cs t f h1 h2 h3 => ?_
    rw [Below.heap_setCell _ _ _ _ h1, hgrow.block k (Array.getElem?_eq_some_iff.1 h3).1 ?_]
    · exact h3
    · intro e
      rcases hown.2 with ⟨rfl, _⟩ | ⟨g, cap', cur, rfl, _, hg, _⟩
      · cases e
      · simp only [Value.ownBlock, Option.some.injEq] at e
        subst e
        rw [hg] at h3
        injection h3 with h3
        injection h3 with _ h3 _
        exact h2 h3.symm
end Go.Proofs.YtebdffabfimmkaaDoor
/- The library's table; numbers as texts; a Builder that is written. -/
namespace Go.Proofs.YtebdffabfimmkaaDoor
open Go.RowKit

/-- What the calls ask of the library's table. -/
def Tab (w : World) : Prop := Lib.TabIs Tryd.prog w "internal/strconv.uint64pow10" .u64 Lib.pow10Tab
theorem tab_gn : Tryd.prog.globalNamed "internal/strconv.uint64pow10" = some 0 := by kernel_rfl
theorem Tab.keep {w w' : World} {B : Nat} (h : Tab w) (hB : 0 < B) (hb : Below B w w') : Tab w' := by
  unfold Tab Lib.TabIs World.var? at h ⊢
  rw [tab_gn] at h ⊢
  simp only [Option.bind_some] at h ⊢
  rw [hb.block _ hB]
  exact h
theorem Tab.lt {w : World} (h : Tab w) : 0 < w.heap.size := by
  unfold Tab Lib.TabIs World.var? at h
  rw [tab_gn] at h
  simp only [Option.bind_some] at h
  rcases Nat.lt_or_ge 0 w.heap.size with h' | h'
  · exact h'
  · rw [Array.getElem?_eq_none h'] at h; cases h
theorem Tab.below {w w' : World} (h : Tab w) (hb : Below w.heap.size w w') : Tab w' := h.keep h.lt hb
theorem itoa_any (n : Int) (h0 : -9223372036854775808 ≤ n) (h1 : n ≤ 9223372036854775807) (w : World) (ht : Tab w) :
    Calls Tryd.prog 42 #[.int .i64 n] w fun e w' => e = .returned (.string ⟨(Lib.itoa n).toArray⟩) ∧ Below w.heap.size w w' := by
  refine (Tryd.strconv_Itoa n h0 h1 w ht).mono ?_
  rintro e w' ⟨rfl, k, os, rfl⟩
  exact ⟨rfl, Lib.below_grow _ w (Nat.le_refl _) k os⟩
/-- What a walk that writes a Builder keeps. -/
structure SgR (w W : World) (b : Nat) (l : List UInt8) : Prop where
  sb : Sb W b b l
  tab : Tab W
  bel : Below w.heap.size w W
  le : w.heap.size ≤ b
  lt : b < W.heap.size
theorem SgR.keep {w W W' : World} {b : Nat} {l : List UInt8} (h : SgR w W b l) (hb : Below W.heap.size W W') : SgR w W' b l := by
  refine ⟨?_, h.tab.below hb, bcall h.bel hb, h.le, Nat.lt_of_lt_of_le h.lt hb.size⟩
  rcases h.sb with ⟨h1, v, h2, h3, h4⟩ | ⟨h1, v, h2, h3, h4⟩
  · exact .inl ⟨h1, v, (hb.block b h.lt).trans h2, own_kept h3 hb, h4⟩
  · exact .inr ⟨h1, v, (hb.block b h.lt).trans h2, own_kept h3 hb, h4⟩
theorem SgR.write {w W : World} {b : Nat} {l : List UInt8} (h : SgR w W b l) (hb0 : 0 < b) (s : List UInt8) (hl : l.length + s.length ≤ 4611686018427) :
    Calls Tryd.prog 41 #[.pointer (some ⟨b, 0, none⟩), .string ⟨s.toArray⟩] W fun e w' => e = .returned (.tuple #[.int .i64 (⟨s.toArray⟩ : ByteArray).size, .nilIface]) ∧ SgR w w' b (l ++ s) ∧ Below b W w' ∧ OthersStand b W w' := by
  refine (writes_any b b (Lib.byteCells l) ⟨s.toArray⟩ W h.sb (by rw [Lib.byteCells_length]; show _ + s.toArray.size ≤ _; simp; omega) (Nat.le_of_lt h.lt)).mono ?_
  rintro e w' ⟨rfl, h1, h2, h3⟩
  refine ⟨rfl, ⟨?_, h.tab.keep hb0 h2, h.bel.trans (h2.mono h.le), h.le, Nat.lt_of_lt_of_le h.lt h2.size⟩, h2, h3⟩
  have e1 : Lib.byteCells l ++ Lib.strCells ⟨s.toArray⟩ = Lib.byteCells (l ++ s) := by
    simp [Lib.byteCells, Lib.strCells]
  unfold Sb
  rw [← e1]
  exact h1
theorem SgR.start (w : World) (ht : Tab w) {W : World} {b : Nat} (hb : Below w.heap.size w W) (hs : W.heap.size = b) : SgR w (W.alloc (.cells #[.pointer none, .slice none 0 0] 84)) b [] := by
  subst hs
  refine ⟨.inl ⟨Nat.le_refl _, .slice none 0 0, heap_alloc_new _ _, ⟨rfl, .inl ⟨rfl, rfl⟩⟩, by simp [Value.ownBlock]⟩, ht.below (bnew hb _), bnew hb _, hb.size, by simp⟩
theorem size_mk (l : List UInt8) : (⟨l.toArray⟩ : ByteArray).size = l.length := by show l.toArray.size = _; simp
theorem add_mk (l m : List UInt8) : (⟨l.toArray⟩ : ByteArray) ++ ⟨m.toArray⟩ = ⟨(l ++ m).toArray⟩ := by
  apply ByteArray.ext
  simp
theorem cat_mk (l m : List UInt8) (h : l.length + m.length ≤ 4611686018427) (w : World) : (Op.stringOp .add (⟨l.toArray⟩ : ByteArray) ⟨m.toArray⟩).run Tryd.prog w = .ok (.string ⟨(l ++ m).toArray⟩) w := by
  rw [← add_mk]
  exact run_string_add_sum w _ _ (by rw [size_mk, size_mk]; omega)
end Go.Proofs.YtebdffabfimmkaaDoor
/- What the rows' lists give; a world that meets them. -/
namespace Go.Proofs.YtebdffabfimmkaaDoor
open Go.RowKit

theorem own : ownKnob Tryd.prog.godebug = none := by kernel_rfl
theorem laidOut : laidOutB Tryd.prog = true := by kernel_rfl
theorem gTabType : (Tryd.prog.globals[0]?).map (·.type) = some 131 := by kernel_rfl
theorem laid_tail {P : Program} {x : String × DataW Unit} {r : List (String × DataW Unit)} {w : World} (h : laidMet P (x :: r) w) : laidMet P r w := by
  obtain ⟨ps, ⟨g, t, cs, fuel, p, q, _, _, _, _, hq, rfl⟩, hn, hc⟩ := h
  exact ⟨q, hq, (List.nodup_append.1 hn).2.1, fun b off hm => hc b off (List.mem_append_right _ hm)⟩
/-- The third of the tables. -/
theorem table {W : World} (h : laidMetH Tryd.prog Rows.dfaRunsRow.laid W) : Tab W :=
  Lib.tabIs_of_head (rest := []) tab_gn gTabType Tryd.underlying131 Tryd.underlying118 (by kernel_rfl) (by kernel_rfl) (laid_tail (laid_tail h))
def cellsOfD : DataW Unit → Array Value
  | .agg l => (l.map fun d => match d with
    | .lit (.int k z) => Value.int k z
    | _ => .nilIface).toArray
  | _ => #[]
def put0 (o : Obj) (d : DataW Unit) : Obj := match o with
  | .cells _ t frozen => .cells (cellsOfD d) t frozen
  | o => o
/-- A world for the witness. -/
noncomputable def laidWorld (os : Os) : World :=
  { World.holding Tryd.prog os ⟨#[], #[], []⟩ with heap := (((World.holding Tryd.prog os ⟨#[], #[], []⟩).heap.modify 0 fun o => put0 o Rows.laid_internal_strconv_uint64pow10).modify 1 fun o => put0 o Rows.laid_math_bits_deBruijn32tab).modify 2 fun o => put0 o Rows.laid_math_bits_deBruijn64tab }
end Go.Proofs.YtebdffabfimmkaaDoor
/- Automata in plain Lean: what they take, states that take the same, the least automaton as it is numbered. -/
namespace Go.Proofs.YtebdffabfimmkaaDoor

/-- An arc: from, to (bytes), the state. -/
abbrev Arc3 := Int × Int × Int
/-- One byte more behind arcs. -/
def growA (l : List Arc3) (c k : Int) : List Arc3 := match l.getLast? with
  | some a => if a.2.1 + 1 = c ∧ a.2.2 = k then l.dropLast ++ [(a.1, c, k)] else l ++ [(c, c, k)]
  | none => [(c, c, k)]
/-- The arcs of a function of bytes, up to a byte. -/
def runs (g : Nat → Option Nat) : Nat → List Arc3
  | 0 => []
  | c + 1 => match g c with
    | none => runs g c
    | some k => growA (runs g c) c k
/-- One arc more behind arcs. -/
def joinA (l : List Arc3) (x : Arc3) : List Arc3 := match l.getLast? with
  | some a => if a.2.2 = x.2.2 ∧ a.2.1 + 1 = x.1 then l.dropLast ++ [(a.1, x.2.1, a.2.2)] else l ++ [x]
  | none => [x]
theorem joinA_one (l : List Arc3) (c k : Int) : joinA l (c, c, k) = growA l c k := by
  unfold joinA growA
  split
  · rename_i a _
    by_cases h : a.2.2 = k ∧ a.2.1 + 1 = c
    · rw [if_pos h, if_pos ⟨h.2, h.1⟩, h.1]
    · rw [if_neg h, if_neg fun h' => h ⟨h'.2, h'.1⟩]
  · rfl
theorem joinA_grow (l : List Arc3) (lo hi k : Int) : growA (joinA l (lo, hi, k)) (hi + 1) k = joinA l (lo, hi + 1, k) := by
  have key : ∀ (m : List Arc3) (a : Int), growA (m ++ [(a, hi, k)]) (hi + 1) k = m ++ [(a, hi + 1, k)] := by
    intro m a
    unfold growA
    rw [List.getLast?_append]
    simp
  unfold joinA
  split
  · rename_i a ha
    by_cases h : a.2.2 = k ∧ a.2.1 + 1 = lo
    · rw [if_pos h, if_pos h, h.1]
      exact key _ _
    · rw [if_neg h, if_neg h]
      exact key _ _
  · exact key [] lo
/-- Bytes of one kind are one arc. -/
theorem runs_const (g : Nat → Option Nat) (lo : Nat) (k : Nat) : ∀ n, (∀ c, lo ≤ c → c < lo + (n + 1) → g c = some k) → runs g (lo + (n + 1)) = joinA (runs g lo) ((lo : Int), ((lo + n : Nat) : Int), (k : Int))
  | 0, h => by
    show runs g (lo + 1) = _
    rw [runs, h lo (Nat.le_refl _) (by omega)]
    exact (joinA_one _ _ _).symm
  | n + 1, h => by
    have ih := runs_const g lo k n fun c h1 h2 => h c h1 (by omega)
    show runs g (lo + (n + 1) + 1) = _
    rw [runs, h (lo + (n + 1)) (by omega) (by omega), ih]
    have e : ((lo + (n + 1) : Nat) : Int) = ((lo + n : Nat) : Int) + 1 := by omega
    show growA _ ((lo + (n + 1) : Nat) : Int) k = _
    rw [e]
    exact joinA_grow _ _ _ _
theorem runs_none (g : Nat → Option Nat) (lo : Nat) : ∀ n, (∀ c, lo ≤ c → c < lo + n → g c = none) → runs g (lo + n) = runs g lo
  | 0, _ => rfl
  | n + 1, h => by
    show runs g (lo + n + 1) = _
    rw [runs, h (lo + n) (by omega) (by omega)]
    exact runs_none g lo n fun c h1 h2 => h c h1 (by omega)
theorem runs_congr {g g' : Nat → Option Nat} : ∀ n, (∀ c, c < n → g c = g' c) → runs g n = runs g' n
  | 0, _ => rfl
  | n + 1, h => by rw [runs, runs, h n (by omega), runs_congr n fun c hc => h c (by omega)]

/-- An automaton: which states are final, where a byte leads. -/
structure Au (σ : Type) where
  fin : σ → Bool
  step : σ → Nat → Option σ
def Au.acc {σ : Type} (M : Au σ) : σ → List Nat → Bool
  | x, [] => M.fin x
  | x, c :: r => if c < 256 then match M.step x c with
    | some y => M.acc y r
    | none => false else false
/-- Two states take the same texts. -/
def Leq {σ τ : Type} (M : Au σ) (x : σ) (N : Au τ) (y : τ) : Prop := ∀ s, M.acc x s = N.acc y s
section
variable {σ τ ρ : Type} {M : Au σ} {N : Au τ} {L : Au ρ} {x : σ} {y : τ} {z : ρ}
theorem Leq.refl (M : Au σ) (x : σ) : Leq M x M x := fun _ => rfl
theorem Leq.symm (h : Leq M x N y) : Leq N y M x := fun s => (h s).symm
theorem Leq.trans (h : Leq M x N y) (h' : Leq N y L z) : Leq M x L z := fun s => (h s).trans (h' s)
theorem Leq.fin (h : Leq M x N y) : M.fin x = N.fin y := h []
end
def Au.live {σ : Type} (M : Au σ) (x : σ) : Prop := ∃ s, M.acc x s = true
theorem Leq.live {σ τ : Type} {M : Au σ} {N : Au τ} {x : σ} {y : τ} (h : Leq M x N y) : M.live x ↔ N.live y :=
  ⟨fun ⟨s, hs⟩ => ⟨s, (h s).symm.trans hs⟩, fun ⟨s, hs⟩ => ⟨s, (h s).trans hs⟩⟩
open Classical in
/-- Where a byte leads, if something final is reached from there. -/
noncomputable def Au.stepL {σ : Type} (M : Au σ) (x : σ) (c : Nat) : Option σ := match M.step x c with
  | some y => if M.live y then some y else none
  | none => none
theorem Leq.step {σ τ : Type} {M : Au σ} {N : Au τ} {x : σ} {y : τ} (h : Leq M x N y) {c : Nat} (hc : c < 256) : match M.stepL x c, N.stepL y c with
    | some u, some v => Leq M u N v
    | none, none => True
    | _, _ => False := by
  have key : ∀ s, (match M.step x c with | some u => M.acc u s | none => false) = (match N.step y c with | some v => N.acc v s | none => false) := by
    intro s
    have := h (c :: s)
    simpa only [Au.acc, if_pos hc] using this
  unfold Au.stepL
  cases hx : M.step x c with
  | none =>
    cases hy : N.step y c with
    | none => trivial
    | some v =>
      rw [hx, hy] at key
      have : ¬ N.live v := fun ⟨s, hs⟩ => by
        have := key s
        simp only at this
        rw [hs] at this
        cases this
      simp only [if_neg this]
  | some u =>
    cases hy : N.step y c with
    | none =>
      rw [hx, hy] at key
      have : ¬ M.live u := fun ⟨s, hs⟩ => by
        have := key s
        simp only at this
        rw [hs] at this
        cases this
      simp only [if_neg this]
    | some v =>
      rw [hx, hy] at key
      have huv : Leq M u N v := key
      by_cases hl : M.live u
      · simp only [if_pos hl, if_pos (huv.live.1 hl)]
        exact huv
      · simp only [if_neg hl, if_neg fun h => hl (huv.live.2 h)]

/-! ### States that are met, in their order -/
/-- The place of a state in a list, by a test. -/
def findI {σ : Type} (p : σ → Bool) : List σ → Option Nat
  | [] => none
  | x :: r => if p x then some 0 else (findI p r).map (· + 1)
theorem findI_some {σ : Type} {p : σ → Bool} : ∀ {l : List σ} {i : Nat}, findI p l = some i → ∃ x, l[i]? = some x ∧ p x = true
  | x :: r, i, h => by
    rw [findI] at h
    split at h
    · rename_i hp
      injection h with h
      subst h
      exact ⟨x, rfl, hp⟩
    · obtain ⟨j, hj, rfl⟩ := Option.map_eq_some_iff.1 h
      obtain ⟨y, h1, h2⟩ := findI_some hj
      exact ⟨y, by rw [List.getElem?_cons_succ]; exact h1, h2⟩
theorem findI_none {σ : Type} {p : σ → Bool} : ∀ {l : List σ}, findI p l = none ↔ ∀ x ∈ l, p x = false
  | [] => by simp [findI]
  | x :: r => by
    rw [findI]
    split
    · rename_i hp
      simp [hp]
    · rename_i hp
      rw [Option.map_eq_none_iff, findI_none]
      simp [Bool.not_eq_true] at hp ⊢
      simp [hp]
theorem findI_append {σ : Type} {p : σ → Bool} : ∀ (l m : List σ), findI p (l ++ m) = match findI p l with
    | some i => some i
    | none => (findI p m).map (· + l.length)
  | [], m => by simp [findI]
  | x :: r, m => by
    rw [List.cons_append, findI, findI]
    split
    · rfl
    · rw [findI_append r m]
      cases findI p r with
      | some i => rfl
      | none =>
        cases findI p m with
        | some i => simp; omega
        | none => rfl
/-- Two lists, paired. -/
inductive All2 {σ τ : Type} (R : σ → τ → Prop) : List σ → List τ → Prop
  | nil : All2 R [] []
  | cons {x : σ} {y : τ} {l : List σ} {m : List τ} (h : R x y) (hr : All2 R l m) : All2 R (x :: l) (y :: m)
section
variable {σ τ : Type} {R : σ → τ → Prop}
theorem All2.len : ∀ {l : List σ} {m : List τ}, All2 R l m → l.length = m.length
  | [], [], .nil => rfl
  | _ :: _, _ :: _, .cons _ hr => by rw [List.length_cons, List.length_cons, hr.len]
theorem All2.snoc : ∀ {l : List σ} {m : List τ} {x : σ} {y : τ}, All2 R l m → R x y → All2 R (l ++ [x]) (m ++ [y])
  | [], [], _, _, .nil, h => .cons h .nil
  | _ :: _, _ :: _, _, _, .cons h hr, h' => .cons h (hr.snoc h')
theorem All2.get : ∀ {l : List σ} {m : List τ} (_ : All2 R l m) (i : Nat), match l[i]?, m[i]? with
    | some x, some y => R x y
    | none, none => True
    | _, _ => False
  | [], [], .nil, i => by simp
  | x :: r, y :: t, .cons h hr, i => by
    cases i with
    | zero => simpa using h
    | succ i => simpa using hr.get i
end
theorem findI_pair {σ τ : Type} {R : σ → τ → Prop} {p : σ → Bool} {q : τ → Bool} (hpq : ∀ x y, R x y → p x = q y) : ∀ {l : List σ} {m : List τ}, All2 R l m → findI p l = findI q m
  | [], [], .nil => rfl
  | x :: r, y :: t, .cons h hr => by
    rw [findI, findI, hpq x y h, findI_pair hpq hr]
/-- A walk that numbers what it meets: where bytes lead, what counts as the same, which one stands for all. -/
structure Bfs (σ : Type) where
  step : σ → Nat → Option σ
  eqv : σ → σ → Bool
  rep : σ → σ
/-- The states met by the bytes below c of one state. -/
def Bfs.row {σ : Type} (W : Bfs σ) (x : σ) (met : List σ) : Nat → List σ
  | 0 => met
  | c + 1 => match W.step x c with
    | none => W.row x met c
    | some y => match findI (fun z => W.eqv z y) (W.row x met c) with
      | some _ => W.row x met c
      | none => W.row x met c ++ [W.rep y]
def Bfs.num {σ : Type} (W : Bfs σ) (met : List σ) (x : σ) (c : Nat) : Option Nat := (W.step x c).bind fun y => findI (fun z => W.eqv z y) met
/-- All of them: so many rounds. -/
def Bfs.run {σ : Type} (W : Bfs σ) : Nat → Nat → List σ → List σ
  | 0, _, met => met
  | f + 1, i, met => match met[i]? with
    | some x => W.run f (i + 1) (W.row x met 256)
    | none => met
theorem Bfs.row_pre {σ : Type} (W : Bfs σ) (x : σ) (met : List σ) : ∀ c, ∃ more, W.row x met c = met ++ more
  | 0 => ⟨[], by simp [Bfs.row]⟩
  | c + 1 => by
    obtain ⟨more, h⟩ := W.row_pre x met c
    rw [Bfs.row]
    split
    · exact ⟨more, h⟩
    · split
      · exact ⟨more, h⟩
      · exact ⟨more ++ [W.rep _], by rw [h, List.append_assoc]⟩
/-- Two walks in step. -/
structure Alike {σ τ : Type} (R : σ → τ → Prop) (V : Bfs σ) (W : Bfs τ) : Prop where
  step : ∀ x y, R x y → ∀ c, c < 256 → match V.step x c, W.step y c with
    | some u, some v => R u v
    | none, none => True
    | _, _ => False
  eqv : ∀ x y, R x y → ∀ u v, R u v → V.eqv x u = W.eqv y v
  rep : ∀ x y, R x y → R (V.rep x) (W.rep y)
theorem Alike.row {σ τ : Type} {R : σ → τ → Prop} {V : Bfs σ} {W : Bfs τ} (h : Alike R V W) {x : σ} {y : τ} (hxy : R x y) {l : List σ} {m : List τ} (hl : All2 R l m) : ∀ c, c ≤ 256 → All2 R (V.row x l c) (W.row y m c)
  | 0, _ => hl
  | c + 1, hc => by
    have ih := h.row hxy hl c (by omega)
    have hs := h.step x y hxy c (by omega)
    rw [Bfs.row, Bfs.row]
    cases hx : V.step x c with
    | none =>
      cases hy : W.step y c with
      | none => exact ih
      | some v => rw [hx, hy] at hs; exact hs.elim
    | some u =>
      cases hy : W.step y c with
      | none => rw [hx, hy] at hs; exact hs.elim
      | some v =>
        rw [hx, hy] at hs
        have hs : R u v := hs
        have hf := findI_pair (p := fun z => V.eqv z u) (q := fun z => W.eqv z v) (fun a b hab => h.eqv a b hab u v hs) ih
        simp only [hf]
        split
        · exact ih
        · exact ih.snoc (h.rep u v hs)
theorem Alike.run {σ τ : Type} {R : σ → τ → Prop} {V : Bfs σ} {W : Bfs τ} (h : Alike R V W) : ∀ (f i : Nat) {l : List σ} {m : List τ}, All2 R l m → All2 R (V.run f i l) (W.run f i m)
  | 0, _, _, _, hl => hl
  | f + 1, i, l, m, hl => by
    have hg := hl.get i
    rw [Bfs.run, Bfs.run]
    cases hx : l[i]? with
    | none =>
      cases hy : m[i]? with
      | none => exact hl
      | some v => rw [hx, hy] at hg; exact hg.elim
    | some u =>
      cases hy : m[i]? with
      | none => rw [hx, hy] at hg; exact hg.elim
      | some v =>
        rw [hx, hy] at hg
        exact h.run f (i + 1) (h.row hg hl 256 (Nat.le_refl _))
theorem Alike.num {σ τ : Type} {R : σ → τ → Prop} {V : Bfs σ} {W : Bfs τ} (h : Alike R V W) {x : σ} {y : τ} (hxy : R x y) {l : List σ} {m : List τ} (hl : All2 R l m) {c : Nat} (hc : c < 256) : V.num l x c = W.num m y c := by
  have hs := h.step x y hxy c hc
  unfold Bfs.num
  cases hx : V.step x c with
  | none =>
    cases hy : W.step y c with
    | none => rfl
    | some v => rw [hx, hy] at hs; exact hs.elim
  | some u =>
    cases hy : W.step y c with
    | none => rw [hx, hy] at hs; exact hs.elim
    | some v =>
      rw [hx, hy] at hs
      exact findI_pair (p := fun z => V.eqv z u) (q := fun z => W.eqv z v) (fun a b hab => h.eqv a b hab u v hs) hl
/-- A state of an automaton in memory: final or not, its arcs. -/
abbrev St := Bool × List Arc3
/-- The automaton that a walk makes. -/
def Bfs.out {σ : Type} (W : Bfs σ) (fin : σ → Bool) (met : List σ) : List St := met.map fun x => (fin x, runs (W.num met x) 256)
theorem Alike.out {σ τ : Type} {R : σ → τ → Prop} {V : Bfs σ} {W : Bfs τ} (h : Alike R V W) {f : σ → Bool} {g : τ → Bool} (hfg : ∀ x y, R x y → f x = g y) {l : List σ} {m : List τ} (hl : All2 R l m) : V.out f l = W.out g m := by
  have key : ∀ {a : List σ} {b : List τ}, All2 R a b → a.map (fun x => ((f x, runs (V.num l x) 256) : St)) = b.map fun x => (g x, runs (W.num m x) 256) := by
    intro a b hab
    induction hab with
    | nil => rfl
    | cons hxy _ ih =>
      rw [List.map_cons, List.map_cons, ih, hfg _ _ hxy, runs_congr 256 fun c hc => h.num hxy hl hc]
  exact key hl
open Classical in
/-- The walk that numbers states by what they take. -/
noncomputable def leastW {σ : Type} (M : Au σ) (rep : σ → σ) : Bfs σ := ⟨M.stepL, fun x y => decide (Leq M x M y), rep⟩
open Classical in
theorem least_alike {σ τ : Type} (M : Au σ) (N : Au τ) {r : σ → σ} {q : τ → τ} (hr : ∀ x, Leq M (r x) M x) (hq : ∀ y, Leq N (q y) N y) : Alike (fun x y => Leq M x N y) (leastW M r) (leastW N q) where
  step := fun x y h c hc => h.step hc
  eqv := fun x y h u v h' => by
    show decide _ = decide _
    apply decide_eq_decide.2
    exact ⟨fun k => h.symm.trans (k.trans h'), fun k => h.trans (k.trans h'.symm)⟩
  rep := fun x y h => (hr x).trans (h.trans (hq y).symm)
/-- The least automaton: as it is numbered from a state on, in so many rounds; none of a state that takes nothing. -/
noncomputable def leastOf {σ : Type} (M : Au σ) (r : σ → σ) (f : Nat) (x : σ) : List St := (leastW M r).out M.fin ((leastW M r).run f 0 [x])
theorem leastOf_eq {σ τ : Type} {M : Au σ} {N : Au τ} {r : σ → σ} {q : τ → τ} (hr : ∀ x, Leq M (r x) M x) (hq : ∀ y, Leq N (q y) N y) (f : Nat) {x : σ} {y : τ} (h : Leq M x N y) : leastOf M r f x = leastOf N q f y := by
  have ha := least_alike M N hr hq
  exact ha.out (fun _ _ h => h.fin) (ha.run f 0 (.cons h .nil))
/-! ### The end of a walk -/
theorem Bfs.run_succ {σ : Type} (W : Bfs σ) : ∀ (f i : Nat) (met : List σ), W.run (f + 1) i met = match (W.run f i met)[i + f]? with
    | some x => W.row x (W.run f i met) 256
    | none => W.run f i met
  | 0, i, met => by
    rw [Bfs.run, Nat.add_zero, Bfs.run]
    cases met[i]? with
    | none => rfl
    | some x => rfl
  | f + 1, i, met => by
    rw [Bfs.run]
    cases hx : met[i]? with
    | none =>
      have h1 : W.run (f + 1) i met = met := by rw [Bfs.run, hx]
      rw [h1]
      have h2 : met[i + (f + 1)]? = none := by
        rw [List.getElem?_eq_none_iff] at hx ⊢
        omega
      rw [h2]
    | some x =>
      have h1 : W.run (f + 1) i met = W.run f (i + 1) (W.row x met 256) := by rw [Bfs.run, hx]
      rw [h1]
      have := W.run_succ f (i + 1) (W.row x met 256)
      rw [show i + 1 + f = i + (f + 1) by omega] at this
      exact this
theorem Bfs.run_end {σ : Type} (W : Bfs σ) {f i : Nat} {met : List σ} (h : (W.run f i met)[i + f]? = none) : ∀ k, W.run (f + k) i met = W.run f i met
  | 0 => rfl
  | k + 1 => by
    rw [← Nat.add_assoc, W.run_succ, W.run_end h k]
    have h2 : (W.run f i met)[i + (f + k)]? = none := by
      rw [List.getElem?_eq_none_iff] at h ⊢
      omega
    rw [h2]
/-- What a state leads to is met. -/
def Bfs.Met {σ : Type} (W : Bfs σ) (met : List σ) (x : σ) : Prop := ∀ c, c < 256 → ∀ y, W.step x c = some y → ∃ z ∈ met, W.eqv z y = true
theorem Bfs.row_met {σ : Type} (W : Bfs σ) (he : ∀ x, W.eqv (W.rep x) x = true) (x : σ) (met : List σ) : ∀ n, ∀ c, c < n → ∀ y, W.step x c = some y → ∃ z ∈ W.row x met n, W.eqv z y = true
  | 0, c, hc, _, _ => absurd hc (by omega)
  | n + 1, c, hc, y, hy => by
    rw [Bfs.row]
    by_cases hcn : c < n
    · obtain ⟨z, hz, h⟩ := W.row_met he x met n c hcn y hy
      split
      · exact ⟨z, hz, h⟩
      · split
        · exact ⟨z, hz, h⟩
        · exact ⟨z, List.mem_append_left _ hz, h⟩
    · obtain rfl : c = n := by omega
      rw [hy]
      simp only
      split
      · rename_i i hi
        obtain ⟨z, h1, h2⟩ := findI_some hi
        exact ⟨z, List.mem_of_getElem? h1, h2⟩
      · exact ⟨W.rep y, List.mem_append_right _ (List.mem_singleton.2 rfl), he y⟩
theorem Bfs.Met.more {σ : Type} {W : Bfs σ} {met more : List σ} {x : σ} (h : W.Met met x) : W.Met (met ++ more) x := fun c hc y hy => by
  obtain ⟨z, hz, h1⟩ := h c hc y hy
  exact ⟨z, List.mem_append_left _ hz, h1⟩
/-- Behind so many rounds what the first states lead to is met. -/
theorem Bfs.run_met {σ : Type} (W : Bfs σ) (he : ∀ x, W.eqv (W.rep x) x = true) (x0 : σ) : ∀ (f j : Nat) (x : σ), j < f → (W.run f 0 [x0])[j]? = some x → W.Met (W.run f 0 [x0]) x
  | 0, _, _, h, _ => absurd h (by omega)
  | f + 1, j, x, hj, hx => by
    rw [W.run_succ, Nat.zero_add] at hx ⊢
    cases hf : (W.run f 0 [x0])[f]? with
    | none =>
      rw [hf] at hx
      simp only at hx ⊢
      by_cases hjf : j < f
      · exact W.run_met he x0 f j x hjf hx
      · obtain rfl : j = f := by omega
        rw [hf] at hx
        cases hx
    | some y =>
      rw [hf] at hx
      simp only at hx ⊢
      obtain ⟨more, hm⟩ := W.row_pre y (W.run f 0 [x0]) 256
      have hlen := (List.getElem?_eq_some_iff.1 hf).1
      have hx2 : (W.run f 0 [x0])[j]? = some x := by
        rw [hm, List.getElem?_append_left (by omega)] at hx
        exact hx
      by_cases hjf : j < f
      · rw [hm]
        exact (W.run_met he x0 f j x hjf hx2).more
      · obtain rfl : j = f := by omega
        rw [hf] at hx2
        injection hx2 with hx2
        subst hx2
        exact fun c hc z hz => W.row_met he y _ 256 c hc z hz
/-! ### Arcs in their order -/
/-- Where a byte leads by arcs. -/
def lookA (l : List Arc3) (c : Int) : Option Int := (l.find? fun a => decide (a.1 ≤ c ∧ c ≤ a.2.1)).map (·.2.2)
/-- Arcs that rise, each within the bytes ahead of c. -/
structure Asc (l : List Arc3) (c : Int) : Prop where
  lt : l.Pairwise fun a b => a.2.1 < b.1
  ok : ∀ a ∈ l, 0 ≤ a.1 ∧ a.1 ≤ a.2.1 ∧ a.2.1 < c
theorem Asc.snoc {l : List Arc3} {c : Int} (h : Asc l c) {a : Arc3} (h0 : 0 ≤ a.1) (h1 : ∀ b ∈ l, b.2.1 < a.1) (h2 : a.1 ≤ a.2.1) {c' : Int} (hc : c ≤ c') (h3 : a.2.1 < c') : Asc (l ++ [a]) c' := by
  refine ⟨List.pairwise_append.2 ⟨h.lt, List.pairwise_singleton _ _, fun x hx y hy => ?_⟩, fun x hx => ?_⟩
  · rw [List.mem_singleton.1 hy]
    exact h1 x hx
  · rcases List.mem_append.1 hx with hx | hx
    · have := h.ok x hx
      omega
    · rw [List.mem_singleton.1 hx]
      exact ⟨h0, h2, h3⟩
theorem Asc.pre {l m : List Arc3} {c : Int} (h : Asc (l ++ m) c) : Asc l c := ⟨(List.pairwise_append.1 h.lt).1, fun a ha => h.ok a (List.mem_append_left _ ha)⟩
theorem lookA_none {l : List Arc3} {c : Int} (h : ∀ a ∈ l, a.2.1 < c) : lookA l c = none := by
  unfold lookA
  rw [Option.map_eq_none_iff, List.find?_eq_none]
  intro a ha
  have := h a ha
  simp
  omega
theorem lookA_append (l m : List Arc3) (c : Int) : lookA (l ++ m) c = match lookA l c with
    | some k => some k
    | none => lookA m c := by
  unfold lookA
  rw [List.find?_append]
  cases List.find? (fun a : Arc3 => decide (a.1 ≤ c ∧ c ≤ a.2.1)) l <;> rfl
theorem lookA_one (a : Arc3) (c : Int) : lookA [a] c = if a.1 ≤ c ∧ c ≤ a.2.1 then some a.2.2 else none := by
  unfold lookA
  by_cases h : a.1 ≤ c ∧ c ≤ a.2.1
  · rw [if_pos h, List.find?_cons_of_pos (by simpa using h)]
    rfl
  · rw [if_neg h, List.find?_cons_of_neg (by simpa using h)]
    rfl
theorem growA_asc {l : List Arc3} {c k : Int} (h : Asc l c) (hc : 0 ≤ c) : Asc (growA l c k) (c + 1) ∧ ∀ d : Int, lookA (growA l c k) d = if d = c then some k else lookA l d := by
  have hnew : Asc (l ++ [(c, c, k)]) (c + 1) ∧ ∀ d : Int, lookA (l ++ [(c, c, k)]) d = if d = c then some k else lookA l d := by
    refine ⟨h.snoc hc (fun b hb => (h.ok b hb).2.2) (Int.le_refl _) (by omega) (by show c < c + 1; omega), fun d => ?_⟩
    rw [lookA_append, lookA_one]
    by_cases hd : d = c
    · rw [if_pos hd, hd, lookA_none fun a ha => (h.ok a ha).2.2]
      simp
    · rw [if_neg hd]
      simp only
      rw [if_neg (by omega)]
      cases lookA l d <;> rfl
  unfold growA
  split
  · rename_i a ha
    by_cases hj : a.2.1 + 1 = c ∧ a.2.2 = k
    · rw [if_pos hj]
      obtain ⟨m, rfl⟩ := List.getLast?_eq_some_iff.1 ha
      have hm := h.pre
      have hao := h.ok a (by simp)
      have hlt : ∀ b ∈ m, b.2.1 < a.1 := fun b hb => (List.pairwise_append.1 h.lt).2.2 b hb a (by simp)
      rw [List.dropLast_concat]
      refine ⟨hm.snoc (a := (a.1, c, k)) hao.1 hlt (by show a.1 ≤ c; omega) (Int.le_add_one (Int.le_refl c)) (by show c < c + 1; omega), fun d => ?_⟩
      rw [lookA_append, lookA_append, lookA_one, lookA_one]
      by_cases hd : d = c
      · rw [if_pos hd, hd, lookA_none fun b hb => by have := hm.ok b hb; omega]
        simp only
        rw [if_pos (by omega)]
      · rw [if_neg hd]
        cases lookA m d with
        | some x => rfl
        | none =>
          simp only
          by_cases hin : a.1 ≤ d ∧ d ≤ a.2.1
          · rw [if_pos hin, if_pos (by omega), hj.2]
          · rw [if_neg hin, if_neg (by omega)]
    · rw [if_neg hj]
      exact hnew
  · rename_i hn
    rw [List.getLast?_eq_none_iff.1 hn] at hnew ⊢
    exact hnew
theorem runs_asc (g : Nat → Option Nat) : ∀ n : Nat, Asc (runs g n) n ∧ ∀ d : Nat, lookA (runs g n) d = if d < n then (g d).map (fun k : Nat => (k : Int)) else none
  | 0 => ⟨⟨List.Pairwise.nil, fun a ha => by cases ha⟩, fun d => by simp [runs, lookA]⟩
  | n + 1 => by
    obtain ⟨h1, h2⟩ := runs_asc g n
    rw [runs]
    cases hg : g n with
    | none =>
      refine ⟨⟨h1.lt, fun a ha => by have := h1.ok a ha; omega⟩, fun d => ?_⟩
      rw [h2 d]
      by_cases hd : d < n
      · rw [if_pos hd, if_pos (by omega)]
      · rw [if_neg hd]
        by_cases hdn : d = n
        · rw [if_pos (by omega), hdn, hg]; rfl
        · rw [if_neg (by omega)]
    | some k =>
      obtain ⟨h3, h4⟩ := growA_asc (k := (k : Int)) h1 (by omega)
      refine ⟨by have e : ((n + 1 : Nat) : Int) = (n : Int) + 1 := by omega
                 rw [e]; exact h3, fun d => ?_⟩
      simp only
      rw [h4 d, h2 d]
      by_cases hd : d = n
      · subst hd
        rw [if_pos rfl, if_pos (by omega), hg]
        rfl
      · rw [if_neg (by omega)]
        by_cases hdn : d < n
        · rw [if_pos hdn, if_pos (by omega)]
        · rw [if_neg hdn, if_neg (by omega)]
/-- The automaton of a list of states. -/
def auOf (d : List St) : Au Nat := ⟨fun x => (d[x]?.map (·.1)).getD false, fun x c => (d[x]?).bind fun s => (lookA s.2 c).map Int.toNat⟩
/-- What is made takes what the walk takes. -/
theorem out_leq {σ : Type} (W : Bfs σ) (fin : σ → Bool) {met : List σ} (heq : ∀ z y, W.eqv z y = true → Leq ⟨fin, W.step⟩ z ⟨fin, W.step⟩ y) (hm : ∀ x ∈ met, W.Met met x) : ∀ (s : List Nat) (i : Nat) (x : σ), met[i]? = some x → (auOf (W.out fin met)).acc i s = (⟨fin, W.step⟩ : Au σ).acc x s
  | [], i, x, hx => by
    show ((W.out fin met)[i]?.map (·.1)).getD false = fin x
    unfold Bfs.out
    rw [List.getElem?_map, hx]
    rfl
  | c :: r, i, x, hx => by
    rw [Au.acc, Au.acc]
    by_cases hc : c < 256
    · rw [if_pos hc, if_pos hc]
      have hst : (auOf (W.out fin met)).step i c = W.num met x c := by
        show ((W.out fin met)[i]?).bind (fun s => (lookA s.2 c).map Int.toNat) = _
        unfold Bfs.out
        rw [List.getElem?_map, hx]
        show (lookA (runs (W.num met x) 256) c).map Int.toNat = _
        rw [(runs_asc (W.num met x) 256).2 c, if_pos hc]
        cases W.num met x c <;> simp
      have hnum : W.num met x c = (W.step x c).bind fun y => findI (fun z => W.eqv z y) met := rfl
      have hst2 : (⟨fin, W.step⟩ : Au σ).step x c = W.step x c := rfl
      rw [hst, hst2, hnum]
      cases hy : W.step x c with
      | none => rfl
      | some y =>
        obtain ⟨z, hz, hzy⟩ := hm x (List.mem_of_getElem? hx) c hc y hy
        simp only [Option.bind_some]
        cases hf : findI (fun z => W.eqv z y) met with
        | none =>
          have := findI_none.1 hf z hz
          rw [hzy] at this
          cases this
        | some k =>
          obtain ⟨u, h1, h2⟩ := findI_some hf
          exact (out_leq W fin heq hm r k u h1).trans (heq u y h2 r)
    · rw [if_neg hc, if_neg hc]
end Go.Proofs.YtebdffabfimmkaaDoor
