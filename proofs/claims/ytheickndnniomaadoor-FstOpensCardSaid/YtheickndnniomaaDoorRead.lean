/- fst's read: a node out of bytes, in plain Lean and in memory. -/
import Derived.Test.YtheickndnniomaaDoorDict
import Derived.Test.YtheickndnniomaaDoorCur
import Derived.Test.YtheickndnniomaaDoorNodeR
namespace Go.Proofs.YtheickndnniomaaDoor
open Go.RowKit Go.Maps

theorem readNum_in (t : List UInt8) (h : (readNum t).2.1 = 0) : (readNum t).1 ≤ 9223372036854775807 := by
  unfold readNum at h ⊢
  by_cases he : (numR t).2.2 = 0
  · rw [if_pos he] at h ⊢
    show (numR t).1 ≤ _
    unfold numR at he ⊢
    by_cases hne : t = []
    · rw [if_pos hne]; omega
    rw [if_neg hne] at he ⊢
    simp only at he ⊢
    have hb := byteN_in t 0
    by_cases h1 : 16 ≤ byteN t 0 ∧ byteN t 0 < 240
    · rw [if_pos h1]; show (byteN t 0 : Int) - 128 ≤ _; omega
    rw [if_neg h1] at he ⊢
    by_cases h2 : byteN t 0 < 8 ∨ 247 < byteN t 0
    · rw [if_pos h2] at he; cases he
    rw [if_neg h2] at he ⊢
    generalize (if byteN t 0 < 16 then 16 - byteN t 0 else byteN t 0 - 239) = K at *
    by_cases h3 : t.length ≤ K
    · rw [if_pos h3] at he; cases he
    rw [if_neg h3] at he ⊢
    generalize decide (byteN t 0 < 16) = fl at *
    by_cases h4 : 1 < K ∧ flipN fl (byteN t 1) = 0
    · rw [if_pos h4] at he; cases he
    rw [if_neg h4] at he ⊢
    by_cases h5 : accN fl t K ≤ 9223372036854775695
    · rw [if_pos h5]
      by_cases h6 : byteN t 0 < 16
      · rw [if_pos h6]; show -113 - (accN fl t K : Int) ≤ _; omega
      · rw [if_neg h6]; show (accN fl t K : Int) + 112 ≤ _; omega
    · rw [if_neg h5] at he; cases he
  · rw [if_neg he] at h
    exact absurd h he
theorem readNum_len (t : List UInt8) : (readNum t).2.2.length ≤ t.length := by
  unfold readNum
  split
  · rw [List.length_drop]; omega
  · exact Nat.le_refl _
theorem readCnt_in (t : List UInt8) (h : (readCnt t).2.1 = 0) : pos63 (readCnt t).1 := by
  unfold readCnt at h ⊢
  split
  · rename_i hc; rw [if_pos hc] at h; cases h
  · rename_i hc
    rw [if_neg hc] at h
    have h1 := readNum_in t h
    have : ¬ (readNum t).1 < 0 := fun e => hc ⟨h, e⟩
    exact ⟨by omega, h1⟩
theorem readCnt_len (t : List UInt8) : (readCnt t).2.2.length ≤ t.length := by
  unfold readCnt
  split
  · exact Nat.le_refl _
  · exact readNum_len t
/-- So many counts. -/
def rdN : Nat → List Int → List UInt8 → Int × List Int × List UInt8
  | 0, acc, t => (0, acc, t)
  | k + 1, acc, t => if (readCnt t).2.1 = 0 then rdN k (acc ++ [(readCnt t).1]) (readCnt t).2.2 else ((readCnt t).2.1, acc, t)
theorem rdN_ok (acc : List Int) (k : Nat) {t : List UInt8} (h : (readCnt t).2.1 = 0) : rdN (k + 1) acc t = rdN k (acc ++ [(readCnt t).1]) (readCnt t).2.2 := if_pos h
theorem rdN_err (acc : List Int) (k : Nat) {t : List UInt8} (h : (readCnt t).2.1 ≠ 0) : rdN (k + 1) acc t = ((readCnt t).2.1, acc, t) := if_neg h
abbrev Ways := List (Int × Int × Int)
/-- The ways of a node. -/
def rdW (n : Nat) (sizes deep : List Int) : Nat → Ways → Int → Int → List UInt8 → Int × Ways × Int × Int × List UInt8
  | 0, ws, s, dp, t => (0, ws, s, dp, t)
  | k + 1, ws, s, dp, t =>
    if (rdN 3 [] t).1 ≠ 0 then ((rdN 3 [] t).1, ws, s, dp, t) else
    if 255 < (rdN 3 [] t).2.1.getD 0 0 ∨ (n : Int) ≤ (rdN 3 [] t).2.1.getD 2 0 then (3, ws, s, dp, t) else
    rdW n sizes deep k (ws ++ [((rdN 3 [] t).2.1.getD 0 0, (rdN 3 [] t).2.1.getD 1 0, (rdN 3 [] t).2.1.getD 2 0)]) (s + sizes.getD ((rdN 3 [] t).2.1.getD 2 0).toNat 0)
      (if 0 < sizes.getD ((rdN 3 [] t).2.1.getD 2 0).toNat 0 then max dp (deep.getD ((rdN 3 [] t).2.1.getD 2 0).toNat 0 + 1) else dp) (rdN 3 [] t).2.2
theorem rdW_err {n : Nat} {sizes deep : List Int} {k : Nat} {ws : Ways} {s dp : Int} {t : List UInt8} {e : Int} {acc : List Int} {u : List UInt8} (h : rdN 3 [] t = (e, acc, u)) (he : e ≠ 0) : rdW n sizes deep (k + 1) ws s dp t = (e, ws, s, dp, t) := by
  rw [rdW, h]
  exact if_pos he
theorem rdW_bad {n : Nat} {sizes deep : List Int} {k : Nat} {ws : Ways} {s dp : Int} {t : List UInt8} {a b c : Int} {u : List UInt8} (h : rdN 3 [] t = (0, [a, b, c], u)) (hb : 255 < a ∨ (n : Int) ≤ c) : rdW n sizes deep (k + 1) ws s dp t = (3, ws, s, dp, t) := by
  rw [rdW, h]
  exact if_pos hb
theorem rdW_go {n : Nat} {sizes deep : List Int} {k : Nat} {ws : Ways} {s dp : Int} {t : List UInt8} {a b : Int} {c : Nat} {u : List UInt8} (h : rdN 3 [] t = (0, [a, b, (c : Int)], u)) (h1 : a ≤ 255) (h2 : c < n) :
    rdW n sizes deep (k + 1) ws s dp t = rdW n sizes deep k (ws ++ [(a, b, (c : Int))]) (s + sizes.getD c 0) (if 0 < sizes.getD c 0 then max dp (deep.getD c 0 + 1) else dp) u := by
  have hn : ¬ (255 < a ∨ (n : Int) ≤ (c : Int)) := by omega
  rw [rdW, h]
  exact if_neg hn
/-- What is made of the ways. -/
def rdFin (fin : Bool) (out : Int) (w : Int × Ways × Int × Int × List UInt8) : Int × Nd × Int × Int × List UInt8 :=
  if w.1 ≠ 0 then (w.1, ⟨false, 0, []⟩, 0, 0, []) else
  if 65536 < w.2.2.1 ∨ 64 < w.2.2.2.1 then (3, ⟨false, 0, []⟩, 0, 0, []) else
  (0, ⟨fin, out, w.2.1⟩, w.2.2.1, w.2.2.2.1, w.2.2.2.2)
theorem rdFin_err {fin : Bool} {out e : Int} {r : Ways × Int × Int × List UInt8} (h : e ≠ 0) : rdFin fin out (e, r) = (e, ⟨false, 0, []⟩, 0, 0, []) := if_pos h
theorem rdFin_bad {fin : Bool} {out s d : Int} {ws : Ways} {t : List UInt8} (h : 65536 < s ∨ 64 < d) : rdFin fin out (0, ws, s, d, t) = (3, ⟨false, 0, []⟩, 0, 0, []) := if_pos h
theorem rdFin_ok {fin : Bool} {out s d : Int} {ws : Ways} {t : List UInt8} (h : ¬ (65536 < s ∨ 64 < d)) : rdFin fin out (0, ws, s, d, t) = (0, ⟨fin, out, ws⟩, s, d, t) := if_neg h
/-- A node: the error; the node, how many terms, how long the longest is, what is left. -/
def rdNode (n : Nat) (sizes deep : List Int) (t : List UInt8) : Int × Nd × Int × Int × List UInt8 :=
  if (readCnt t).2.1 ≠ 0 then ((readCnt t).2.1, ⟨false, 0, []⟩, 0, 0, []) else
  if 513 < (readCnt t).1 then (3, ⟨false, 0, []⟩, 0, 0, []) else
  if (readCnt t).1 % 2 = 1 then
    if (readCnt (readCnt t).2.2).2.1 ≠ 0 then ((readCnt (readCnt t).2.2).2.1, ⟨false, 0, []⟩, 0, 0, []) else
    rdFin true (readCnt (readCnt t).2.2).1 (rdW n sizes deep ((readCnt t).1 / 2).toNat [] 1 0 (readCnt (readCnt t).2.2).2.2)
  else rdFin false 0 (rdW n sizes deep ((readCnt t).1 / 2).toNat [] 0 0 (readCnt t).2.2)
theorem rdNode_1 {n : Nat} {sizes deep : List Int} {t : List UInt8} (h : (readCnt t).2.1 ≠ 0) : rdNode n sizes deep t = ((readCnt t).2.1, ⟨false, 0, []⟩, 0, 0, []) := if_pos h
theorem rdNode_2 {n : Nat} {sizes deep : List Int} {t : List UInt8} (h : (readCnt t).2.1 = 0) (h2 : 513 < (readCnt t).1) : rdNode n sizes deep t = (3, ⟨false, 0, []⟩, 0, 0, []) := by
  unfold rdNode
  rw [if_neg (by simpa using h), if_pos h2]
theorem rdNode_3 {n : Nat} {sizes deep : List Int} {t : List UInt8} (h : (readCnt t).2.1 = 0) (h2 : (readCnt t).1 ≤ 513) (h3 : (readCnt t).1 % 2 = 1) (h4 : (readCnt (readCnt t).2.2).2.1 ≠ 0) : rdNode n sizes deep t = ((readCnt (readCnt t).2.2).2.1, ⟨false, 0, []⟩, 0, 0, []) := by
  unfold rdNode
  rw [if_neg (by simpa using h), if_neg (by omega), if_pos h3, if_pos h4]
theorem rdNode_4 {n : Nat} {sizes deep : List Int} {t : List UInt8} (h : (readCnt t).2.1 = 0) (h2 : (readCnt t).1 ≤ 513) (h3 : (readCnt t).1 % 2 = 1) (h4 : (readCnt (readCnt t).2.2).2.1 = 0) : rdNode n sizes deep t = rdFin true (readCnt (readCnt t).2.2).1 (rdW n sizes deep ((readCnt t).1 / 2).toNat [] 1 0 (readCnt (readCnt t).2.2).2.2) := by
  unfold rdNode
  rw [if_neg (by simpa using h), if_neg (by omega), if_pos h3, if_neg (by simpa using h4)]
theorem rdNode_5 {n : Nat} {sizes deep : List Int} {t : List UInt8} (h : (readCnt t).2.1 = 0) (h2 : (readCnt t).1 ≤ 513) (h3 : ¬ (readCnt t).1 % 2 = 1) : rdNode n sizes deep t = rdFin false 0 (rdW n sizes deep ((readCnt t).1 / 2).toNat [] 0 0 (readCnt t).2.2) := by
  unfold rdNode
  rw [if_neg (by simpa using h), if_neg (by omega), if_neg h3]
/-- What read stands on: the cursor, how many nodes there are, the sizes and depths so far. -/
structure RdAt (W : World) (p b base : Nat) (A : Option Addr) (n c : Nat) (vs vd : Value) (sizes deep : List Int) (t : List UInt8) : Prop where
  cur : CurAt W b t
  nod : ∃ x y, W.heap[p]? = some (.cells #[.slice A n c, x, y] 78 (0, 0))
  sz : W.ownsRow base 3 1 vs n (sizes.map (.int .i64))
  dp : W.ownsRow base 3 1 vd n (deep.map (.int .i64))
  lt : b < base
theorem RdAt.ne {W : World} {p b base n c : Nat} {A : Option Addr} {vs vd : Value} {sizes deep : List Int} {t : List UInt8} (h : RdAt W p b base A n c vs vd sizes deep t) : p ≠ b := by
  intro e
  subst e
  obtain ⟨x, y, hn⟩ := h.nod
  have := h.cur
  unfold CurAt at this
  rw [hn] at this
  injection this with this
  injection this with h1 _ _
  have := congrArg Array.size h1
  simp at this
theorem RdAt.grown {W W' : World} {p b base n c : Nat} {A : Option Addr} {vs vd : Value} {sizes deep : List Int} {t t' : List UInt8} (h : RdAt W p b base A n c vs vd sizes deep t) (hg : W.grownBy W' (some b)) (hc : CurAt W' b t') : RdAt W' p b base A n c vs vd sizes deep t' := by
  obtain ⟨x, y, hn⟩ := h.nod
  have hne := h.ne
  refine ⟨hc, ⟨x, y, (hg.block p (Array.getElem?_eq_some_iff.1 hn).1 (by simpa using hne)).trans hn⟩, h.sz.kept hg (.inr fun e => ?_), h.dp.kept hg (.inr fun e => ?_), h.lt⟩
  · have := (h.sz.lt b e).1
    have := h.lt
    omega
  · have := (h.dp.lt b e).1
    have := h.lt
    omega
theorem RdAt.below {W W' : World} {p b base n c : Nat} {A : Option Addr} {vs vd : Value} {sizes deep : List Int} {t : List UInt8} (h : RdAt W p b base A n c vs vd sizes deep t) (hb : Below W.heap.size W W') : RdAt W' p b base A n c vs vd sizes deep t :=
  h.grown (below_grown hb _) (cur_below h.cur hb)
theorem RdAt.cell {W : World} {p b base n c : Nat} {A : Option Addr} {vs vd : Value} {sizes deep : List Int} {t : List UInt8} (h : RdAt W p b base A n c vs vd sizes deep t) : W.cell? ⟨p, 0, none⟩ = some (.slice A n c) := by
  obtain ⟨x, y, hn⟩ := h.nod
  exact cell_of_row _ p 0 _ _ (0, 0) hn
/-- Behind a start w: the cursor, and nothing else of what was. -/
structure CG (w W : World) (b : Nat) (t : List UInt8) : Prop where
  cur : CurAt W b t
  gr : w.grownBy W (some b)
  lt : b < w.heap.size
theorem CG.below {w W W' : World} {b : Nat} {t : List UInt8} (h : CG w W b t) (hb : Below w.heap.size W W') : CG w W' b t :=
  ⟨(hb.block b h.lt).trans h.cur, ⟨hb.os.trans h.gr.os, hb.tape.trans h.gr.tape, hb.output.trans h.gr.output, Nat.le_trans h.gr.size hb.size, fun k hk hr => (hb.block k hk).trans (h.gr.block k hk hr)⟩, h.lt⟩
theorem CG.call {w W W' : World} {b : Nat} {t t' : List UInt8} (h : CG w W b t) (hc : CurAt W' b t') (hg : W.grownBy W' (some b)) : CG w W' b t' := ⟨hc, h.gr.trans hg, h.lt⟩
theorem CG.rd {w W : World} {p b base n c : Nat} {A : Option Addr} {vs vd : Value} {sizes deep : List Int} {t t0 : List UInt8} (h : CG w W b t) (hr : RdAt w p b base A n c vs vd sizes deep t0) : RdAt W p b base A n c vs vd sizes deep t := hr.grown h.gr h.cur
theorem CG.set {w W : World} {b N : Nat} {t : List UInt8} (h : CG w W b t) (hN : w.heap.size ≤ N) (i : Nat) (v : Value) : CG w (W.setCell ⟨N, i, none⟩ v) b t := h.below ((Below.refl _ _).setCell hN _)
/-- The node under way: its block N, its ways. -/
structure NwAt (W : World) (N : Nat) (fin : Bool) (out : Int) (A : Option Addr) (m c : Nat) (ws : Ways) : Prop where
  blk : W.heap[N]? = some (.cells #[.bool fin, .int .i64 out, .slice A m c] 51 (0, 0))
  own : W.ownsRow (N + 1) 55 3 (.slice A m c) m (waysC ws)
  len : ws.length = m
section
variable {W W' : World} {N b m c : Nat} {fin : Bool} {out : Int} {A : Option Addr} {ws : Ways}
theorem NwAt.grown (h : NwAt W N fin out A m c ws) (hg : W.grownBy W' (some b)) (hb : b < N) : NwAt W' N fin out A m c ws :=
  ⟨(hg.block N (Array.getElem?_eq_some_iff.1 h.blk).1 (by simp; omega)).trans h.blk, h.own.kept hg (.inr fun e => by have := (h.own.lt b e).1; omega), h.len⟩
theorem NwAt.below (h : NwAt W N fin out A m c ws) (hb : Below W.heap.size W W') : NwAt W' N fin out A m c ws :=
  ⟨(hb.block N (Array.getElem?_eq_some_iff.1 h.blk).1).trans h.blk, own_kept h.own hb, h.len⟩
theorem NwAt.lt (h : NwAt W N fin out A m c ws) : N < W.heap.size := (Array.getElem?_eq_some_iff.1 h.blk).1
theorem NwAt.cells (h : NwAt W N fin out A m c ws) : W.cell? ⟨N, 0, none⟩ = some (.bool fin) ∧ W.cell? ⟨N, 1, none⟩ = some (.int .i64 out) ∧ W.cell? ⟨N, 2, none⟩ = some (.slice A m c) :=
  ⟨cell_of_row _ N 0 _ _ (0, 0) h.blk, cell_of_row _ N 1 _ _ (0, 0) h.blk, cell_of_row _ N 2 _ _ (0, 0) h.blk⟩
theorem NwAt.free (h : NwAt W N fin out A m c ws) : W.frozen? ⟨N, 0, none⟩ = false ∧ W.frozen? ⟨N, 1, none⟩ = false ∧ W.frozen? ⟨N, 2, none⟩ = false := by
  refine ⟨?_, ?_, ?_⟩ <;> simp [World.frozen?, h.blk]
/-- Its number is stored. -/
theorem NwAt.setOut (h : NwAt W N fin out A m c ws) (z : Int) : NwAt (W.setCell ⟨N, 1, none⟩ (.int .i64 z)) N fin z A m c ws := by
  refine ⟨?_, h.own.kept (set_grown _ _ _) (.inr fun e => by have := (h.own.lt _ e).1; simp at this; omega), h.len⟩
  simp [World.setCell, Array.getElem?_modify, h.blk]
theorem NwAt.setFin (h : NwAt W N fin out A m c ws) (z : Bool) : NwAt (W.setCell ⟨N, 0, none⟩ (.bool z)) N z out A m c ws := by
  refine ⟨?_, h.own.kept (set_grown _ _ _) (.inr fun e => by have := (h.own.lt _ e).1; simp at this; omega), h.len⟩
  simp [World.setCell, Array.getElem?_modify, h.blk]
/-- Another block is written. -/
theorem NwAt.setAt {V i : Nat} {v : Value} {cs : Array Value} {e : TypeId} {fr : Nat × Nat} (h : NwAt W N fin out A m c ws) (hV : V ≠ N) (hb : W.heap[V]? = some (.cells cs e fr)) (he : e ≠ 55 := by decide) : NwAt (W.setCell ⟨V, i, none⟩ v) N fin out A m c ws :=
  ⟨(Below.heap_setCell _ _ _ N (by show N ≠ V; omega)).trans h.blk, h.own.kept (set_grown _ _ _) (row_not_cells h.own hb he), h.len⟩
/-- A way more. -/
theorem NwAt.push {W1 : World} {A1 : Option Addr} {c1 : Nat} {x : Int × Int × Int} (h : NwAt W N fin out A m c ws) (hg : W.grownBy W1 (Value.slice A m c).ownBlock) (ho : W1.ownsRow (N + 1) 55 3 (.slice A1 (m + 1) c1) (m + 1) (waysC ws ++ wayC x)) :
    NwAt (W1.setCell ⟨N, 2, none⟩ (.slice A1 (m + 1) c1)) N fin out A1 (m + 1) c1 (ws ++ [x]) := by
  have b1 := (hg.block N h.lt (fun e => by have := (h.own.lt _ e.symm).1; omega)).trans h.blk
  refine ⟨?_, ?_, by rw [List.length_append, h.len]; rfl⟩
  · simp [World.setCell, Array.getElem?_modify, b1]
  · have hE : waysC (ws ++ [x]) = waysC ws ++ wayC x := by unfold waysC; rw [List.flatMap_append]; simp
    rw [hE]
    exact ho.kept (set_grown _ _ _) (.inr fun e => by have := (ho.lt _ e).1; simp at this; omega)
/-- What else lies in memory stays. -/
theorem NwAt.pushBelow {W1 : World} {A1 : Option Addr} {c1 : Nat} {B : Nat} (h : NwAt W N fin out A m c ws) (hg : W.grownBy W1 (Value.slice A m c).ownBlock) (hB : B ≤ N) : Below B W (W1.setCell ⟨N, 2, none⟩ (.slice A1 (m + 1) c1)) := by
  have hlt := h.lt
  refine ((Below.refl B W).grown hg (by omega) (fun k hk => ?_)).setCell (by show B ≤ N; omega) _
  have := (h.own.lt k hk).1
  omega
end
theorem set_same {W : World} {b i : Nat} {cs : Array Value} {e : TypeId} {fr : Nat × Nat} (h : W.heap[b]? = some (.cells cs e fr)) {v : Value} (hv : cs[i]? = some v) : W.setCell ⟨b, i, none⟩ v = W := by
  obtain ⟨hi, hx⟩ := Array.getElem?_eq_some_iff.1 hv
  obtain ⟨hb, hy⟩ := Array.getElem?_eq_some_iff.1 h
  have e1 : cs.setIfInBounds i v = cs := by
    apply Array.ext
    · simp
    · intro j h1 h2
      rw [Array.getElem_setIfInBounds]
      split
      · rename_i hj; subst hj; exact hx.symm
      · rfl
  have e2 : (W.setCell ⟨b, i, none⟩ v).heap = W.heap := by
    apply Array.ext
    · simp [World.setCell]
    · intro j h1 h2
      simp only [World.setCell, Array.getElem_modify]
      split
      · rename_i hj
        subst hj
        rw [hy]
        simp [e1]
      · rfl
  show { W with heap := (W.setCell ⟨b, i, none⟩ v).heap } = W
  rw [e2]
theorem own_less {W : World} {b b' e s n : Nat} {v : Value} {xs : List Value} (h : W.ownsRow b e s v n xs) (hb : b' ≤ b) : W.ownsRow b' e s v n xs := by
  refine ⟨h.1, ?_⟩
  rcases h.2 with hn | ⟨g, cap, cur, hv, hg, rest⟩
  · exact .inl hn
  · exact .inr ⟨g, cap, cur, hv, by omega, rest⟩
theorem same3 {W : World} {N : Nat} {x y z : Value} {e : TypeId} {fr : Nat × Nat} (h : W.heap[N]? = some (.cells #[x, y, z] e fr)) : ((W.setCell ⟨N, 0, none⟩ x).setCell ⟨N, 1, none⟩ y).setCell ⟨N, 2, none⟩ z = W := by
  rw [set_same h rfl, set_same h rfl, set_same h rfl]
theorem results_cell4 {fn : Func} {p t u v : Tmp} {ty : TypeId} (h : fn.results = #[.cell p ty, .tmp t, .tmp u, .tmp v]) {P : Program} (tmps : Array Value) (w : World) (g : Nat) (cs : Array Value)
    (hp : tmps.getD p undef = .pointer (some ⟨g, 0, none⟩)) (hl : (loadVar ty ⟨g, 0, none⟩).run P w = .ok (.agg cs) w) :
    (results fn tmps).run P w = .ok (.tuple #[.agg cs, tmps.getD t undef, tmps.getD u undef, tmps.getD v undef]) w := by
  have hp' : tmps[p]?.getD undef = .pointer (some ⟨g, 0, none⟩) := by simpa using hp
  simp [results, h, hp', asAddr, hl]
theorem load_node {w : World} {g : Nat} {cs : Array Value} {fr : Nat × Nat} (hg : w.heap[g]? = some (.cells cs 51 fr)) (hc : cs.size = 3) : (loadVar 51 ⟨g, 0, none⟩).run Tryd.prog w = .ok (.agg cs) w :=
  run_loadVar_row w g 51 51 cs fr _ hg Tryd.underlying51 rfl (by rw [hc]; kernel_rfl)
end Go.Proofs.YtheickndnniomaaDoor
