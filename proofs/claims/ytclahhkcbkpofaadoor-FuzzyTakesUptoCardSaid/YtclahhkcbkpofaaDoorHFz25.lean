/- Loose states of the call's own. -/
import Derived.Test.YtclahhkcbkpofaaDoorHFz13
import Derived.Test.YtclahhkcbkpofaaDoorHFz24
import Derived.Test.YtclahhkcbkpofaaDoorHFz20
namespace Go.Proofs.YtclahhkcbkpofaaDoor
open Go.RowKit
theorem el_loose : Elem Tryd.prog 28 25 3 56 := Elem.mk_ Tryd.underlying28 (z := .agg #[.bool false, .slice none 0 0, .slice none 0 0]) (by kernel_rfl) rfl (by omega)
/-- Append of a whole slice within a region that draws its order. -/
theorem step_apsl {P : Program} {ops : Array Oper} {o : Oper} {a : Act} {K : Act → World → Prop} {Q : Exit → Act → World → Prop} {E : Prop} (w : World) (hgd : o.guard = none) (s x : Operand) (t : TypeId)
    (ho : o.op = .call { callee := .builtin .append, args := #[s, x], argTypes := #[t, t] })
    {base e size bytes : Nat} (he : Elem P t e size bytes) (v : Value) (n : Nat) (xs : List Value) (hs : a.eval s = v) (hown : w.ownsRow base e size v n xs)
    {B : Nat} {A : Option Addr} {m c : Nat} {news : List Value} (hx : a.eval x = .slice A m c) (hsl : Sl w B size A m news) (hc : A = none → m = 0) (h1 : ∀ u ∈ news, u.oneCell' = true)
    (h63 : n + m ≤ maxLen) (hbytes : (n + m) * bytes ≤ 140737488355328) (hbase : base ≤ w.heap.size)
    (h : ∀ v' w', w'.ownsRow base e size v' (n + m) (xs ++ news) → w.grownBy w' v.ownBlock → (v'.ownBlock = v.ownBlock ∨ ∃ g, v'.ownBlock = some g ∧ w.heap.size ≤ g) → K (a.put o.dst v') w') :
    if Region.wanted o (yielded ops a.tmps) = true then Oper.wp P o a w K Q else E := by
  have hw : Region.wanted o (yielded ops a.tmps) = true := by simp [Region.wanted, hgd]
  rw [if_pos hw]
  obtain ⟨v', w', hrun, h2, h3, h4⟩ := run_append_sl (P := P) (ty := o.type) w he hown hsl (c := c) hc h1 h63 hbytes hbase
  unfold Oper.wp
  simp [execOp, ho, resolve, invoke, builtin, hs, hx, hrun, Result.andThen]
  exact h v' w' h2 h3 h4
theorem arcs_cell1 (l : List Arc3) : ∀ u ∈ arcsC l, u.oneCell' = true := fun u hu => by
  unfold arcsC at hu
  obtain ⟨a, _, h⟩ := List.mem_flatMap.1 hu
  simp only [arcC, List.mem_cons, List.not_mem_nil, or_false] at h
  rcases h with rfl | rfl | rfl <;> rfl
theorem ints_cell1 (l : List Int) : ∀ u ∈ l.map (Value.int .i64), u.oneCell' = true := fun u hu => by
  obtain ⟨z, _, rfl⟩ := List.mem_map.1 hu
  rfl
theorem Sl.none_ {w : World} {B size n : Nat} {A : Option Addr} {xs : List Value} (h : Sl w B size A n xs) (hA : A = none) : n = 0 := by
  rcases Nat.eq_zero_or_pos n with h0 | h0
  · exact h0
  · obtain ⟨b, off, e, _⟩ := h.2 h0
    rw [e] at hA
    cases hA
def Lsh.arow (x : Lsh) : GRow := ⟨.slice x.A x.d.arcs.length x.c, x.d.arcs.length, arcsC x.d.arcs⟩
def Lsh.frow (x : Lsh) : GRow := ⟨.slice x.F x.d.free.length x.e, x.d.free.length, x.d.free.map (.int .i64)⟩
/-- Loose states of the call's own. -/
structure LoR (w W : World) (v : Value) (n : Nat) (hs : List Lsh) : Prop where
  out : W.ownsRow w.heap.size 25 3 v n (hs.flatMap Lsh.hdr)
  ar : GFam W w.heap.size 63 3 (hs.map Lsh.arow)
  fr : GFam W w.heap.size 3 1 (hs.map Lsh.frow)
  bel : Below w.heap.size w W
theorem lhdr_len (hs : List Lsh) : (hs.flatMap Lsh.hdr).length = hs.length * 3 := flat_length Lsh.hdr 3 (fun _ => rfl) hs
section
variable {w W W' : World} {v : Value} {n : Nat} {hs : List Lsh}
theorem LoR.len (h : LoR w W v n hs) : hs.length = n := by
  have := h.out.1
  rw [lhdr_len] at this
  omega
theorem LoR.keep (h : LoR w W v n hs) (hb : Below W.heap.size W W') : LoR w W' v n hs := ⟨own_kept h.out hb, h.ar.below hb, h.fr.below hb, bcall h.bel hb⟩
/-- A state more, its rows made since. -/
theorem LoR.push {W1 : World} {v' : Value} {x : Lsh} (h : LoR w W v n hs) (hb : Below W.heap.size W W1) (ha : W1.ownsRow W.heap.size 63 3 (.slice x.A x.d.arcs.length x.c) x.d.arcs.length (arcsC x.d.arcs)) (hf : W1.ownsRow W.heap.size 3 1 (.slice x.F x.d.free.length x.e) x.d.free.length (x.d.free.map (.int .i64)))
    (hg : W1.grownBy W' v.ownBlock) (ho : W'.ownsRow w.heap.size 25 3 v' (n + 1) (hs.flatMap Lsh.hdr ++ x.hdr)) : LoR w W' v' (n + 1) (hs ++ [x]) := by
  have h1 := own_kept h.out hb
  refine ⟨by rw [List.flatMap_append]; simpa using ho, ?_, ?_, (bcall h.bel hb).grown hg (bcall h.bel hb).size fun r hr => (h.out.lt r hr).1⟩
  · have h2 := (h.ar.fresh (y := x.arow) hb h.bel.size ha).turn
    rw [List.map_append]
    exact h2.kept hg fun z hz => own_types h1 (h2.own z hz) (by decide)
  · have h2 := (h.fr.fresh (y := x.frow) hb h.bel.size hf).turn
    rw [List.map_append]
    exact h2.kept hg fun z hz => own_types h1 (h2.own z hz) (by decide)
/-- A bare state more. -/
theorem LoR.bare {v' : Value} (h : LoR w W v n hs) (hg : W.grownBy W' v.ownBlock) (ho : W'.ownsRow w.heap.size 25 3 v' (n + 1) (hs.flatMap Lsh.hdr ++ [.bool false, .slice none 0 0, .slice none 0 0])) : LoR w W' v' (n + 1) (hs ++ [⟨⟨false, [], []⟩, none, 0, none, 0⟩]) :=
  h.push (brefl W) ⟨rfl, .inl ⟨rfl, rfl⟩⟩ ⟨rfl, .inl ⟨rfl, rfl⟩⟩ hg ho
/-- States to be read. -/
theorem LoR.lo {A : Option Addr} {c : Nat} (h : LoR w W (.slice A n c) n hs) (hn : n ≤ 2097152) (ha : ∀ x ∈ hs, x.d.arcs.length ≤ 2097152) (hf : ∀ x ∈ hs, x.d.free.length ≤ 2097152) : LoIn W W.heap.size A n c hs := by
  obtain ⟨A1, c1, e1, h1⟩ := own_shape h.out
  injection e1 with _ _ e1
  refine ⟨h.len, Sl.of_own h.out, by omega, hn, fun x hx => ?_, fun x hx => ?_⟩
  · have ho : W.ownsRow w.heap.size 63 3 (.slice x.A x.d.arcs.length x.c) x.d.arcs.length (arcsC x.d.arcs) := h.ar.own x.arow (List.mem_map.2 ⟨x, hx, rfl⟩)
    obtain ⟨A2, c2, e2, h2⟩ := own_shape ho
    injection e2 with _ _ e2
    exact ⟨Sl.of_own ho, by omega, ha x hx⟩
  · have ho : W.ownsRow w.heap.size 3 1 (.slice x.F x.d.free.length x.e) x.d.free.length (x.d.free.map (.int .i64)) := h.fr.own x.frow (List.mem_map.2 ⟨x, hx, rfl⟩)
    obtain ⟨A2, c2, e2, h2⟩ := own_shape ho
    injection e2 with _ _ e2
    exact ⟨Sl.of_own ho, by omega, hf x hx, (Sl.of_own ho).none_⟩
end
theorem lo_cell {W : World} {b n g c j : Nat} {hs : List Lsh} {x : Lsh} (h : W.ownsRow b 25 3 (.slice (some ⟨g, 0, none⟩) n c) n (hs.flatMap Lsh.hdr)) (hx : hs[j]? = some x) : W.cell? ⟨g, j * 3, none⟩ = some (.bool x.d.fin) ∧ W.cell? ⟨g, j * 3 + 1, none⟩ = some (.slice x.A x.d.arcs.length x.c) ∧ W.cell? ⟨g, j * 3 + 2, none⟩ = some (.slice x.F x.d.free.length x.e) := by
  have k : ∀ q u, x.hdr[q]? = some u → q < 3 → W.cell? ⟨g, j * 3 + q, none⟩ = some u := fun q u hu hq => by
    have := h.cells (g := g) rfl (j * 3 + q) u (by rw [flat_at Lsh.hdr 3 (fun _ => rfl) hs j q x hx hq]; exact hu)
    rwa [Addr.add_lit, Nat.zero_add] at this
  exact ⟨k 0 _ rfl (by omega), k 1 _ rfl (by omega), k 2 _ rfl (by omega)⟩
/-- Rows of other types stay. -/
def Keeps (W W' : World) : Prop := ∀ (b e s n : Nat) (v : Value) (xs : List Value), e ≠ 63 → e ≠ 25 → W.ownsRow b e s v n xs → W'.ownsRow b e s v n xs
theorem Keeps.below {W W' : World} (h : Below W.heap.size W W') : Keeps W W' := fun _ _ _ _ _ _ _ _ ho => own_kept ho h
theorem Keeps.trans {a b c : World} (h : Keeps a b) (h' : Keeps b c) : Keeps a c := fun x e s n v xs h1 h2 ho => h' x e s n v xs h1 h2 (h x e s n v xs h1 h2 ho)
theorem Keeps.loose {W W' : World} {b s n : Nat} {v : Value} {xs : List Value} (ho : W.ownsRow b 25 s v n xs) (hg : W.grownBy W' v.ownBlock) : Keeps W W' := fun _ _ _ _ _ _ _ h2 ho2 => ho2.kept hg (own_types ho ho2 fun h => h2 h.symm)
/-- An arc more behind a state's others, put back into its header. -/
theorem LoR.arc {w W W' : World} {g n c i : Nat} {hs : List Lsh} {x : Lsh} {a : Arc3} {A2 : Option Addr} {c2 : Nat} (h : LoR w W (.slice (some ⟨g, 0, none⟩) n c) n hs) (hx : hs[i]? = some x) (hg : W.grownBy W' (Value.slice x.A x.d.arcs.length x.c).ownBlock)
    (hy : W'.ownsRow w.heap.size 63 3 (.slice A2 (x.d.arcs.length + 1) c2) (x.d.arcs.length + 1) (arcsC x.d.arcs ++ arcC a)) (hm : (Value.slice A2 (x.d.arcs.length + 1) c2).ownBlock = (Value.slice x.A x.d.arcs.length x.c).ownBlock ∨ ∃ q, (Value.slice A2 (x.d.arcs.length + 1) c2).ownBlock = some q ∧ W.heap.size ≤ q) :
    LoR w (W'.setCell ⟨g, i * 3 + 1, none⟩ (.slice A2 (x.d.arcs.length + 1) c2)) (.slice (some ⟨g, 0, none⟩) n c) n (hs.set i ⟨⟨x.d.fin, x.d.arcs ++ [a], x.d.free⟩, A2, c2, x.F, x.e⟩) ∧
    W'.cell? ⟨g, i * 3 + 1, none⟩ = some (.slice x.A x.d.arcs.length x.c) ∧ W'.frozen? ⟨g, i * 3 + 1, none⟩ = false ∧ g < W'.heap.size ∧ Keeps W (W'.setCell ⟨g, i * 3 + 1, none⟩ (.slice A2 (x.d.arcs.length + 1) c2)) := by
  have hxa : W.ownsRow w.heap.size 63 3 (.slice x.A x.d.arcs.length x.c) x.d.arcs.length (arcsC x.d.arcs) := h.ar.own x.arow (List.mem_map.2 ⟨x, List.mem_of_getElem? hx, rfl⟩)
  have hbel := h.bel.grown hg h.bel.size fun r hr => (hxa.lt r hr).1
  have ho1 := h.out.kept hg (own_types hxa h.out (by decide))
  obtain ⟨q1, q2, cs, q3⟩ := own_blk ho1
  obtain ⟨_, k1, _⟩ := lo_cell ho1 hx
  have hxr : (hs.map Lsh.arow)[i]? = some x.arow := by rw [List.getElem?_map, hx]; rfl
  refine ⟨⟨?_, ?_, ?_, below_set hbel q1 (Nat.le_refl _)⟩, k1, free_at q3 _, q2, fun b e s n' v xs he1 he2 ho => own_other (ho.kept hg (own_types hxa ho fun h => he1 h.symm)) q3 fun h => he2 h.symm⟩
  · have h1 := own_put (j := i * 3 + 1) (u := .slice A2 (x.d.arcs.length + 1) c2) ho1
    have e : (hs.flatMap Lsh.hdr).set (i * 3 + 1) (.slice A2 (x.d.arcs.length + 1) c2) = (hs.set i ⟨⟨x.d.fin, x.d.arcs ++ [a], x.d.free⟩, A2, c2, x.F, x.e⟩).flatMap Lsh.hdr := by
      rw [set_split hx]
      conv => lhs; rw [split_at hx]
      have hl : ((hs.take i).flatMap Lsh.hdr).length = i * 3 := by rw [lhdr_len, List.length_take, Nat.min_eq_left (by have := (List.getElem?_eq_some_iff.1 hx).1; omega)]
      rw [List.flatMap_append, List.flatMap_append, List.flatMap_cons, List.flatMap_cons, List.set_append_right _ _ (by omega), hl, Nat.add_sub_cancel_left]
      unfold Lsh.hdr
      simp
    rw [e] at h1
    exact h1
  · rw [List.map_set]
    have h1 := h.ar
    rw [split_at hxr] at h1
    have h2 := h1.grow (W2 := W') (y := (⟨⟨x.d.fin, x.d.arcs ++ [a], x.d.free⟩, A2, c2, x.F, x.e⟩ : Lsh).arow) hg (by
      show W'.ownsRow _ _ _ (.slice A2 (x.d.arcs ++ [a]).length c2) (x.d.arcs ++ [a]).length (arcsC (x.d.arcs ++ [a]))
      rw [List.length_append, List.length_singleton, arcsC_app]
      exact hy) (by
      show (Value.slice A2 (x.d.arcs ++ [a]).length c2).ownBlock = _ ∨ ∃ q, (Value.slice A2 (x.d.arcs ++ [a]).length c2).ownBlock = some q ∧ _
      rw [List.length_append, List.length_singleton]
      exact hm)
    rw [← set_split hxr] at h2
    exact h2.kept (set_grown _ _ _) fun z hz => row_not_cells (h2.own z hz) q3 (by decide)
  · rw [List.map_set]
    have e : (hs.map Lsh.frow).set i (⟨⟨x.d.fin, x.d.arcs ++ [a], x.d.free⟩, A2, c2, x.F, x.e⟩ : Lsh).frow = hs.map Lsh.frow := by
      have e2 : (⟨⟨x.d.fin, x.d.arcs ++ [a], x.d.free⟩, A2, c2, x.F, x.e⟩ : Lsh).frow = x.frow := rfl
      rw [e2]
      apply List.ext_getElem?
      intro j
      by_cases hj : i = j
      · subst hj
        rw [List.getElem?_set_self (by rw [List.length_map]; exact (List.getElem?_eq_some_iff.1 hx).1), List.getElem?_map, hx]
        rfl
      · rw [List.getElem?_set_ne hj]
    rw [e]
    have h2 := h.fr.kept hg fun z hz => own_types hxa (h.fr.own z hz) (by decide)
    exact h2.kept (set_grown _ _ _) fun z hz => row_not_cells (h2.own z hz) q3 (by decide)
end Go.Proofs.YtclahhkcbkpofaaDoor
/- Loose states made anew; a number more among a state's free ways. -/
namespace Go.Proofs.YtclahhkcbkpofaaDoor
open Go.RowKit
def bareH : Lsh := ⟨⟨false, [], []⟩, none, 0, none, 0⟩
def zeroL : Array Value := #[.bool false, .slice none 0 0, .slice none 0 0]
theorem info_loose : (Tryd.prog.info? 25).map (fun i => (i.zero, i.size, i.bytes)) = some (some (.agg zeroL), 3, 56) := by kernel_rfl
theorem made_rep : ∀ n : Nat, (madeCells zeroL (n * 3)).toList = (List.replicate n bareH).flatMap Lsh.hdr := by
  intro n
  induction n with
  | zero => simp [madeCells]
  | succ n ih =>
    have e : (n + 1) * 3 = n * 3 + 1 + 1 + 1 := by omega
    have m0 : n * 3 % 3 = 0 := by omega
    have m1 : (n * 3 + 1) % 3 = 1 := by omega
    have m2 : (n * 3 + 1 + 1) % 3 = 2 := by omega
    rw [List.replicate_succ', List.flatMap_append, ← ih, e]
    unfold madeCells
    simp only [Array.toList_map, Array.toList_range, List.range_succ, List.map_append, List.map_cons, List.map_nil, List.append_assoc]
    congr 1
    show [zeroL[n * 3 % 3]!] ++ ([zeroL[(n * 3 + 1) % 3]!] ++ [zeroL[(n * 3 + 1 + 1) % 3]!]) = _
    rw [m0, m1, m2]
    rfl
theorem fam_bare (W : World) (base e s : Nat) : ∀ {F : List GRow}, (∀ x ∈ F, x = GRow.nil) → GFam W base e s F := fun {F} h => by
  refine ⟨fun x hx => by rw [h x hx]; exact GRow.own_nil .., ?_⟩
  refine List.pairwise_of_forall_mem_list fun x hx y _ => ?_
  rw [h x hx]
  exact .inl rfl
end Go.Proofs.YtclahhkcbkpofaaDoor
