/- Words for memory used by all proofs of this project: a slice that reads as a list of cells, a list of equal rows, what a call leaves as it was. -/
import Derived.WalkKit
import Derived.WalkLawsBesides
import Derived.WalkSpells
import Derived.BigQuiet
import Derived.Deep.QuietTactic
import Derived.Deep.Draws
import Derived.Deep.LoopGhost
import Derived.Deep.DeepCutAuto
import Derived.Lib.Hide
import Derived.Below
import Derived.Laws.OwnMore
import Derived.Outline
import Derived.Maps.AppendAt
import Derived.Deep.Slices
import Derived.Deep.Fields
import Derived.ChangeArms
import Derived.ChangeSame
import Derived.SizedLaws
import Derived.OpenShut
namespace Go.Proofs.YtclahhkcbkpofaaDoor
open Go.RowKit

theorem ret_int {k : IntKind} {a b : Int} (h : a = b) : Ending.returned (.int k a) = .returned (.int k b) := by rw [h]
theorem ret_bool {a b : Bool} (h : a = b) : Ending.returned (.bool a) = .returned (.bool b) := by rw [h]

/-- The slice '.slice A n c' reads as the cells xs, n elements of 'size' cells each, and lies below block B. -/
def Sl (w : World) (B size : Nat) (A : Option Addr) (n : Nat) (xs : List Value) : Prop :=
  xs.length = n * size ∧ (0 < n → ∃ b off, A = some ⟨b, off, none⟩ ∧ b < B ∧ ∀ j u, xs[j]? = some u → w.cell? ⟨b, off + j, none⟩ = some u)

section
variable {w w' : World} {B B' size n : Nat} {A : Option Addr} {xs : List Value}
theorem Sl.empty : Sl w B size A 0 [] := ⟨by simp, fun h => absurd h (by omega)⟩
theorem Sl.at_ (h : Sl w B size A n xs) {k : Nat} (hk : k < n) : ∃ b off, A = some ⟨b, off, none⟩ ∧ b < B ∧ ∀ j u, xs[j]? = some u → w.cell? ⟨b, off + j, none⟩ = some u := h.2 (by omega)
theorem Sl.keep (h : Sl w B size A n xs) (hk : ∀ b o, b < B → w'.cell? ⟨b, o, none⟩ = w.cell? ⟨b, o, none⟩) : Sl w' B size A n xs :=
  ⟨h.1, fun hn => by
    obtain ⟨b, off, e, hb, hc⟩ := h.2 hn
    exact ⟨b, off, e, hb, fun j u hu => (hk _ _ hb).trans (hc j u hu)⟩⟩
theorem Sl.more (h : Sl w B size A n xs) (hB : B ≤ B') : Sl w B' size A n xs :=
  ⟨h.1, fun hn => by
    obtain ⟨b, off, e, hb, hc⟩ := h.2 hn
    exact ⟨b, off, e, by omega, hc⟩⟩
theorem Sl.below (h : Sl w B size A n xs) (hb : Below B w w') : Sl w' B size A n xs := h.keep fun _ _ hp => hb.cell hp
theorem Sl.drewN (h : Sl w B size A n xs) (k : Nat) : Sl (w.drewN k) B size A n xs := h
theorem Sl.alloc (h : Sl w B size A n xs) (hB : B ≤ w.heap.size) (o : Obj) : Sl (w.alloc o) B size A n xs := h.keep fun b o' hp => World.cell?_alloc_lt w o ⟨b, o', none⟩ (by show b < _; omega)
theorem Sl.cut (h : Sl w B size A n xs) {k cap : Nat} (hk : k ≤ n) (hc : n ≤ cap) :
    Sl w B size (if cap = k then A else A.map (·.add (k * size))) (n - k) (xs.drop (k * size)) := by
  refine ⟨by rw [List.length_drop, h.1, Nat.sub_mul], fun hn => ?_⟩
  obtain ⟨b, off, rfl, hb, hcell⟩ := h.2 (by omega)
  rw [if_neg (by omega)]
  refine ⟨b, off + k * size, ?_, hb, fun j u hu => ?_⟩
  · simp only [Option.map_some, Addr.add]
    split
    · rename_i h0; rw [h0]; rfl
    · rfl
  · rw [Nat.add_assoc]
    exact hcell _ u (by rw [← hu, List.getElem?_drop])
theorem Sl.pre (h : Sl w B size A n xs) {k : Nat} (hk : k ≤ n) : Sl w B size A k (xs.take (k * size)) := by
  refine ⟨by rw [List.length_take, h.1, Nat.min_eq_left (Nat.mul_le_mul_right _ hk)], fun hn => ?_⟩
  obtain ⟨b, off, rfl, hb, hcell⟩ := h.2 (by omega)
  refine ⟨b, off, rfl, hb, fun j u hu => hcell j u ?_⟩
  rw [List.getElem?_take] at hu
  split at hu
  · exact hu
  · cases hu
theorem Sl.of_own {base : Nat} {e : TypeId} {c : Nat} (h : w.ownsRow base e size (.slice A n c) n xs) : Sl w w.heap.size size A n xs := by
  refine ⟨h.1, fun hn => ?_⟩
  rcases h.2 with ⟨_, h0⟩ | ⟨g, cap, cur, hv, _, hg, _⟩
  · omega
  · injection hv with hA _ _
    subst hA
    have hlt : g < w.heap.size := (Array.getElem?_eq_some_iff.1 hg).1
    refine ⟨g, 0, rfl, hlt, fun j u hu => ?_⟩
    have := h.cells (g := g) rfl j u hu
    rwa [Addr.add_lit] at this
end

/-- What an owned row's value is: nil, or at the head of a block. -/
theorem own_shape {w : World} {base e size n : Nat} {v : Value} {xs : List Value} (h : w.ownsRow base e size v n xs) : ∃ A c, v = .slice A n c ∧ n ≤ c := by
  rcases h.2 with ⟨rfl, rfl⟩ | ⟨g, cap, cur, hv, _, _, hc, _⟩
  · exact ⟨none, 0, rfl, Nat.le_refl _⟩
  · exact ⟨_, _, hv, hc⟩

/-! ### Rows of equal length in one list of cells -/
theorem flat_length {α : Type} (f : α → List Value) (m : Nat) (hf : ∀ x, (f x).length = m) (l : List α) : (l.flatMap f).length = l.length * m := by
  induction l with
  | nil => simp
  | cons x l ih => rw [List.flatMap_cons, List.length_append, ih, hf, List.length_cons, Nat.add_mul]; omega
theorem flat_at {α : Type} (f : α → List Value) (m : Nat) (hf : ∀ x, (f x).length = m) (l : List α) (k j : Nat) (x : α) (hx : l[k]? = some x) (hj : j < m) : (l.flatMap f)[k * m + j]? = (f x)[j]? := by
  induction l generalizing k with
  | nil => simp at hx
  | cons y l ih =>
    rw [List.flatMap_cons]
    cases k with
    | zero =>
      simp at hx
      subst hx
      rw [Nat.zero_mul, Nat.zero_add, List.getElem?_append_left (by rw [hf]; exact hj)]
    | succ k =>
      rw [List.getElem?_append_right (by rw [hf, Nat.add_mul]; omega), hf]
      have : (k + 1) * m + j - m = k * m + j := by rw [Nat.add_mul]; omega
      rw [this]
      exact ih k (by simpa using hx)

/-! ### Append of one element to a slice of the call's own -/
/-- The slice type t has elements of type e, of 'size' cells and 'bytes' bytes each. -/
def Elem (P : Program) (t e : TypeId) (size bytes : Nat) : Prop :=
  P.underlying t = some (.slice e) ∧ ∃ i z, P.info? e = some i ∧ i.zero = some z ∧ i.size = size ∧ i.bytes = bytes ∧ z.cells.size = size ∧ 0 < size
theorem Elem.mk_ {P : Program} {t e : TypeId} {z : Value} {size bytes : Nat} (ht : P.underlying t = some (.slice e)) (h : (P.info? e).map (fun i => (i.zero, i.size, i.bytes)) = some (some z, size, bytes)) (hz : z.cells.size = size) (hs : 0 < size) : Elem P t e size bytes := by
  obtain ⟨i, h1, h2, h3, h4⟩ := info_parts h
  exact ⟨ht, i, z, h1, h2, h3, h4, hz, hs⟩

theorem news_at (w : World) (cs : Array Value) (e : TypeId) : ∀ j u, cs.toList[j]? = some u → (w.alloc (.cells cs e)).cell? ((⟨w.heap.size, 0, none⟩ : Addr).add j) = some u := by
  intro j u hu
  rw [Addr.add_lit, Nat.zero_add, cell_of_row _ w.heap.size j cs e (0, 0) (heap_alloc_new w _)]
  simpa using hu

theorem wpList_push {P : Program} {ops : Array Oper} {rest : List Oper} {o : Oper} {a : Act} {Q : Exit → Act → World → Prop} (w0 wr : World) (cs : Array Value) (hgd : o.guard = none) (s x : Operand) (t : TypeId)
    (ho : o.op = .call { callee := .builtin .append, args := #[s, x], argTypes := #[t, t] })
    {base e size bytes : Nat} (he : Elem P t e size bytes) (v : Value) (n : Nat) (xs : List Value) (hs : a.eval s = v) (hown : wr.ownsRow base e size v n xs)
    {nb : Nat} (hx : a.eval x = .slice (some ⟨nb, 0, none⟩) 1 1) (hnb : wr.heap.size = nb) (hl : cs.size = size) (h1 : ∀ u ∈ cs.toList, u.oneCell' = true)
    (h63 : n + 1 ≤ maxLen) (hbytes : (n + 1) * bytes ≤ 140737488355328) (hbase : base ≤ wr.heap.size) (hb : Below base w0 wr)
    (h : ∀ v' w', w'.ownsRow base e size v' (n + 1) (xs ++ cs.toList) → Below base w0 w' → wr.grownBy w' v.ownBlock → (v'.ownBlock = v.ownBlock ∨ ∃ g, v'.ownBlock = some g ∧ wr.heap.size ≤ g) → wpList P ops Q rest (a.put o.dst v') w') :
    wpList P ops Q (o :: rest) a (wr.alloc (.cells cs e)) := by
  subst hnb
  obtain ⟨ht, i, z, hi, hz, hsz, hby, hzs, hpos⟩ := he
  refine wpList_append_own_at _ hgd s x t ho base e i z size bytes ht hi hz hsz hby hzs hpos v n xs hs (hown.alloc _) ⟨wr.heap.size, 0, none⟩ 1 1 cs.toList hx (by simpa using hl) (news_at wr cs e) h1 h63 hbytes (by simp; omega) ?_
  intro v' w' h2 h3 _ h5
  have hall : wr.grownBy w' v.ownBlock := (World.grownBy_alloc wr _ _).trans h3
  refine h v' w' h2 (hb.grown hall hbase (fun k hk => (hown.lt k hk).1)) hall ?_
  rcases h5 with h5 | h5
  · exact .inl h5
  · exact .inr ⟨_, h5, by simp⟩

/-! ### Append of a whole slice to a slice of the call's own: the source may be nil or empty -/
theorem run_append_of_nil {P : Program} (w : World) {base t ty e size bytes : Nat} (he : Elem P t e size bytes) {v : Value} {n : Nat} {xs : List Value} (hown : w.ownsRow base e size v n xs) (c : Nat) :
    (Builtin.append_ #[t, t] ty #[v, .slice none 0 c]).run P w = .ok v w := by
  obtain ⟨ht, i, z, hi, _⟩ := he
  rcases hown.2 with ⟨rfl, rfl⟩ | ⟨g, cap, cur, rfl, _, _, hnc, _⟩
  · simp [Builtin.append_, run_underlying ht, sizeOf, typeInfo, hi, Builtin.lenOf, Builtin.firstCells]
  · simp [Builtin.append_, run_underlying ht, sizeOf, typeInfo, hi, Builtin.lenOf, Builtin.firstCells, hnc, storeCells]

theorem run_append_sl {P : Program} (w : World) {base t ty e size bytes : Nat} (he : Elem P t e size bytes) {v : Value} {n : Nat} {xs : List Value} (hown : w.ownsRow base e size v n xs)
    {B : Nat} {A : Option Addr} {m c : Nat} {news : List Value} (hs : Sl w B size A m news) (hc : A = none → m = 0) (h1 : ∀ u ∈ news, u.oneCell' = true)
    (h63 : n + m ≤ maxLen) (hbytes : (n + m) * bytes ≤ 140737488355328) (hbase : base ≤ w.heap.size) :
    ∃ v' w', (Builtin.append_ #[t, t] ty #[v, .slice A m c]).run P w = .ok v' w' ∧ w'.ownsRow base e size v' (n + m) (xs ++ news) ∧ w.grownBy w' v.ownBlock ∧
      (v'.ownBlock = v.ownBlock ∨ ∃ g, v'.ownBlock = some g ∧ w.heap.size ≤ g) := by
  cases A with
  | none =>
    obtain rfl := hc rfl
    have hn : news = [] := List.eq_nil_of_length_eq_zero (by simpa using hs.1)
    subst hn
    exact ⟨v, w, run_append_of_nil w he hown c, by simpa using hown, World.grownBy.refl w _, .inl rfl⟩
  | some ad =>
    have hcells : ∀ j u, news[j]? = some u → w.cell? (ad.add j) = some u := by
      intro j u hu
      rcases Nat.eq_zero_or_pos m with h0 | h0
      · subst h0
        have hn : news = [] := List.eq_nil_of_length_eq_zero (by simpa using hs.1)
        subst hn
        simp at hu
      · obtain ⟨b, off, ha, _, hcell⟩ := hs.2 h0
        obtain rfl := Option.some.inj ha
        rw [Addr.add_lit]
        exact hcell j u hu
    obtain ⟨ht, i, z, hi, hz, hsz, hby, hzs, hpos⟩ := he
    obtain ⟨v', w', hrun, h2, h3, _, h5⟩ := run_append_own_at (P := P) w base t ty e i z size bytes ht hi hz hsz hby hzs hpos v n xs hown ad m c news hs.1 hcells h1 h63 hbytes hbase
    refine ⟨v', w', hrun, h2, h3, ?_⟩
    rcases h5 with h5 | h5
    · exact .inl h5
    · exact .inr ⟨_, h5, Nat.le_refl _⟩

theorem wpList_append_sl {P : Program} {ops : Array Oper} {rest : List Oper} {o : Oper} {a : Act} {Q : Exit → Act → World → Prop} (w0 w : World) (hgd : o.guard = none) (s x : Operand) (t : TypeId)
    (ho : o.op = .call { callee := .builtin .append, args := #[s, x], argTypes := #[t, t] })
    {base e size bytes : Nat} (he : Elem P t e size bytes) (v : Value) (n : Nat) (xs : List Value) (hs : a.eval s = v) (hown : w.ownsRow base e size v n xs)
    {B : Nat} {A : Option Addr} {m c : Nat} {news : List Value} (hx : a.eval x = .slice A m c) (hsl : Sl w B size A m news) (hc : A = none → m = 0) (h1 : ∀ u ∈ news, u.oneCell' = true)
    (h63 : n + m ≤ maxLen) (hbytes : (n + m) * bytes ≤ 140737488355328) (hbase : base ≤ w.heap.size) (hb : Below base w0 w)
    (h : ∀ v' w', w'.ownsRow base e size v' (n + m) (xs ++ news) → Below base w0 w' → w.grownBy w' v.ownBlock → (v'.ownBlock = v.ownBlock ∨ ∃ g, v'.ownBlock = some g ∧ w.heap.size ≤ g) → wpList P ops Q rest (a.put o.dst v') w') :
    wpList P ops Q (o :: rest) a w := by
  refine wpList_plain hgd fun K hK => ?_
  obtain ⟨v', w', hr, h2, h3, h4⟩ := run_append_sl (ty := o.type) w he hown hsl (c := c) hc h1 h63 hbytes hbase
  unfold Oper.wp execOp
  simp only [ho, resolve, invoke, builtin, Sem.run_bind, Sem.run_pure, Result.andThen_ok, List.map_toArray, List.map_cons, List.map_nil, hs, hx, hr]
  exact hK _ _ (h v' w' h2 (hb.grown h3 hbase (fun k hk => (hown.lt k hk).1)) h3 h4)

/-- All old cells and all old marks read as before: the two rules that the walk uses by itself. -/
theorem bcell {W w1 : World} {B : Nat} (hb : Below B W w1) : (∀ b o, b < B → w1.cell? ⟨b, o, none⟩ = W.cell? ⟨b, o, none⟩) ∧ (∀ b o, b < B → w1.frozen? ⟨b, o, none⟩ = W.frozen? ⟨b, o, none⟩) :=
  ⟨fun b o h => hb.cell (p := ⟨b, o, none⟩) h, fun b o h => hb.frozen (p := ⟨b, o, none⟩) h⟩
theorem bcall {w W W' : World} (h : Below w.heap.size w W) (h' : Below W.heap.size W W') : Below w.heap.size w W' := h.trans (h'.mono h.size)
theorem bnew {w W : World} (h : Below w.heap.size w W) (o : Obj) : Below w.heap.size w (W.alloc o) := h.alloc h.size o
theorem brefl (w : World) : Below w.heap.size w w := Below.refl _ _
theorem below_drewN {B : Nat} {a w : World} (h : Below B a w) (n : Nat) : Below B a (w.drewN n) := ⟨h.os, h.tape, h.output, h.size, h.block⟩


/-! ### Arguments: slices of structs of int fields -/
section
open Go.ChangeShapes Go.WideShapes Go.Deep
variable {H : Type} {enc : TypeId × Value → H} {P : Program} {w : World} {base : Nat} {spare : Nat → Bool} {held : Bool}

theorem lt_of_cell {w : World} {a : Addr} {v : Value} (h : w.cell? a = some v) : a.block < w.heap.size ∧ a.spot = none := by
  unfold World.cell? at h
  split at h
  · rename_i c t f hc
    refine ⟨(Array.getElem?_eq_some_iff.1 hc).1, ?_⟩
    split at h
    · cases h
    · rename_i hs; simpa using hs
  · cases h

theorem choose_lt' {α : Type} [Inhabited α] {p : Nat → α → Prop} {n : Nat} (h : ∀ i, i < n → ∃ x, p i x) : ∃ f : Nat → α, ∀ i, i < n → p i (f i) := by
  refine ⟨fun i => if hi : i < n then Classical.choose (h i hi) else default, fun i hi => ?_⟩
  simp only [hi, dif_pos]
  exact Classical.choose_spec (h i hi)

/-- A slice that came in, of structs of 'm' fields, all of one int type T: as a list of rows of numbers. -/
theorem open_flat {t e T : TypeId} {fs : Array Field} {m fuel : Nat} {A : Option Addr} {n c : Nat} {x : DataW H × List MemPlace} (ht : P.underlying t = some (.slice e)) (he : P.underlying e = some (.struct fs)) (hT : P.underlying T = some (.int .i64))
    (hone : oneCellFields P fs = true) (hall : fs.all (fun f => f.type == T) = true) (hC : P.cellsOf e = m) (hm : fs.size = m) (h0m : 0 < m) (h : DataW.trod enc P w base spare held fuel t [.slice A n c] = some x) :
    ((x.1 = .nil ∧ n = 0) ∨ ∃ es sp, x.1 = .slice es sp ∧ es.length = n) ∧ ∃ rows : List (List Int), rows.length = n ∧ n ≤ c ∧ c ≤ maxLen ∧ (A = none → c = 0) ∧ (∀ r ∈ rows, r.length = m ∧ ∀ z ∈ r, (Lit.int .i64 z).wf = true) ∧ Sl w w.heap.size m A n (rows.flatMap fun r => r.map (.int .i64)) := by
  rcases open_slice ht h with ⟨hcs, hx⟩ | ⟨a, len, cap, mm, k, D, Pl, hcs, _, hlc, hcm, hmm, hx, hi⟩
  · simp only [List.cons.injEq, Value.slice.injEq, and_true] at hcs
    obtain ⟨rfl, rfl, rfl⟩ := hcs
    exact ⟨.inl ⟨by rw [hx], rfl⟩, [], rfl, Nat.le_refl _, Nat.zero_le _, fun _ => rfl, by simp, by simpa using Sl.empty⟩
  · simp only [List.cons.injEq, Value.slice.injEq, and_true] at hcs
    obtain ⟨rfl, rfl, rfl⟩ := hcs
    have hle : n ≤ mm := by rw [hmm]; split <;> omega
    have row : ∀ i, i < n → ∃ r : List Int, r.length = m ∧ (∀ z ∈ r, (Lit.int .i64 z).wf = true) ∧ ∀ j, j < m → w.cell? (a.add (i * m + j)) = (r.map (Value.int .i64))[j]? := by
      intro i hin
      obtain ⟨cs', hc, htr⟩ := hi i (by omega)
      rw [hC] at hc
      obtain ⟨ys, k', _, _, hlen, hyl, hf⟩ := DataW.trod_struct he htr
      obtain ⟨_, hcl, hat⟩ := World.cells?_some hc
      have fld : ∀ j, j < m → ∃ z : Int, cs'[j]? = some (.int .i64 z) ∧ (Lit.int .i64 z).wf = true := by
        intro j hj
        have hjf : j < fs.size := by omega
        have hfj : fs[j]? = some fs[j] := Array.getElem?_eq_getElem hjf
        obtain ⟨ho, hk⟩ := hone_of hone j _ hfj
        have h1 := hf j _ hfj
        have hty : fs[j].type = T := by
          have := Array.all_eq_true.1 hall j hjf
          simpa using this
        have hv : cs'[j]? = some (cs'[j]'(by omega)) := List.getElem?_eq_getElem (by omega)
        have hd : (cs'.drop j).take 1 = [cs'[j]'(by omega)] := by
          rw [List.drop_eq_getElem_cons (by omega)]; rfl
        rw [ho, hk, hd, hty, List.getElem?_eq_getElem (by omega)] at h1
        obtain ⟨z, ez, _, wz⟩ := DataW.trod_int hT h1
        refine ⟨z, ?_, wz⟩
        rw [hv]
        simpa using ez
      obtain ⟨g, hg⟩ := choose_lt' fld
      refine ⟨(List.range m).map g, by simp, fun z hz => ?_, fun j hj => ?_⟩
      · obtain ⟨j, hj, rfl⟩ := List.mem_map.1 hz
        exact (hg j (List.mem_range.1 hj)).2
      · rw [← Go.Deep.add_add, hat j hj, (hg j hj).1]
        simp [hj]
    obtain ⟨g, hg⟩ := choose_lt' row
    have hfl : ∀ l : List Nat, (∀ i ∈ l, i < n) → ((l.map g).flatMap fun r => r.map (Value.int .i64)).length = l.length * m := by
      intro l hl
      induction l with
      | nil => simp
      | cons i l ih =>
        rw [List.map_cons, List.flatMap_cons, List.length_append, ih (fun x hx => hl x (List.mem_cons_of_mem _ hx)), List.length_map, (hg i (hl i (List.mem_cons_self ..))).1, List.length_cons, Nat.add_mul]
        omega
    have hget : ∀ q, ∀ j u, (((List.range q).map g).flatMap fun r => r.map (Value.int .i64))[j]? = some u → q ≤ n → w.cell? (a.add j) = some u := by
      intro q
      induction q with
      | zero => intro j u hu; simp at hu
      | succ q ih =>
        intro j u hu hq
        rw [List.range_succ, List.map_append, List.flatMap_append] at hu
        have hl := hfl (List.range q) (fun i hi => by have := List.mem_range.1 hi; omega)
        rw [List.length_range] at hl
        by_cases hj : j < q * m
        · rw [List.getElem?_append_left (by rw [hl]; exact hj)] at hu
          exact ih j u hu (by omega)
        · rw [List.getElem?_append_right (by rw [hl]; omega), hl] at hu
          simp only [List.map_cons, List.map_nil, List.flatMap_cons, List.flatMap_nil, List.append_nil] at hu
          have hjm : j - q * m < m := by
            have := (List.getElem?_eq_some_iff.1 hu).1
            rw [List.length_map, (hg q (by omega)).1] at this
            exact this
          have := (hg q (by omega)).2.2 (j - q * m) hjm
          rw [show q * m + (j - q * m) = j by omega] at this
          rw [this, hu]
    refine ⟨.inr ⟨_, _, by rw [hx], by simp⟩, (List.range n).map g, by simp, hlc, hcm, (fun e => by cases e), fun r hr => ?_, ?_, fun hn => ?_⟩
    · obtain ⟨i, hi, rfl⟩ := List.mem_map.1 hr
      exact ⟨(hg i (List.mem_range.1 hi)).1, (hg i (List.mem_range.1 hi)).2.1⟩
    · rw [hfl (List.range n) (fun i hi => List.mem_range.1 hi), List.length_range]
    · have h0 := (hg 0 hn).2.2 0 h0m
      have hlen := (hg 0 hn).1
      rw [List.getElem?_eq_getElem (by rw [List.length_map]; omega)] at h0
      obtain ⟨hb, hs⟩ := lt_of_cell h0
      simp only [Nat.zero_mul, Nat.add_zero, Addr.add, if_true] at hb hs
      obtain ⟨ab, ao, asp⟩ := a
      simp only at hb hs
      subst hs
      refine ⟨ab, ao, rfl, hb, fun j u hu => ?_⟩
      have := hget n j u hu (Nat.le_refl _)
      rwa [Addr.add_lit] at this
end
end Go.Proofs.YtclahhkcbkpofaaDoor
