/- Disk.Restart. -/
import Derived.Test.YtfiphjhpjaddcaaMix
import Derived.Test.YtfiphjhpjaddcaaAwake
namespace Go.Proofs.Ytfiphjhpjaddcaa
open Go.RowKit Go.Maps Go.Sort

theorem names_look0 {H : Type} {w : World} {b n : Nat} {N : DataW H} (h : w.ownsMap Try.prog 9 (plainElem Try.prog 3) b n N) (s : ByteArray) (hs : s.size ≤ maxLen) :
    (Instr.lookup 56 (.map (some b)) (.string s) false).run Try.prog w = .ok (.int .i64 (numOf N s)) w ∧ (Lit.int .i64 (numOf N s)).wf = true := by
  obtain ⟨c, hrun, hc, hw⟩ := h.lookup_int lawS Try.underlying56 Try.underlying3 (zeroI w) (Go.WideMaps.keyOf_string_mk Try.underlying9 hs)
  have e : numOf N s = c := by
    unfold numOf keyS
    rw [hc]
    rfl
  rw [e]
  exact ⟨hrun, hw⟩
/-- A map's keys, rising. -/
def keysOf {H : Type} (N : DataW H) : List ByteArray := ((strKeys N).mergeSort leB).map bs
theorem keysOf_of_perm {H : Type} {N : DataW H} {ss : List (List UInt8)} (h : ss.Perm (strKeys N)) : (ss.mergeSort (fun x y => decide (x ≤ y))).map bs = keysOf N := by
  unfold keysOf
  rw [← mergeSort_of_perm h]
theorem keysOf_length {H : Type} (N : DataW H) : (keysOf N).length = (strKeys N).length := by simp [keysOf]
theorem strKeys_length {H : Type} (N : DataW H) : (strKeys N).length = Maps.size N := by
  cases N <;> simp [strKeys, Maps.size]
/-- One name's fate. -/
def r1 {H : Type} (K N : DataW H) (loss : Int) (st : Int × DataW H) (s : ByteArray) : Int × DataW H :=
  if numOf K s = numOf N s ∧ Maps.has K (keyS s) = Maps.has N (keyS s) then (st.1, if Maps.has K (keyS s) then st.2.put (keyS s) (.lit (.int .i64 (numOf K s))) else st.2)
  else if mixV loss (st.1 + 1) % 2 = 1 then (st.1 + 1, if Maps.has N (keyS s) then st.2.put (keyS s) (.lit (.int .i64 (numOf N s))) else st.2)
  else (st.1 + 1, if Maps.has K (keyS s) then st.2.put (keyS s) (.lit (.int .i64 (numOf K s))) else st.2)
/-- One file's fate. -/
def r2 {H : Type} (N F : DataW H) (loss : Int) (st : Int × DataW H) (s : ByteArray) : Int × DataW H :=
  if Maps.has st.2 (.int .i64 (numOf N s)) then st
  else if 0 < ((fileOf F (numOf N s)).1.length : Int) - (fileOf F (numOf N s)).2 then
    (st.1 + 1, st.2.put (.int .i64 (numOf N s)) (.agg [.lit (.string ((fileOf F (numOf N s)).1.take ((fileOf F (numOf N s)).2 + mixV loss (st.1 + 1) % (((fileOf F (numOf N s)).1.length : Int) - (fileOf F (numOf N s)).2 + 1)).toNat)), .lit (.int .i64 ((fileOf F (numOf N s)).2 + mixV loss (st.1 + 1) % (((fileOf F (numOf N s)).1.length : Int) - (fileOf F (numOf N s)).2 + 1)))]))
  else (st.1, st.2.put (.int .i64 (numOf N s)) (.agg [.lit (.string (fileOf F (numOf N s)).1), .lit (.int .i64 (fileOf F (numOf N s)).1.length)]))
def DS.all {H : Type} (D : DS H) : DataW H := Lib.mergeD D.kept D.names
def DS.half {H : Type} (D : DS H) (loss : Int) : Int × DataW H := (keysOf D.all).foldl (r1 D.kept D.names loss) (0, .map [])
def DS.full {H : Type} (D : DS H) (loss : Int) : Int × DataW H := (keysOf (D.half loss).2).foldl (r2 (D.half loss).2 D.files loss) ((D.half loss).1, .map [])
def DS.restart {H : Type} (D : DS H) (loss : Int) : DS H := { D with files := (D.full loss).2, names := (D.half loss).2, kept := (D.half loss).2, down := false, armed := -1, cap := 2 * D.cap }
theorem Fr.look {G : Foot} {w w' : World} (h : Fr G w w') {b : Nat} (o : Nat) (hb : b < w.heap.size) (h1 : b ≠ G.p) (h2 : b ≠ G.fb) (h3 : b ≠ G.nb) (h4 : b ≠ G.kb) : w'.cell? ⟨b, o, none⟩ = w.cell? ⟨b, o, none⟩ := by
  unfold World.cell?
  rw [h.block b hb h1 h2 h3 h4]
/-- A row of texts that stands beside what turns. -/
def Row (w : World) (A : Option Addr) (xs : List ByteArray) (p q : Nat) : Prop := 0 < xs.length → ∃ b off, A = some ⟨b, off, none⟩ ∧ b ≠ p ∧ b ≠ q ∧ b < w.heap.size ∧ ∀ j s, xs[j]? = some s → w.cell? ⟨b, off + j, none⟩ = some (.string s)
theorem Row.keep {w w' : World} {A : Option Addr} {xs : List ByteArray} {p q : Nat} (h : Row w A xs p q) (hf : Fr ⟨p, q, q, q⟩ w w') : Row w' A xs p q := fun hn => by
  obtain ⟨b, off, e, h1, h2, h3, h4⟩ := h hn
  exact ⟨b, off, e, h1, h2, Nat.lt_of_lt_of_le h3 hf.size, fun j s hj => (hf.look _ h3 h1 h2 h2 h2).trans (h4 j s hj)⟩
theorem row_of {w : World} {base : Nat} {v : Value} {ss : List (List UInt8)} (h : w.ownsRow base 9 1 v ss.length (ss.map encStr)) {p q : Nat} (hp : p < base) (hq : q < base) : ∃ A c, v = .slice A ss.length c ∧ Row w A (ss.map bs) p q := by
  obtain ⟨A, c, rfl, hc⟩ := own_shape h
  refine ⟨A, c, rfl, fun hn => ?_⟩
  obtain ⟨b, off, rfl, hb, hcell⟩ := (Sl.of_own h).at_ (k := 0) (by simpa using hn)
  have hbl := (h.lt b rfl).1
  exact ⟨b, off, rfl, by omega, by omega, hb, fun j s hj => hcell j _ (by
    rw [List.getElem?_map] at hj ⊢
    cases hh : ss[j]? with
    | none => rw [hh] at hj; cases hj
    | some z => rw [hh] at hj; cases hj; rfl)⟩
theorem mapOf_tight {H : Type} {w : World} {P : Program} {b k n : Nat} {R : Value → Option (DataW H × List MemPlace)} {D : DataW H} (h : w.ownsMap P k R b n D) : w.ownsMap P k R b (Maps.size D) D := by
  obtain ⟨es, clock, h1, h2, _, rfl⟩ := h
  exact ⟨es, clock, h1, h2, by simp [Maps.size, length_sorted], rfl⟩
theorem bs_size (l : List UInt8) : (bs l).size = l.length := by
  show l.toArray.size = _
  rw [List.size_toArray]
theorem bs_take (l : List UInt8) (n : Nat) : (bs l).extract 0 n = bs (l.take n) := by
  have h : ((bs l).extract 0 n).data.toList = (bs (l.take n)).data.toList := by simp [bs, ByteArray.data_extract]
  exact tolist_inj.1 (by rw [ByteArray.toList_eq, ByteArray.toList_eq]; exact h)
theorem run_cut (l : List UInt8) (n : Int) (h0 : 0 ≤ n) (h1 : n ≤ (l.length : Int)) (w : World) : (Instr.slice 9 (.string (bs l)) none (some (.int .i64 n)) none).run Try.prog w = .ok (.string (bs (l.take n.toNat))) w := by
  have hb : n ≤ ((bs l).size : Int) := by rw [bs_size]; exact h1
  rw [← bs_take]
  simp [Instr.slice, run_underlying Try.underlying9, Instr.sliceBounds, run_sliceBound, h0, hb]
theorem blk_at {w : World} {b : Nat} {C : Array Value} {t : TypeId} (h : w.heap[b]? = some (.cells C t (0, 0))) : (∀ j, w.frozen? ⟨b, j, none⟩ = false) ∧ b < w.heap.size :=
  ⟨fun j => by unfold World.frozen?; rw [h]; simp, (Array.getElem?_eq_some_iff.1 h).1⟩
theorem map_fr {H : Type} {w w' : World} {G : Foot} {b k n : Nat} {R : Value → Option (DataW H × List MemPlace)} {D : DataW H} (h : w.ownsMap Try.prog k R b n D) (hf : Fr G w w') (h1 : b ≠ G.p) (h2 : b ≠ G.fb) (h3 : b ≠ G.nb) (h4 : b ≠ G.kb) : w'.ownsMap Try.prog k R b n D := by
  obtain ⟨es, clock, e1, e2, e3, e4⟩ := h
  exact ⟨es, clock, (hf.block b (Array.getElem?_eq_some_iff.1 e1).1 h1 h2 h3 h4).trans e1, e2, e3, e4⟩
theorem keysOf_le {H : Type} {w : World} {b n : Nat} {R : Value → Option (DataW H × List MemPlace)} {N : DataW H} (h : w.ownsMap Try.prog 9 R b n N) : ∀ s ∈ keysOf N, s.size ≤ maxLen := by
  intro s hs
  obtain ⟨l, hl, rfl⟩ := List.mem_map.1 hs
  have := strKeys_le h Try.underlying9 l ((List.mergeSort_perm _ _).mem_iff.1 hl)
  show l.toArray.size ≤ maxLen
  rw [List.size_toArray]
  exact this
/-- What stands between two rounds of Restart's loops: a counter in block ib, a map in block nb; all else is as it was. -/
structure Mid {H : Type} (w W : World) (ib nb : Nat) (kt : TypeId) (R : Value → Option (DataW H × List MemPlace)) (wr : World) (i : Int) (N : DataW H) (m : Nat) : Prop where
  below : Below w.heap.size w wr
  fr : Fr ⟨ib, nb, nb, nb⟩ W wr
  cnt : wr.heap[ib]? = some (.cells #[.int .i64 i] 3 (0, 0))
  own : wr.ownsMap Try.prog kt R nb m N
  hi : w.heap.size < ib
  hn : w.heap.size < nb
section
variable {H : Type} {w W wr w' : World} {ib nb : Nat} {kt : TypeId} {R : Value → Option (DataW H × List MemPlace)} {i : Int} {N N' : DataW H} {m m' : Nat}
theorem Mid.ne (h : Mid w W ib nb kt R wr i N m) : nb ≠ ib := map_ne_cells h.own h.cnt
theorem Mid.cell (h : Mid w W ib nb kt R wr i N m) : wr.cell? ⟨ib, 0, none⟩ = some (.int .i64 i) := cell_of_row _ ib 0 _ _ (0, 0) h.cnt
theorem Mid.free (h : Mid w W ib nb kt R wr i N m) : wr.frozen? ⟨ib, 0, none⟩ = false := by
  unfold World.frozen?
  rw [h.cnt]
  simp
theorem Mid.next (h : Mid w W ib nb kt R wr i N m) (j : Int) : Mid w W ib nb kt R (wr.setCell ⟨ib, 0, none⟩ (.int .i64 j)) j N m :=
  ⟨h.below.trans ⟨rfl, rfl, rfl, by simp [World.setCell], fun k hk => Below.heap_setCell _ _ _ _ (by have := h.hi; show k ≠ ib; omega)⟩, h.fr.set 0 _, by rw [blk_set h.cnt]; rfl, h.own.setCell h.ne _, h.hi, h.hn⟩
theorem Mid.put (h : Mid w W ib nb kt R wr i N m) (ho : w'.ownsMap Try.prog kt R nb m' N') (hg : wr.grownBy w' (some nb)) : Mid w W ib nb kt R w' i N' m' :=
  ⟨h.below.trans ⟨hg.os, hg.tape, hg.output, hg.size, fun k hk => hg.block k (by have := h.below.size; omega) (by have := h.hn; simp; omega)⟩, h.fr.grown hg (.inl rfl), by
    rw [hg.block ib (Array.getElem?_eq_some_iff.1 h.cnt).1 (by have := h.ne; simp; omega)]
    exact h.cnt, ho, h.hi, h.hn⟩
theorem Mid.drew (h : Mid w W ib nb kt R wr i N m) : Mid w W ib nb kt R wr.drew i N m :=
  ⟨⟨h.below.os, h.below.tape, h.below.output, h.below.size, h.below.block⟩, ⟨h.fr.os, h.fr.tape, h.fr.output, h.fr.size, h.fr.block⟩, h.cnt, h.own.drew, h.hi, h.hn⟩
theorem Mid.beside (h : Mid w W ib nb kt R wr i N m) {tb : Nat} (hb : W.heap.size ≤ tb) (hw : w.heap.size ≤ W.heap.size) (h1 : tb ≠ ib) (h2 : tb ≠ nb) (j : Nat) (v : Value) : Mid w W ib nb kt R (wr.setCell ⟨tb, j, none⟩ v) i N m :=
  ⟨h.below.trans ⟨rfl, rfl, rfl, by simp [World.setCell], fun k hk => Below.heap_setCell _ _ _ _ (by show k ≠ tb; omega)⟩, ⟨h.fr.os, h.fr.tape, h.fr.output, by simp [World.setCell]; exact h.fr.size, fun k hk e1 e2 e3 e4 => (Below.heap_setCell _ _ _ _ (by show k ≠ tb; omega)).trans (h.fr.block k hk e1 e2 e3 e4)⟩, (Below.heap_setCell _ _ _ _ (by show ib ≠ tb; omega)).trans h.cnt, h.own.setCell (Ne.symm h2) _, h.hi, h.hn⟩
theorem Mid.on (h : Mid w W ib nb kt R wr i N m) (hb : Below wr.heap.size wr w') : Mid w W ib nb kt R w' i N m :=
  ⟨bcall h.below hb, h.fr.trans (Fr.of_below hb), (hb.block ib (Array.getElem?_eq_some_iff.1 h.cnt).1).trans h.cnt, map_below h.own hb, h.hi, h.hn⟩
end
end Go.Proofs.Ytfiphjhpjaddcaa
