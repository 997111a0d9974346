/- Arguments of any depth (numbers, bools, strings, structs, slices): what a value reads as, once for all types. -/
import Derived.Test.YtclahhkcbkpofaaDoorHWd1
import Derived.SizedLaws
import Derived.ChangeArms
import Derived.Test.YtclahhkcbkpofaaDoorHWd13
import Derived.Test.YtclahhkcbkpofaaDoorHWd5
import Derived.Test.YtclahhkcbkpofaaDoorHWd6
namespace Go.Proofs.YtclahhkcbkpofaaDoor
open Go.RowKit Go.ChangeShapes Go.WideShapes Go.Deep
/-- A shape: a number, a bool, a string, a slice (its element's shape and bytes), a struct as a list of fields. -/
inductive Ty where
  | int (k : IntKind)
  | bool
  | str
  | slice (e : Ty) (bytes : Nat)
  | nil
  | cons (f r : Ty)
def Ty.size : Ty → Nat
  | .nil => 0
  | .cons f r => f.size + r.size
  | _ => 1
structure SlH where
  A : Option Addr
  n : Nat
  c : Nat
def Ty.den : Ty → Type
  | .int _ => Int
  | .bool => Bool
  | .str => ByteArray
  | .slice e _ => SlH × (Nat → e.den)
  | .nil => Unit
  | .cons f r => f.den × r.den
theorem Ty.inh : (t : Ty) → Nonempty t.den
  | .int _ => ⟨(0 : Int)⟩
  | .bool => ⟨false⟩
  | .str => ⟨ByteArray.empty⟩
  | .slice e _ => by
    obtain ⟨x⟩ := Ty.inh e
    exact ⟨(⟨none, 0, 0⟩, fun _ => x)⟩
  | .nil => ⟨()⟩
  | .cons f r => by
    obtain ⟨x⟩ := Ty.inh f
    obtain ⟨y⟩ := Ty.inh r
    exact ⟨(x, y)⟩
def SlH.ok (s : SlH) (bytes : Nat) : Prop := s.n ≤ s.c ∧ s.c ≤ maxLen ∧ s.n * bytes ≤ reachBytes ∧ (s.A = none → s.c = 0)
/-- The cells cs read as d. -/
def Reads (w : World) (B : Nat) : (t : Ty) → t.den → List Value → Prop
  | .int k, d, cs => ∃ z : Int, d = z ∧ cs = [.int k z] ∧ (Lit.int k z).wf = true
  | .bool, d, cs => ∃ b : Bool, d = b ∧ cs = [.bool b]
  | .str, d, cs => ∃ s : ByteArray, d = s ∧ cs = [.string s] ∧ s.size ≤ maxLen ∧ s.size ≤ reachBytes
  | .slice e bytes, d, cs => cs = [.slice d.1.A d.1.n d.1.c] ∧ d.1.ok bytes ∧ (0 < d.1.n → ∃ b off, d.1.A = some ⟨b, off, none⟩ ∧ b < B ∧
      ∀ i, i < d.1.n → ∃ cl : List Value, cl.length = e.size ∧ (∀ j u, cl[j]? = some u → w.cell? ⟨b, off + (i * e.size + j), none⟩ = some u) ∧ Reads w B e (d.2 i) cl)
  | .nil, _, cs => cs = []
  | .cons f r, d, cs => ∃ c1 c2, cs = c1 ++ c2 ∧ c1.length = f.size ∧ Reads w B f d.1 c1 ∧ Reads w B r d.2 c2

theorem Reads.keep {w w' : World} {B B' : Nat} (hB : B ≤ B') (hk : ∀ b o, b < B → w'.cell? ⟨b, o, none⟩ = w.cell? ⟨b, o, none⟩) : ∀ {t : Ty} {d : t.den} {cs : List Value}, Reads w B t d cs → Reads w' B' t d cs
  | .int _, _, _, h => h
  | .bool, _, _, h => h
  | .str, _, _, h => h
  | .slice e bytes, d, cs, h => by
    obtain ⟨h1, h2, h3⟩ := h
    refine ⟨h1, h2, fun hn => ?_⟩
    obtain ⟨b, off, hA, hb, hi⟩ := h3 hn
    refine ⟨b, off, hA, by omega, fun i hin => ?_⟩
    obtain ⟨cl, hl, hc, hr⟩ := hi i hin
    exact ⟨cl, hl, fun j u hu => (hk _ _ hb).trans (hc j u hu), Reads.keep hB hk hr⟩
  | .nil, _, _, h => h
  | .cons f r, d, cs, h => by
    obtain ⟨c1, c2, h1, h2, h3, h4⟩ := h
    exact ⟨c1, c2, h1, h2, Reads.keep hB hk h3, Reads.keep hB hk h4⟩
theorem Reads.below {w w' : World} {t : Ty} {d : t.den} {cs : List Value} (h : Reads w w.heap.size t d cs) (hb : Below w.heap.size w w') : Reads w' w'.heap.size t d cs :=
  h.keep hb.size fun b o hl => hb.cell (p := ⟨b, o, none⟩) hl
theorem Reads.len {w : World} {B : Nat} : ∀ {t : Ty} {d : t.den} {cs : List Value}, Reads w B t d cs → cs.length = t.size
  | .int _, _, _, ⟨_, _, h, _⟩ => by rw [h]; rfl
  | .bool, _, _, ⟨_, _, h⟩ => by rw [h]; rfl
  | .str, _, _, ⟨_, _, h, _⟩ => by rw [h]; rfl
  | .slice _ _, _, _, ⟨h, _⟩ => by rw [h]; rfl
  | .nil, _, _, h => by rw [show _ = [] from h]; rfl
  | .cons f r, d, cs, ⟨c1, c2, h, hl, _, h2⟩ => by
    have := Reads.len h2
    rw [h, List.length_append, hl, this]
    rfl

/-- The cells of what is read. -/
def Ty.cells : (t : Ty) → t.den → List Value
  | .int k, d => [.int k d]
  | .bool, d => [.bool d]
  | .str, d => [.string d]
  | .slice _ _, d => [.slice d.1.A d.1.n d.1.c]
  | .nil, _ => []
  | .cons f r, d => f.cells d.1 ++ r.cells d.2
theorem Reads.cells {w : World} {B : Nat} : ∀ {t : Ty} {d : t.den} {cs : List Value}, Reads w B t d cs → cs = t.cells d
  | .int _, _, _, ⟨_, h, e, _⟩ => by rw [e, h]; rfl
  | .bool, _, _, ⟨_, h, e⟩ => by rw [e, h]; rfl
  | .str, _, _, ⟨_, h, e, _⟩ => by rw [e, h]; rfl
  | .slice _ _, _, _, ⟨h, _⟩ => h
  | .nil, _, _, h => h
  | .cons f r, d, cs, ⟨c1, c2, h, _, h1, h2⟩ => by rw [h, Reads.cells h1, Reads.cells h2]; rfl
theorem Reads.sl {w : World} {B bytes : Nat} {e : Ty} {A : Option Addr} {n c : Nat} {x : Nat → e.den} {cs : List Value} (h : Reads w B (.slice e bytes) (⟨A, n, c⟩, x) cs) (hl : ∀ d : e.den, (e.cells d).length = e.size) :
    Sl w B e.size A n ((List.range n).flatMap fun i => e.cells (x i)) := by
  obtain ⟨_, _, h3⟩ := h
  refine ⟨by rw [flat_length _ e.size (fun i => hl (x i)), List.length_range], fun hn => ?_⟩
  obtain ⟨b, off, hA, hb, hi⟩ := h3 hn
  refine ⟨b, off, hA, hb, fun j u hu => ?_⟩
  have hjl : j < n * e.size := by
    have := (List.getElem?_eq_some_iff.1 hu).1
    rw [flat_length _ e.size (fun i => hl (x i)), List.length_range] at this
    exact this
  have hs : 0 < e.size := by
    rcases Nat.eq_zero_or_pos e.size with h0 | h0
    · rw [h0, Nat.mul_zero] at hjl; omega
    · exact h0
  have hq : j / e.size < n := Nat.div_lt_of_lt_mul (by rw [Nat.mul_comm]; exact hjl)
  have hr : j % e.size < e.size := Nat.mod_lt _ hs
  have hj : j / e.size * e.size + j % e.size = j := by rw [Nat.mul_comm]; exact Nat.div_add_mod j e.size
  obtain ⟨cl, _, hc, hrd⟩ := hi (j / e.size) hq
  rw [← hj] at hu ⊢
  rw [flat_at _ e.size (fun i => hl (x i)) (List.range n) (j / e.size) (j % e.size) (j / e.size) (by simp [hq]) hr] at hu
  refine hc (j % e.size) u ?_
  rw [hrd.cells]
  exact hu
theorem Reads.elem {w : World} {B bytes : Nat} {e : Ty} {A : Option Addr} {n c : Nat} {x : Nat → e.den} {cs : List Value} (h : Reads w B (.slice e bytes) (⟨A, n, c⟩, x) cs) {i : Nat} (hi : i < n) : ∃ cl, Reads w B e (x i) cl := by
  obtain ⟨_, _, h3⟩ := h
  obtain ⟨_, _, _, _, hh⟩ := h3 (show 0 < n by omega)
  obtain ⟨cl, _, _, hr⟩ := hh i hi
  exact ⟨cl, hr⟩

def tyFields (P : Program) (g : TypeId → Option Ty) : List Field → Nat → Option Ty
  | [], _ => some .nil
  | f :: fs, o => if f.offset = o then
      match g f.type with
      | some τ => if P.cellsOf f.type = τ.size then (tyFields P g fs (o + τ.size)).map (.cons τ) else none
      | none => none
    else none
def tyOf (P : Program) : Nat → TypeId → Option Ty
  | 0, _ => none
  | k + 1, t => match P.underlying t with
    | some (.int k) => some (.int k)
    | some .bool => some .bool
    | some .string => some .str
    | some (.slice e) => match tyOf P k e with
      | some τ => if P.cellsOf e = τ.size ∧ 0 < τ.size then some (.slice τ (P.bytesOf e)) else none
      | none => none
    | some (.struct fs) => match tyFields P (tyOf P k) fs.toList 0 with
      | some τ => if P.cellsOf t = τ.size then some τ else none
      | none => none
    | _ => none

section
variable {H : Type} {enc : TypeId × Value → H} {P : Program} {w : World} {base : Nat} {spare : Nat → Bool} {held : Bool}
def Small (P : Program) (t : TypeId) (d : DataW H) : Prop := ∀ n ∈ d.weights P t, n ≤ reachBytes
theorem weights_mem_all {e : TypeId} : ∀ {ds : List (DataW H)} {d : DataW H}, d ∈ ds → ∀ n ∈ d.weights P e, n ∈ DataW.weightsAll P e ds
  | x :: ds, d, hd, n, hn => by
    rw [DataW.weightsAll, List.mem_append]
    rcases List.mem_cons.1 hd with rfl | h
    · exact .inl hn
    · exact .inr (weights_mem_all h n hn)
theorem small_of {ts : List TypeId} {ds : List (DataW H)} (h : (DataW.weightsEach P ts ds).all (· ≤ reachBytes) = true) {j : Nat} {t : TypeId} {d : DataW H} (ht : ts[j]? = some t) (hd : ds[j]? = some d) : Small P t d :=
  fun n hn => by simpa using List.all_eq_true.1 h n (DataW.weights_mem_each ht hd n hn)
end
end Go.Proofs.YtclahhkcbkpofaaDoor
/- Arguments of states, of loose states. -/
namespace Go.Proofs.YtclahhkcbkpofaaDoor
open Go.RowKit
abbrev tArc : Ty := .cons (.int .i64) (.cons (.int .i64) (.cons (.int .i64) .nil))
def arcOf (d : tArc.den) : Arc3 := ((show Int from d.1), (show Int from d.2.1), (show Int from d.2.2.1))
theorem arcs_cells (m : Nat) (f : Nat → tArc.den) : arcsC ((List.range m).map fun q => arcOf (f q)) = (List.range m).flatMap fun q => Ty.cells tArc (f q) := by
  unfold arcsC
  rw [List.flatMap_map]
  rfl
end Go.Proofs.YtclahhkcbkpofaaDoor
/- Arguments of any depth whose bulk is bounded: lengths of all lists in them. -/
namespace Go.Proofs.YtclahhkcbkpofaaDoor
open Go.RowKit Go.ChangeShapes Go.WideShapes Go.Deep
/-- What a bulk bounds. -/
structure BulkLaw {H : Type} (bulk : DataW H → Nat) : Prop where
  len : ∀ es sp : List (DataW H), es.length ≤ bulk (.slice es sp)
  elem : ∀ (es sp : List (DataW H)) d, d ∈ es → bulk d ≤ bulk (.slice es sp)
  part : ∀ (ps : List (DataW H)) d, d ∈ ps → bulk d ≤ bulk (.agg ps)
  str : ∀ s : List UInt8, s.length ≤ bulk (.lit (.string s))
/-- All lists in it have at most M elements. -/
def Few (M : Nat) : (t : Ty) → t.den → Prop
  | .slice e _, d => d.1.n ≤ M ∧ ∀ i, i < d.1.n → Few M e (d.2 i)
  | .cons f r, d => Few M f d.1 ∧ Few M r d.2
  | .str, d => (show ByteArray from d).size ≤ M
  | _, _ => True
section
variable {H : Type} {enc : TypeId × Value → H} {P : Program} {w : World} {base : Nat} {spare : Nat → Bool} {held : Bool}
theorem readb_fields {bulk : DataW H → Nat} (bk : BulkLaw bulk) {M : Nat} {k n : Nat} (ih : ∀ (t : TypeId) (τ : Ty), tyOf P k t = some τ → ∀ (fuel : Nat) (cs : List Value) (x : DataW H × List MemPlace), DataW.trod enc P w base spare held fuel t cs = some x → Small P t x.1 → bulk x.1 ≤ M → ∃ d : τ.den, Reads w w.heap.size τ d cs ∧ Few M τ d) (cs : List Value) :
    ∀ (fs : List Field) (o : Nat) (τ : Ty), tyFields P (tyOf P k) fs o = some τ → cs.length = o + τ.size →
      (∀ f ∈ fs, ∃ y : DataW H × List MemPlace, DataW.trod enc P w base spare held n f.type ((cs.drop f.offset).take (P.cellsOf f.type)) = some y ∧ Small P f.type y.1 ∧ bulk y.1 ≤ M) → ∃ d : τ.den, Reads w w.heap.size τ d (cs.drop o) ∧ Few M τ d
  | [], o, τ, h, hl, _ => by
    rw [tyFields] at h
    injection h with h
    subst h
    exact ⟨(), List.drop_eq_nil_of_le (by rw [hl]; exact Nat.le_refl _), trivial⟩
  | f :: fs, o, τ, h, hl, hf => by
    rw [tyFields] at h
    split at h
    · rename_i ho
      split at h
      · rename_i τ0 h0
        split at h
        · rename_i hc
          cases hr : tyFields P (tyOf P k) fs (o + τ0.size) with
          | none => rw [hr] at h; cases h
          | some τ1 =>
            rw [hr] at h
            injection h with h
            subst h
            have hl' : cs.length = o + τ0.size + τ1.size := by rw [hl]; show o + (τ0.size + τ1.size) = _; omega
            obtain ⟨y, hy, hs, hbk⟩ := hf f (List.mem_cons_self ..)
            obtain ⟨d0, r0, f0⟩ := ih f.type τ0 h0 n _ y hy hs hbk
            obtain ⟨d1, r1, f1⟩ := readb_fields bk ih cs fs (o + τ0.size) τ1 hr hl' (fun g hg => hf g (List.mem_cons_of_mem _ hg))
            rw [hc, ho] at r0
            refine ⟨(d0, d1), ⟨(cs.drop o).take τ0.size, cs.drop (o + τ0.size), ?_, ?_, r0, r1⟩, f0, f1⟩
            · rw [← List.drop_drop, List.take_append_drop]
            · rw [List.length_take, List.length_drop]; omega
        · cases h
      · cases h
    · cases h
theorem readb_of {bulk : DataW H → Nat} (bk : BulkLaw bulk) {M : Nat} : ∀ (k : Nat) (t : TypeId) (τ : Ty), tyOf P k t = some τ → ∀ (fuel : Nat) (cs : List Value) (x : DataW H × List MemPlace), DataW.trod enc P w base spare held fuel t cs = some x → Small P t x.1 → bulk x.1 ≤ M → ∃ d : τ.den, Reads w w.heap.size τ d cs ∧ Few M τ d
  | 0, t, τ, h, _, _, _, _, _, _ => by rw [tyOf] at h; cases h
  | k + 1, t, τ, h, fuel, cs, x, hx, hs, hM => by
    have ih := readb_of bk (M := M) k
    rw [tyOf] at h
    split at h
    · rename_i kk hu
      injection h with h
      subst h
      obtain ⟨z, e, _, wz⟩ := DataW.trod_int hu hx
      exact ⟨z, ⟨z, rfl, e, wz⟩, trivial⟩
    · rename_i hu
      injection h with h
      subst h
      obtain ⟨b, e, _⟩ := DataW.trod_bool hu hx
      exact ⟨b, ⟨b, rfl, e⟩, trivial⟩
    · rename_i hu
      injection h with h
      subst h
      obtain ⟨s, e, ex, hm⟩ := DataW.trod_string hu hx
      subst ex
      refine ⟨s, ⟨s, rfl, e, hm, ?_⟩, ?_⟩
      · have := hs s.data.toList.length (by simp [DataW.weights])
        simpa using this
      · have := bk.str s.data.toList
        have h2 : s.data.toList.length = s.size := rfl
        show s.size ≤ M
        exact Nat.le_trans (by rw [← h2]; exact this) hM
    · rename_i e hu
      split at h
      · rename_i τ0 h0
        split at h
        · rename_i hc
          obtain ⟨hc, hp⟩ := hc
          injection h with h
          subst h
          rcases open_slice hu hx with ⟨hcs, _⟩ | ⟨a, len, cap, mm, nn, D, Pl, hcs, _, hlc, hcm, hmm, ex, hi⟩
          · obtain ⟨x0⟩ := Ty.inh τ0
            exact ⟨(⟨none, 0, 0⟩, fun _ => x0), ⟨hcs, ⟨Nat.le_refl _, Nat.zero_le _, by rw [Nat.zero_mul]; exact Nat.zero_le _, fun _ => rfl⟩, fun h => absurd h (Nat.lt_irrefl _)⟩, Nat.zero_le _, fun i h => absurd h (Nat.not_lt_zero _)⟩
          · have hle : len ≤ mm := by rw [hmm]; split <;> omega
            subst ex
            have hsl : Small P t (DataW.slice ((List.range len).map D) ((List.range (mm - len)).map fun j => D (len + j))) := hs
            have hbytes : len * P.bytesOf e ≤ reachBytes := by
              have := hsl ((((List.range len).map D).length + ((List.range (mm - len)).map fun j => D (len + j)).length) * P.bytesOf e) (by simp [DataW.weights, hu])
              refine Nat.le_trans (Nat.mul_le_mul_right _ ?_) this
              simp
            have row : ∀ i, i < len → ∃ d : τ0.den, ∃ cl : List Value, cl.length = τ0.size ∧ (∀ j u, cl[j]? = some u → w.cell? ((a.add (i * τ0.size)).add j) = some u) ∧ Reads w w.heap.size τ0 d cl ∧ Few M τ0 d := by
              intro i hin
              obtain ⟨cs', hcs', htr⟩ := hi i (by omega)
              rw [hc] at hcs'
              obtain ⟨_, hcl, hat⟩ := World.cells?_some hcs'
              obtain ⟨d, hd, hfw⟩ := ih e τ0 h0 nn cs' _ htr (fun n hn => hsl n (by
                rw [DataW.weights, hu]
                simp only [List.mem_cons, List.mem_append]
                exact .inr (.inl (weights_mem_all (List.mem_map.2 ⟨i, List.mem_range.2 hin, rfl⟩) n hn)))) (Nat.le_trans (bk.elem _ _ _ (List.mem_map.2 ⟨i, List.mem_range.2 hin, rfl⟩)) hM)
              refine ⟨d, cs', hd.len, fun j u hu => ?_, hd, hfw⟩
              have hj : j < τ0.size := by have := (List.getElem?_eq_some_iff.1 hu).1; have := hd.len; omega
              rw [hat j hj, hu]
            haveI : Inhabited τ0.den := ⟨Classical.choice (Ty.inh τ0)⟩
            obtain ⟨g, hg⟩ := choose_lt' row
            refine ⟨(⟨some a, len, cap⟩, g), ⟨hcs, ⟨hlc, hcm, hbytes, fun e => by cases e⟩, fun hn => ?_⟩, by
              have h1 := bk.len ((List.range len).map D) ((List.range (mm - len)).map fun j => D (len + j))
              rw [List.length_map, List.length_range] at h1
              exact Nat.le_trans h1 hM, fun i hin => by
              obtain ⟨cl, _, _, _, h5⟩ := hg i hin
              exact h5⟩
            have hn' : 0 < len := hn
            obtain ⟨cl, hl, hcell, _⟩ := hg 0 hn'
            have h00 := hcell 0 (cl[0]'(by omega)) (List.getElem?_eq_getElem _)
            obtain ⟨hb, hsp⟩ := lt_of_cell h00
            simp only [Nat.zero_mul, Addr.add, if_true] at hb hsp
            obtain ⟨ab, ao, asp⟩ := a
            simp only at hb hsp
            subst hsp
            refine ⟨ab, ao, rfl, hb, fun i hin => ?_⟩
            obtain ⟨cl, hl, hcell, hr, _⟩ := hg i hin
            refine ⟨cl, hl, fun j u hu => ?_, hr⟩
            have := hcell j u hu
            rw [Addr.add_lit, Addr.add_lit, Nat.add_assoc] at this
            exact this
        · cases h
      · cases h
    · rename_i fs hu
      split at h
      · rename_i τ0 h0
        split at h
        · rename_i hc
          injection h with h
          subst h
          obtain ⟨xs, n, _, ex, hl, hxl, hf⟩ := DataW.trod_struct hu hx
          subst ex
          have hS : Small P t (DataW.agg (xs.map (·.1))) := hs
          have hMb : bulk (DataW.agg (xs.map (·.1))) ≤ M := hM
          have := readb_fields bk (n := n) ih cs fs.toList 0 τ0 h0 (by rw [hl, hc, Nat.zero_add]) (fun f hm => by
            obtain ⟨i, hi⟩ := List.mem_iff_getElem?.1 hm
            have hi' : fs[i]? = some f := by simpa using hi
            have hlt : i < xs.length := by rw [hxl]; exact (Array.getElem?_eq_some_iff.1 hi').1
            refine ⟨xs[i], by rw [hf i f hi', List.getElem?_eq_getElem hlt], fun m hm' => hS m ?_, Nat.le_trans (bk.part _ _ (List.mem_map.2 ⟨xs[i], List.getElem_mem hlt, rfl⟩)) hMb⟩
            rw [DataW.weights, hu]
            exact DataW.weights_mem_each (j := i) (t := f.type) (d := xs[i].1) (by simp [hi]) (by simp [hlt]) m hm')
          rwa [List.drop_zero] at this
        · cases h
      · cases h
    · cases h
theorem open_deepb {bulk : DataW H → Nat} (bk : BulkLaw bulk) {M : Nat} {k bytes : Nat} {t : TypeId} {e : Ty} {A : Option Addr} {n c : Nat} {d : DataW H} {p : List MemPlace} (hT : tyOf P k t = some (.slice e bytes)) (h : DataW.Trod enc P w base spare held t (.slice A n c) d p) (hs : Small P t d) (hM : bulk d ≤ M) :
    ∃ x : Nat → e.den, Reads w w.heap.size (.slice e bytes) (⟨A, n, c⟩, x) [.slice A n c] ∧ n ≤ M ∧ ∀ i, i < n → Few M e (x i) := by
  obtain ⟨m, hm⟩ := h
  obtain ⟨⟨⟨A', n', c'⟩, x⟩, hr, hf⟩ := readb_of bk k t _ hT m _ _ hm hs hM
  have e : [Value.slice A n c] = [.slice A' n' c'] := hr.1
  simp only [List.cons.injEq, Value.slice.injEq, and_true] at e
  obtain ⟨rfl, rfl, rfl⟩ := e
  exact ⟨x, hr, hf.1, hf.2⟩
end
end Go.Proofs.YtclahhkcbkpofaaDoor
/- Arguments of loose states, of a bounded bulk. -/
namespace Go.Proofs.YtclahhkcbkpofaaDoor
open Go.RowKit
abbrev tLoose : Ty := .cons .bool (.cons (.slice tArc 24) (.cons (.slice (.int .i64) 8) .nil))
def lshOf (d : tLoose.den) : Lsh := ⟨⟨(show Bool from d.1), (List.range (show SlH from d.2.1.1).n).map fun q => arcOf (d.2.1.2 q), (List.range (show SlH from d.2.2.1.1).n).map fun q => (show Int from d.2.2.1.2 q)⟩, (show SlH from d.2.1.1).A, (show SlH from d.2.1.1).c, (show SlH from d.2.2.1.1).A, (show SlH from d.2.2.1.1).c⟩
end Go.Proofs.YtclahhkcbkpofaaDoor
/- A struct argument of a bounded bulk. -/
namespace Go.Proofs.YtclahhkcbkpofaaDoor
open Go.RowKit Go.ChangeShapes Go.WideShapes Go.Deep
section
variable {H : Type} {enc : TypeId × Value → H} {P : Program} {w : World} {base : Nat} {spare : Nat → Bool} {held : Bool}
theorem open_deepb_struct {bulk : DataW H → Nat} (bk : BulkLaw bulk) {M : Nat} {k : Nat} {t : TypeId} {e : Ty} {cs : Array Value} {d : DataW H} {p : List MemPlace} (hT : tyOf P k t = some e) (h : DataW.Trod enc P w base spare held t (.agg cs) d p) (hs : Small P t d) (hM : bulk d ≤ M) :
    ∃ x : e.den, Reads w w.heap.size e x cs.toList ∧ Few M e x := by
  obtain ⟨m, hm⟩ := h
  obtain ⟨x, hr, hf⟩ := readb_of bk k t _ hT m _ _ hm hs hM
  exact ⟨x, hr, hf⟩
end
end Go.Proofs.YtclahhkcbkpofaaDoor
/- A loose state by value, of a bounded bulk. -/
namespace Go.Proofs.YtclahhkcbkpofaaDoor
open Go.RowKit
theorem ty_loose1 : tyOf Tryd.prog 8 25 = some tLoose := by kernel_rfl
/-- A state whose rows lie in memory. -/
structure OneIn (w : World) (B : Nat) (x : Lsh) : Prop where
  ar : Sl w B 3 x.A x.d.arcs.length (arcsC x.d.arcs) ∧ x.d.arcs.length ≤ x.c ∧ x.d.arcs.length ≤ 1048576
  fr : Sl w B 1 x.F x.d.free.length (x.d.free.map (.int .i64)) ∧ x.d.free.length ≤ x.e ∧ x.d.free.length ≤ 1048576 ∧ (x.F = none → x.d.free.length = 0)
theorem OneIn.keep {w w' : World} {B B' : Nat} {x : Lsh} (h : OneIn w B x) (hb : Below B w w') (hB : B ≤ B') : OneIn w' B' x := ⟨⟨(h.ar.1.below hb).more hB, h.ar.2⟩, ⟨(h.fr.1.below hb).more hB, h.fr.2⟩⟩
theorem one_in {w : World} {x : tLoose.den} {cs : Array Value} (h : Reads w w.heap.size tLoose x cs.toList) (hf : Few 1048576 tLoose x) : cs = #[.bool (lshOf x).d.fin, .slice (lshOf x).A (lshOf x).d.arcs.length (lshOf x).c, .slice (lshOf x).F (lshOf x).d.free.length (lshOf x).e] ∧ OneIn w w.heap.size (lshOf x) := by
  have hal : (lshOf x).d.arcs.length = (show SlH from x.2.1.1).n := by
    show ((List.range _).map _).length = _
    rw [List.length_map, List.length_range]
  have hfl : (lshOf x).d.free.length = (show SlH from x.2.2.1.1).n := by
    show ((List.range _).map _).length = _
    rw [List.length_map, List.length_range]
  have hc : cs.toList = Ty.cells tLoose x := Reads.cells (t := tLoose) h
  refine ⟨?_, ?_, ?_⟩
  · rw [hal, hfl]
    apply Array.toList_inj.1
    rw [hc]
    rfl
  · obtain ⟨c1, c2, _, _, _, hr⟩ := h
    obtain ⟨c3, c4, _, _, hr, _⟩ := hr
    have h1 := hr.sl (e := tArc) (fun d => rfl)
    have h2 := hr.2.1
    have h3 := hf.2.1.1
    refine ⟨?_, by rw [hal]; exact h2.1, by rw [hal]; exact h3⟩
    rw [hal]
    have e := arcs_cells (show SlH from x.2.1.1).n x.2.1.2
    show Sl _ _ 3 _ _ (arcsC ((List.range _).map _))
    rw [e]
    exact h1
  · obtain ⟨c1, c2, _, _, _, hr⟩ := h
    obtain ⟨c3, c4, _, _, _, hr⟩ := hr
    obtain ⟨c5, c6, _, _, hr2, _⟩ := hr
    have h1 := hr2.sl (e := .int .i64) (fun d => rfl)
    have h2 := hr2.2.1
    have h3 := hf.2.2.1.1
    refine ⟨?_, by rw [hfl]; exact h2.1, by rw [hfl]; exact h3, fun e => by rw [hfl]; exact Nat.le_zero.1 (Nat.le_trans h2.1 (Nat.le_of_eq (h2.2.2.2 e)))⟩
    rw [hfl]
    have e : ((lshOf x).d.free.map (Value.int .i64)) = (List.range (show SlH from x.2.2.1.1).n).flatMap fun q => Ty.cells (.int .i64) (x.2.2.1.2 q) := by
      show ((List.range _).map _).map _ = _
      rw [List.map_map, List.map_eq_flatMap]
      rfl
    rw [e]
    exact h1
end Go.Proofs.YtclahhkcbkpofaaDoor
/- The bytes of what is no character. -/
namespace Go.Proofs.YtclahhkcbkpofaaDoor
open Go.RowKit
open Sp
set_option maxRecDepth 100000 in
theorem rencode_no (w : World) (c : Int) (hw : wholeB c = false) : Calls Tryd.prog 32 #[.slice (some ⟨w.heap.size, 0, none⟩) 1 1] (w.alloc (.cells #[.int .i64 c] 3)) fun e w' => e = .returned (.tuple #[.string ⟨#[]⟩, .int .i64 1]) ∧ Below w.heap.size w w' := by
  have HW := Lib.hid (rwhole_any c)
  have HY := Lib.hid hw
  clear hw
  go_enter Tryd.func32, Tryd.ntmps32
  go_wp2_with fail
  refine wp_loop_rounds 2 ?_
  rw [rounds_succ]
  go_wp2_with fail
  refine (HW.out _).mono ?_
  rw [HY.out]
  rintro e w1 ⟨rfl, rfl⟩
  have hB := bnew (brefl w) (.cells #[.int .i64 c] 3)
  go_wp2_with fail
  go_ret2
  exact ⟨by simp, hB⟩
set_option maxRecDepth 100000 in
theorem bytes_no (c : Int) (hw : wholeB c = false) (w : World) : Calls Tryd.prog 13 #[.int .i64 c] w fun e w' => e = .returned (.string ⟨#[]⟩) ∧ Below w.heap.size w w' := by
  have HC := Lib.hid (rencode_no w c hw)
  clear hw
  go_enter Tryd.func13, Tryd.ntmps13
  go_wp2_with fail
  refine HC.out.mono ?_
  rintro e w1 ⟨rfl, hb1⟩
  go_wp2_with fail
  go_ret
  exact ⟨rfl, hb1⟩
end Go.Proofs.YtclahhkcbkpofaaDoor
/- strings.Builder: WriteByte at this program. -/
namespace Go.Proofs.YtclahhkcbkpofaaDoor
open Go.RowKit Go.Shelf
theorem el_u8 : Elem Tryd.prog 91 5 1 1 := Elem.mk_ Tryd.underlying91 (z := .int .u8 0) (by kernel_rfl) rfl (by omega)
set_option maxRecDepth 100000 in
set_option maxHeartbeats 4000000 in
theorem writeb_any (B b : Nat) (bs : List Value) (ch : Int) (w : World) (h : Lib.IsBuilder 93 5 B b bs w) (hlen : bs.length + 1 ≤ 1407374883553) (hBw : B ≤ w.heap.size) :
    Calls Tryd.prog 57 #[.pointer (some ⟨b, 0, none⟩), .int .u8 ch] w fun e w' => e = .returned .nilIface ∧ (Lib.IsBuilder 93 5 B b (bs ++ [.int .u8 ch]) w' ∧ Below B w w' ∧ OthersStand b w w') := by
  go_enter Tryd.func57, Tryd.ntmps57
  go_wp2_with fail
  refine (check_any B b bs _ h).mono ?_
  rintro e w1 ⟨rfl, h1, hb1, ho1⟩
  obtain ⟨hB, v, hbk, hown, hne⟩ := h1
  have c0 : w1.cell? ⟨b, 0, none⟩ = some (.pointer (some ⟨b, 0, none⟩)) := by rw [Lib.cell_of_heap hbk]; rfl
  have c1 : w1.cell? ⟨b, 1, none⟩ = some v := by rw [Lib.cell_of_heap hbk]; rfl
  have hlt : b < w1.heap.size := by
    rcases Nat.lt_or_ge b w1.heap.size with h' | h'
    · exact h'
    · simp [Array.getElem?_eq_none h'] at hbk
  have hbw1 : B ≤ w1.heap.size := Nat.le_trans hBw hb1.size
  obtain ⟨A1, cap1, rfl, _⟩ := own_shape hown
  have hkeep : ∀ w2 : World, w1.grownBy w2 (Value.slice A1 bs.length cap1).ownBlock → w2.heap[b]? = some (.cells #[.pointer (some ⟨b, 0, none⟩), .slice A1 bs.length cap1] 93 (0, 0)) := fun w2 hg => by
    rw [hg.block b hlt (fun e => hne e.symm)]
    exact hbk
  go_wp2_with (at_builtin; refine wpList_push w1 w1 _ rfl _ _ _ rfl el_u8 (.slice A1 bs.length cap1) bs.length bs rfl hown rfl (by simp) rfl (by simp [Value.oneCell']) (by unfold maxLen; omega) (by omega) hbw1 (Below.refl _ _) ?_; intro v' w2 hown' hb2' hgrow _; obtain ⟨A2, cap2, rfl, _⟩ := own_shape hown'; have hb2 := hkeep w2 hgrow; have d1 : w2.cell? ⟨b, 1, none⟩ = some (.slice A1 bs.length cap1) := (Lib.cell_of_heap hb2 1).trans rfl; have f1 : w2.frozen? ⟨b, 1, none⟩ = false := Lib.frozen_of_heap hb2 1)
  go_ret
  refine ⟨rfl, .inr ?_, ?_, ?_⟩
  · exact Lib.BuilderAt.put (T := 93) (e := 5) hB hb2 (bs' := bs ++ [.int .u8 ch]) (by simpa using hown') (by decide)
  · exact (hb1.trans hb2').setCell (p := ⟨b, 1, none⟩) hB _
  · refine ho1.trans fun k cs t f h1 h2 h3 => ?_
    rw [Below.heap_setCell _ _ _ _ h1, hgrow.block k (Array.getElem?_eq_some_iff.1 h3).1 ?_]
    · exact h3
    · intro e
      rcases hown.2 with ⟨hv, _⟩ | ⟨g, cap', cur, hv, _, hg, _⟩
      · injection hv with hv _ _
        subst hv
        cases e
      · injection hv with hv _ _
        subst hv
        simp only [Value.ownBlock, Option.some.injEq] at e
        subst e
        rw [hg] at h3
        injection h3 with h3
        injection h3 with _ h3 _
        exact h2 h3.symm
end Go.Proofs.YtclahhkcbkpofaaDoor
