/- Arguments of any depth (numbers, bools, strings, structs, slices): what a value reads as, once for all types. -/
import Derived.Test.YtebdffabfimmkaaDoorHDfaBoth1
import Derived.SizedLaws
import Derived.ChangeArms
import Derived.Test.YtebdffabfimmkaaDoorChecked
import Derived.Test.YtebdffabfimmkaaDoorHDfaBoth28
import Derived.Test.YtebdffabfimmkaaDoorHDfaBoth37
import Derived.Test.YtebdffabfimmkaaDoorHDfaBoth24
import Derived.Test.YtebdffabfimmkaaDoorHDfaBoth23
import Derived.Test.YtebdffabfimmkaaDoorHDfaBoth29
import Derived.Test.YtebdffabfimmkaaDoorHDfaBoth7
namespace Go.Proofs.YtebdffabfimmkaaDoor
open Go.RowKit Go.ChangeShapes Go.WideShapes Go.Deep

/-- A shape: a number, a bool, a string, a slice (its element's shape and bytes), a struct as a list of fields. -/
inductive Ty where
  | int (k : IntKind)
  | bool
  | str
  | slice (e : Ty) (bytes : Nat)
  | nil
  | cons (f r : Ty)
def Ty.size : Ty → Nat
  | .nil => 0
  | .cons f r => f.size + r.size
  | _ => 1
structure SlH where
  A : Option Addr
  n : Nat
  c : Nat
def Ty.den : Ty → Type
  | .int _ => Int
  | .bool => Bool
  | .str => ByteArray
  | .slice e _ => SlH × (Nat → e.den)
  | .nil => Unit
  | .cons f r => f.den × r.den
theorem Ty.inh : (t : Ty) → Nonempty t.den
  | .int _ => ⟨(0 : Int)⟩
  | .bool => ⟨false⟩
  | .str => ⟨ByteArray.empty⟩
  | .slice e _ => by
    obtain ⟨x⟩ := Ty.inh e
    exact ⟨(⟨none, 0, 0⟩, fun _ => x)⟩
  | .nil => ⟨()⟩
  | .cons f r => by
    obtain ⟨x⟩ := Ty.inh f
    obtain ⟨y⟩ := Ty.inh r
    exact ⟨(x, y)⟩
def SlH.ok (s : SlH) (bytes : Nat) : Prop := s.n ≤ s.c ∧ s.c ≤ maxLen ∧ s.n * bytes ≤ reachBytes ∧ (s.A = none → s.c = 0)
/-- The cells cs read as d. -/
def Reads (w : World) (B : Nat) : (t : Ty) → t.den → List Value → Prop
  | .int k, d, cs => ∃ z : Int, d = z ∧ cs = [.int k z] ∧ (Lit.int k z).wf = true
  | .bool, d, cs => ∃ b : Bool, d = b ∧ cs = [.bool b]
  | .str, d, cs => ∃ s : ByteArray, d = s ∧ cs = [.string s] ∧ s.size ≤ maxLen ∧ s.size ≤ reachBytes
  | .slice e bytes, d, cs => cs = [.slice d.1.A d.1.n d.1.c] ∧ d.1.ok bytes ∧ (0 < d.1.n → ∃ b off, d.1.A = some ⟨b, off, none⟩ ∧ b < B ∧
      ∀ i, i < d.1.n → ∃ cl : List Value, cl.length = e.size ∧ (∀ j u, cl[j]? = some u → w.cell? ⟨b, off + (i * e.size + j), none⟩ = some u) ∧ Reads w B e (d.2 i) cl)
  | .nil, _, cs => cs = []
  | .cons f r, d, cs => ∃ c1 c2, cs = c1 ++ c2 ∧ c1.length = f.size ∧ Reads w B f d.1 c1 ∧ Reads w B r d.2 c2

theorem Reads.keep {w w' : World} {B B' : Nat} (hB : B ≤ B') (hk : ∀ b o, b < B → w'.cell? ⟨b, o, none⟩ = w.cell? ⟨b, o, none⟩) : ∀ {t : Ty} {d : t.den} {cs : List Value}, Reads w B t d cs → Reads w' B' t d cs
  | .int _, _, _, h => h
  | .bool, _, _, h => h
  | .str, _, _, h => h
  | .slice e bytes, d, cs, h => by
    obtain ⟨h1, h2, h3⟩ := h
    refine ⟨h1, h2, fun hn => ?_⟩
    obtain ⟨b, off, hA, hb, hi⟩ := h3 hn
    refine ⟨b, off, hA, by omega, fun i hin => ?_⟩
    obtain ⟨cl, hl, hc, hr⟩ := hi i hin
    exact ⟨cl, hl, fun j u hu => (hk _ _ hb).trans (hc j u hu), Reads.keep hB hk hr⟩
  | .nil, _, _, h => h
  | .cons f r, d, cs, h => by
    obtain ⟨c1, c2, h1, h2, h3, h4⟩ := h
    exact ⟨c1, c2, h1, h2, Reads.keep hB hk h3, Reads.keep hB hk h4⟩
theorem Reads.below {w w' : World} {t : Ty} {d : t.den} {cs : List Value} (h : Reads w w.heap.size t d cs) (hb : Below w.heap.size w w') : Reads w' w'.heap.size t d cs :=
  h.keep hb.size fun b o hl => hb.cell (p := ⟨b, o, none⟩) hl
theorem Reads.len {w : World} {B : Nat} : ∀ {t : Ty} {d : t.den} {cs : List Value}, Reads w B t d cs → cs.length = t.size
  | .int _, _, _, ⟨_, _, h, _⟩ => by rw [h]; rfl
  | .bool, _, _, ⟨_, _, h⟩ => by rw [h]; rfl
  | .str, _, _, ⟨_, _, h, _⟩ => by rw [h]; rfl
  | .slice _ _, _, _, ⟨h, _⟩ => by rw [h]; rfl
  | .nil, _, _, h => by rw [show _ = [] from h]; rfl
  | .cons f r, d, cs, ⟨c1, c2, h, hl, _, h2⟩ => by
    have := Reads.len h2
    rw [h, List.length_append, hl, this]
    rfl

/-- The cells of what is read. -/
def Ty.cells : (t : Ty) → t.den → List Value
  | .int k, d => [.int k d]
  | .bool, d => [.bool d]
  | .str, d => [.string d]
  | .slice _ _, d => [.slice d.1.A d.1.n d.1.c]
  | .nil, _ => []
  | .cons f r, d => f.cells d.1 ++ r.cells d.2
theorem Reads.cells {w : World} {B : Nat} : ∀ {t : Ty} {d : t.den} {cs : List Value}, Reads w B t d cs → cs = t.cells d
  | .int _, _, _, ⟨_, h, e, _⟩ => by rw [e, h]; rfl
  | .bool, _, _, ⟨_, h, e⟩ => by rw [e, h]; rfl
  | .str, _, _, ⟨_, h, e, _⟩ => by rw [e, h]; rfl
  | .slice _ _, _, _, ⟨h, _⟩ => h
  | .nil, _, _, h => h
  | .cons f r, d, cs, ⟨c1, c2, h, _, h1, h2⟩ => by rw [h, Reads.cells h1, Reads.cells h2]; rfl
theorem Reads.sl {w : World} {B bytes : Nat} {e : Ty} {A : Option Addr} {n c : Nat} {x : Nat → e.den} {cs : List Value} (h : Reads w B (.slice e bytes) (⟨A, n, c⟩, x) cs) (hl : ∀ d : e.den, (e.cells d).length = e.size) :
    Sl w B e.size A n ((List.range n).flatMap fun i => e.cells (x i)) := by
  obtain ⟨_, _, h3⟩ := h
  refine ⟨by rw [flat_length _ e.size (fun i => hl (x i)), List.length_range], fun hn => ?_⟩
  obtain ⟨b, off, hA, hb, hi⟩ := h3 hn
  refine ⟨b, off, hA, hb, fun j u hu => ?_⟩
  have hjl : j < n * e.size := by
    have := (List.getElem?_eq_some_iff.1 hu).1
    rw [flat_length _ e.size (fun i => hl (x i)), List.length_range] at this
    exact this
  have hs : 0 < e.size := by
    rcases Nat.eq_zero_or_pos e.size with h0 | h0
    · rw [h0, Nat.mul_zero] at hjl; omega
    · exact h0
  have hq : j / e.size < n := Nat.div_lt_of_lt_mul (by rw [Nat.mul_comm]; exact hjl)
  have hr : j % e.size < e.size := Nat.mod_lt _ hs
  have hj : j / e.size * e.size + j % e.size = j := by rw [Nat.mul_comm]; exact Nat.div_add_mod j e.size
  obtain ⟨cl, _, hc, hrd⟩ := hi (j / e.size) hq
  rw [← hj] at hu ⊢
  rw [flat_at _ e.size (fun i => hl (x i)) (List.range n) (j / e.size) (j % e.size) (j / e.size) (by simp [hq]) hr] at hu
  refine hc (j % e.size) u ?_
  rw [hrd.cells]
  exact hu
theorem Reads.elem {w : World} {B bytes : Nat} {e : Ty} {A : Option Addr} {n c : Nat} {x : Nat → e.den} {cs : List Value} (h : Reads w B (.slice e bytes) (⟨A, n, c⟩, x) cs) {i : Nat} (hi : i < n) : ∃ cl, Reads w B e (x i) cl := by
  obtain ⟨_, _, h3⟩ := h
  obtain ⟨_, _, _, _, hh⟩ := h3 (show 0 < n by omega)
  obtain ⟨cl, _, _, hr⟩ := hh i hi
  exact ⟨cl, hr⟩

def tyFields (P : Program) (g : TypeId → Option Ty) : List Field → Nat → Option Ty
  | [], _ => some .nil
  | f :: fs, o => if f.offset = o then
      match g f.type with
      | some τ => if P.cellsOf f.type = τ.size then (tyFields P g fs (o + τ.size)).map (.cons τ) else none
      | none => none
    else none
def tyOf (P : Program) : Nat → TypeId → Option Ty
  | 0, _ => none
  | k + 1, t => match P.underlying t with
    | some (.int k) => some (.int k)
    | some .bool => some .bool
    | some .string => some .str
    | some (.slice e) => match tyOf P k e with
      | some τ => if P.cellsOf e = τ.size ∧ 0 < τ.size then some (.slice τ (P.bytesOf e)) else none
      | none => none
    | some (.struct fs) => match tyFields P (tyOf P k) fs.toList 0 with
      | some τ => if P.cellsOf t = τ.size then some τ else none
      | none => none
    | _ => none

section
variable {H : Type} {enc : TypeId × Value → H} {P : Program} {w : World} {base : Nat} {spare : Nat → Bool} {held : Bool}
def Small (P : Program) (t : TypeId) (d : DataW H) : Prop := ∀ n ∈ d.weights P t, n ≤ reachBytes
theorem weights_mem_all {e : TypeId} : ∀ {ds : List (DataW H)} {d : DataW H}, d ∈ ds → ∀ n ∈ d.weights P e, n ∈ DataW.weightsAll P e ds
  | x :: ds, d, hd, n, hn => by
    rw [DataW.weightsAll, List.mem_append]
    rcases List.mem_cons.1 hd with rfl | h
    · exact .inl hn
    · exact .inr (weights_mem_all h n hn)
theorem reads_fields {k n : Nat} (ih : ∀ (t : TypeId) (τ : Ty), tyOf P k t = some τ → ∀ (fuel : Nat) (cs : List Value) (x : DataW H × List MemPlace), DataW.trod enc P w base spare held fuel t cs = some x → Small P t x.1 → ∃ d : τ.den, Reads w w.heap.size τ d cs) (cs : List Value) :
    ∀ (fs : List Field) (o : Nat) (τ : Ty), tyFields P (tyOf P k) fs o = some τ → cs.length = o + τ.size →
      (∀ f ∈ fs, ∃ y : DataW H × List MemPlace, DataW.trod enc P w base spare held n f.type ((cs.drop f.offset).take (P.cellsOf f.type)) = some y ∧ Small P f.type y.1) → ∃ d : τ.den, Reads w w.heap.size τ d (cs.drop o)
  | [], o, τ, h, hl, _ => by
    rw [tyFields] at h
    injection h with h
    subst h
    exact ⟨(), List.drop_eq_nil_of_le (by rw [hl]; exact Nat.le_refl _)⟩
  | f :: fs, o, τ, h, hl, hf => by
    rw [tyFields] at h
    split at h
    · rename_i ho
      split at h
      · rename_i τ0 h0
        split at h
        · rename_i hc
          cases hr : tyFields P (tyOf P k) fs (o + τ0.size) with
          | none => rw [hr] at h; cases h
          | some τ1 =>
            rw [hr] at h
            injection h with h
            subst h
            have hl' : cs.length = o + τ0.size + τ1.size := by rw [hl]; show o + (τ0.size + τ1.size) = _; omega
            obtain ⟨y, hy, hs⟩ := hf f (List.mem_cons_self ..)
            obtain ⟨d0, r0⟩ := ih f.type τ0 h0 n _ y hy hs
            obtain ⟨d1, r1⟩ := reads_fields ih cs fs (o + τ0.size) τ1 hr hl' (fun g hg => hf g (List.mem_cons_of_mem _ hg))
            rw [hc, ho] at r0
            refine ⟨(d0, d1), (cs.drop o).take τ0.size, cs.drop (o + τ0.size), ?_, ?_, r0, r1⟩
            · rw [← List.drop_drop, List.take_append_drop]
            · rw [List.length_take, List.length_drop]; omega
        · cases h
      · cases h
    · cases h
theorem reads_of : ∀ (k : Nat) (t : TypeId) (τ : Ty), tyOf P k t = some τ → ∀ (fuel : Nat) (cs : List Value) (x : DataW H × List MemPlace), DataW.trod enc P w base spare held fuel t cs = some x → Small P t x.1 → ∃ d : τ.den, Reads w w.heap.size τ d cs
  | 0, t, τ, h, _, _, _, _, _ => by rw [tyOf] at h; cases h
  | k + 1, t, τ, h, fuel, cs, x, hx, hs => by
    have ih := reads_of k
    rw [tyOf] at h
    split at h
    · rename_i kk hu
      injection h with h
      subst h
      obtain ⟨z, e, _, wz⟩ := DataW.trod_int hu hx
      exact ⟨z, z, rfl, e, wz⟩
    · rename_i hu
      injection h with h
      subst h
      obtain ⟨b, e, _⟩ := DataW.trod_bool hu hx
      exact ⟨b, b, rfl, e⟩
    · rename_i hu
      injection h with h
      subst h
      obtain ⟨s, e, ex, hm⟩ := DataW.trod_string hu hx
      subst ex
      refine ⟨s, s, rfl, e, hm, ?_⟩
      have := hs s.data.toList.length (by simp [DataW.weights])
      simpa using this
    · rename_i e hu
      split at h
      · rename_i τ0 h0
        split at h
        · rename_i hc
          obtain ⟨hc, hp⟩ := hc
          injection h with h
          subst h
          rcases open_slice hu hx with ⟨hcs, _⟩ | ⟨a, len, cap, mm, nn, D, Pl, hcs, _, hlc, hcm, hmm, ex, hi⟩
          · obtain ⟨x0⟩ := Ty.inh τ0
            exact ⟨(⟨none, 0, 0⟩, fun _ => x0), hcs, ⟨Nat.le_refl _, Nat.zero_le _, by rw [Nat.zero_mul]; exact Nat.zero_le _, fun _ => rfl⟩, fun h => absurd h (Nat.lt_irrefl _)⟩
          · have hle : len ≤ mm := by rw [hmm]; split <;> omega
            subst ex
            have hsl : Small P t (DataW.slice ((List.range len).map D) ((List.range (mm - len)).map fun j => D (len + j))) := hs
            have hbytes : len * P.bytesOf e ≤ reachBytes := by
              have := hsl ((((List.range len).map D).length + ((List.range (mm - len)).map fun j => D (len + j)).length) * P.bytesOf e) (by simp [DataW.weights, hu])
              refine Nat.le_trans (Nat.mul_le_mul_right _ ?_) this
              simp
            have row : ∀ i, i < len → ∃ d : τ0.den, ∃ cl : List Value, cl.length = τ0.size ∧ (∀ j u, cl[j]? = some u → w.cell? ((a.add (i * τ0.size)).add j) = some u) ∧ Reads w w.heap.size τ0 d cl := by
              intro i hin
              obtain ⟨cs', hcs', htr⟩ := hi i (by omega)
              rw [hc] at hcs'
              obtain ⟨_, hcl, hat⟩ := World.cells?_some hcs'
              obtain ⟨d, hd⟩ := ih e τ0 h0 nn cs' _ htr (fun n hn => hsl n (by
                rw [DataW.weights, hu]
                simp only [List.mem_cons, List.mem_append]
                exact .inr (.inl (weights_mem_all (List.mem_map.2 ⟨i, List.mem_range.2 hin, rfl⟩) n hn))))
              refine ⟨d, cs', hd.len, fun j u hu => ?_, hd⟩
              have hj : j < τ0.size := by have := (List.getElem?_eq_some_iff.1 hu).1; have := hd.len; omega
              rw [hat j hj, hu]
            haveI : Inhabited τ0.den := ⟨Classical.choice (Ty.inh τ0)⟩
            obtain ⟨g, hg⟩ := choose_lt' row
            refine ⟨(⟨some a, len, cap⟩, g), hcs, ⟨hlc, hcm, hbytes, fun e => by cases e⟩, fun hn => ?_⟩
            have hn' : 0 < len := hn
            obtain ⟨cl, hl, hcell, _⟩ := hg 0 hn'
            have h00 := hcell 0 (cl[0]'(by omega)) (List.getElem?_eq_getElem _)
            obtain ⟨hb, hsp⟩ := lt_of_cell h00
            simp only [Nat.zero_mul, Addr.add, if_true] at hb hsp
            obtain ⟨ab, ao, asp⟩ := a
            simp only at hb hsp
            subst hsp
            refine ⟨ab, ao, rfl, hb, fun i hin => ?_⟩
            obtain ⟨cl, hl, hcell, hr⟩ := hg i hin
            refine ⟨cl, hl, fun j u hu => ?_, hr⟩
            have := hcell j u hu
            rw [Addr.add_lit, Addr.add_lit, Nat.add_assoc] at this
            exact this
        · cases h
      · cases h
    · rename_i fs hu
      split at h
      · rename_i τ0 h0
        split at h
        · rename_i hc
          injection h with h
          subst h
          obtain ⟨xs, n, _, ex, hl, hxl, hf⟩ := DataW.trod_struct hu hx
          subst ex
          have hS : Small P t (DataW.agg (xs.map (·.1))) := hs
          have := reads_fields (n := n) ih cs fs.toList 0 τ0 h0 (by rw [hl, hc, Nat.zero_add]) (fun f hm => by
            obtain ⟨i, hi⟩ := List.mem_iff_getElem?.1 hm
            have hi' : fs[i]? = some f := by simpa using hi
            have hlt : i < xs.length := by rw [hxl]; exact (Array.getElem?_eq_some_iff.1 hi').1
            refine ⟨xs[i], by rw [hf i f hi', List.getElem?_eq_getElem hlt], fun m hm' => hS m ?_⟩
            rw [DataW.weights, hu]
            exact DataW.weights_mem_each (j := i) (t := f.type) (d := xs[i].1) (by simp [hi]) (by simp [hlt]) m hm')
          rwa [List.drop_zero] at this
        · cases h
      · cases h
    · cases h
theorem small_of {ts : List TypeId} {ds : List (DataW H)} (h : (DataW.weightsEach P ts ds).all (· ≤ reachBytes) = true) {j : Nat} {t : TypeId} {d : DataW H} (ht : ts[j]? = some t) (hd : ds[j]? = some d) : Small P t d :=
  fun n hn => by simpa using List.all_eq_true.1 h n (DataW.weights_mem_each ht hd n hn)
theorem open_deep {k bytes : Nat} {t : TypeId} {e : Ty} {A : Option Addr} {n c : Nat} {d : DataW H} {p : List MemPlace} (hT : tyOf P k t = some (.slice e bytes)) (h : DataW.Trod enc P w base spare held t (.slice A n c) d p) (hs : Small P t d) :
    ∃ x : Nat → e.den, Reads w w.heap.size (.slice e bytes) (⟨A, n, c⟩, x) [.slice A n c] := by
  obtain ⟨m, hm⟩ := h
  obtain ⟨⟨⟨A', n', c'⟩, x⟩, hr⟩ := reads_of k t _ hT m _ _ hm hs
  have e : [Value.slice A n c] = [.slice A' n' c'] := hr.1
  simp only [List.cons.injEq, Value.slice.injEq, and_true] at e
  obtain ⟨rfl, rfl, rfl⟩ := e
  exact ⟨x, hr⟩
/-- A struct argument. -/
theorem open_deep_struct {k : Nat} {t : TypeId} {e : Ty} {cs : Array Value} {d : DataW H} {p : List MemPlace} (hT : tyOf P k t = some e) (h : DataW.Trod enc P w base spare held t (.agg cs) d p) (hs : Small P t d) :
    ∃ x : e.den, Reads w w.heap.size e x cs.toList := by
  obtain ⟨m, hm⟩ := h
  obtain ⟨x, hr⟩ := reads_of k t _ hT m _ _ hm hs
  exact ⟨x, hr⟩
end
end Go.Proofs.YtebdffabfimmkaaDoor
/- Arguments of texts. -/
namespace Go.Proofs.YtebdffabfimmkaaDoor
open Go.RowKit Go.Maps

theorem ty_texts : tyOf Tryd.prog 8 43 = some (.slice .str 16) := by kernel_rfl
/-- An argument of texts. -/
structure TextsIn (w : World) (A : Option Addr) (n c : Nat) (x : Nat → ByteArray) : Prop where
  nc : n ≤ c
  cm : c ≤ maxLen
  rb : n * 16 ≤ reachBytes
  sl : Sl w w.heap.size 1 A n ((List.range n).map fun i => .string (x i))
  sz : ∀ i, i < n → (x i).size ≤ reachBytes
theorem texts_in {w : World} {A : Option Addr} {n c : Nat} {x : Nat → Ty.str.den} {cs : List Value} (h : Reads w w.heap.size (.slice .str 16) (⟨A, n, c⟩, x) cs) : TextsIn w A n c x := by
  have hs := h.sl (e := .str) (fun d => rfl)
  refine ⟨h.2.1.1, h.2.1.2.1, h.2.1.2.2.1, ?_, fun i hi => ?_⟩
  · have e : ((List.range n).flatMap fun i => Ty.cells .str (x i)) = (List.range n).map fun i => .string (x i) := by
      rw [List.map_eq_flatMap]
      rfl
    rw [← e]
    exact hs
  · obtain ⟨cl, z, hz, _, h1, h2⟩ := h.elem hi
    have hz' : (x i : ByteArray) = z := hz
    rw [hz']
    exact h2
/-- One of the texts. -/
theorem TextsIn.get {w W : World} {A : Option Addr} {n c : Nat} {x : Nat → ByteArray} (h : TextsIn w A n c x) (hb : Below w.heap.size w W) {i : Nat} (hi : i < n) : ∃ b off t, A = some ⟨b, off, none⟩ ∧ b < W.heap.size ∧ x i = ⟨(t : List UInt8).toArray⟩ ∧ t.length ≤ 1125899906842624 ∧ W.cell? ⟨b, off + i, none⟩ = some (.string ⟨t.toArray⟩) := by
  obtain ⟨b, off, hA, hb0, hcell⟩ := h.sl.at_ hi
  have hc0 := hcell i (.string (x i)) (by rw [List.getElem?_map, List.getElem?_range hi]; rfl)
  have ht : x i = ⟨(x i).data.toList.toArray⟩ := by cases x i; simp
  refine ⟨b, off, (x i).data.toList, hA, Nat.lt_of_lt_of_le hb0 hb.size, ht, ?_, ?_⟩
  · have h1 := h.sz i hi
    have h2 : (x i).data.toList.length = (x i).size := rfl
    rw [h2]
    unfold reachBytes at h1
    omega
  · rw [← ht]
    exact (hb.cell (p := ⟨b, off + i, none⟩) hb0).trans hc0
end Go.Proofs.YtebdffabfimmkaaDoor
/- The loop of DfaMeets over the texts. -/
namespace Go.Proofs.YtebdffabfimmkaaDoor
open Go.RowKit Go.Maps

set_option linter.unusedVariables false in
set_option maxRecDepth 100000 in
set_option maxHeartbeats 8000000 in
theorem meets_loop (w W0 : World) (h0 : Below w.heap.size w W0) (A A' Ax Al : Option Addr) (n c n' c' nx cx nl cl : Nat) (H H' X L : List Sh) (HA : Hid (StsIn W0 W0.heap.size A n c H)) (HA' : Hid (StsIn W0 W0.heap.size A' n' c' H')) (HX : Hid (StsIn W0 W0.heap.size Ax nx cx X)) (HL : Hid (StsIn W0 W0.heap.size Al nl cl L))
    (At : Option Addr) (m ct : Nat) (y : Nat → ByteArray) (HT : Hid (TextsIn w At m ct y)) (HPX : Hid (∀ t, takesB (X.map (·.d)) t = (takesB (H.map (·.d)) t && takesB (H'.map (·.d)) t))) (HPL : Hid (∀ t, takesB (L.map (·.d)) t = takesB (H.map (·.d)) t))
    (c3 c4 c5 c8 c10 c11 c12 c13 c14 c18 c19 c20 c21 c22 c23 c24 c25 c26 c27 c28 c29 c30 c31 c32 c33 c34 c35 c36 c37 c38 c39 c40 c41 c42 c43 c44 c45 c46 c47 c48 c49 c50 c51 c52 c53 c54 c55 c56 c57 c58 c59 c60 c61 c62 c63 c64 c65 c66 c67 c68 c69 c70 c71 c72 c73 c74 c75 c76 c77 c78 c79 c80 c81 c82 c83 c84 c85 c86 c87 c88 c89 c90 c91 c92 c93 c94 c95 c96 c97 c98 c99 c100 c101 c102 c103 c104 c105 c106 c107 u6 u16 u17 u108 u109 u110 u111 u112 u113 u114 u115 u116 u117 u118 u119 u120 u121 u122 u123 u124 u125 u126 u127 u128 u129 u130 u131 u132 u133 u134 u135 u136 u137 u138 u139 u140 u141 u142 u143 u144 u145 u146 u147 u148 u149 u150 : Value) (Q0 : Exit → Act → World → Prop) (hQ0 : ∀ c (a a' : Act) w, a.defers = a'.defers → Q0 (.panic c) a w → Q0 (.panic c) a' w)
    (hexit : ∀ (i : Nat) (W : World) (u6 u16 u17 u108 u109 u110 u111 u112 u113 u114 u115 u116 u117 u118 u119 u120 u121 u122 u123 u124 u125 u126 u127 u128 u129 u130 u131 u132 u133 u134 u135 u136 u137 u138 u139 u140 u141 u142 u143 u144 u145 u146 u147 u148 u149 u150 : Value), Hid (Below W0.heap.size W0 W) → Q0 (.exit 0) ⟨List.toArray (.slice A n c :: .slice A' n' c' :: .slice At m ct :: c3 :: c4 :: c5 :: u6 :: .slice Ax nx cx :: c8 :: .slice Al nl cl :: c10 :: c11 :: c12 :: c13 :: c14 :: .int .i64 (i : Int) :: u16 :: u17 :: c18 :: c19 :: c20 :: c21 :: c22 :: c23 :: c24 :: c25 :: c26 :: c27 :: c28 :: c29 :: c30 :: c31 :: c32 :: c33 :: c34 :: c35 :: c36 :: c37 :: c38 :: c39 :: c40 :: c41 :: c42 :: c43 :: c44 :: c45 :: c46 :: c47 :: c48 :: c49 :: c50 :: c51 :: c52 :: c53 :: c54 :: c55 :: c56 :: c57 :: c58 :: c59 :: c60 :: c61 :: c62 :: c63 :: c64 :: c65 :: c66 :: c67 :: c68 :: c69 :: c70 :: c71 :: c72 :: c73 :: c74 :: c75 :: c76 :: c77 :: c78 :: c79 :: c80 :: c81 :: c82 :: c83 :: c84 :: c85 :: c86 :: c87 :: c88 :: c89 :: c90 :: c91 :: c92 :: c93 :: c94 :: c95 :: c96 :: c97 :: c98 :: c99 :: c100 :: c101 :: c102 :: c103 :: c104 :: c105 :: c106 :: c107 :: u108 :: u109 :: u110 :: u111 :: u112 :: u113 :: u114 :: u115 :: u116 :: u117 :: u118 :: u119 :: u120 :: u121 :: u122 :: u123 :: u124 :: u125 :: u126 :: u127 :: u128 :: u129 :: u130 :: u131 :: u132 :: u133 :: u134 :: u135 :: u136 :: u137 :: u138 :: u139 :: u140 :: u141 :: u142 :: u143 :: u144 :: u145 :: u146 :: u147 :: u148 :: u149 :: u150 :: []), []⟩ W) :
    Code.wp Tryd.prog (.loop (loopOf Tryd.f7 0)) Q0 ⟨List.toArray (.slice A n c :: .slice A' n' c' :: .slice At m ct :: c3 :: c4 :: c5 :: u6 :: .slice Ax nx cx :: c8 :: .slice Al nl cl :: c10 :: c11 :: c12 :: c13 :: c14 :: .int .i64 (0 : Int) :: u16 :: u17 :: c18 :: c19 :: c20 :: c21 :: c22 :: c23 :: c24 :: c25 :: c26 :: c27 :: c28 :: c29 :: c30 :: c31 :: c32 :: c33 :: c34 :: c35 :: c36 :: c37 :: c38 :: c39 :: c40 :: c41 :: c42 :: c43 :: c44 :: c45 :: c46 :: c47 :: c48 :: c49 :: c50 :: c51 :: c52 :: c53 :: c54 :: c55 :: c56 :: c57 :: c58 :: c59 :: c60 :: c61 :: c62 :: c63 :: c64 :: c65 :: c66 :: c67 :: c68 :: c69 :: c70 :: c71 :: c72 :: c73 :: c74 :: c75 :: c76 :: c77 :: c78 :: c79 :: c80 :: c81 :: c82 :: c83 :: c84 :: c85 :: c86 :: c87 :: c88 :: c89 :: c90 :: c91 :: c92 :: c93 :: c94 :: c95 :: c96 :: c97 :: c98 :: c99 :: c100 :: c101 :: c102 :: c103 :: c104 :: c105 :: c106 :: c107 :: u108 :: u109 :: u110 :: u111 :: u112 :: u113 :: u114 :: u115 :: u116 :: u117 :: u118 :: u119 :: u120 :: u121 :: u122 :: u123 :: u124 :: u125 :: u126 :: u127 :: u128 :: u129 :: u130 :: u131 :: u132 :: u133 :: u134 :: u135 :: u136 :: u137 :: u138 :: u139 :: u140 :: u141 :: u142 :: u143 :: u144 :: u145 :: u146 :: u147 :: u148 :: u149 :: u150 :: []), []⟩ W0 := by
  have HB0 := Lib.hid h0
  have hmc := HT.out.nc
  have hmb : m ≤ 1125899906842624 := by
    have := HT.out.rb
    unfold reachBytes at this
    omega
  conv => arg 2; arg 1; whnf
  go_loopw [15] (fun iv wr => ∃ i : Nat, i ≤ 20 ∧ iv = .int .i64 i ∧ Hid (Below W0.heap.size W0 wr)) (fun iv _ => 20 - (intOf iv).toNat)
  case atStart => exact ⟨0, Nat.zero_le _, rfl, brefl W0⟩
  case round =>
    obtain ⟨i, hi, rfl, HB⟩ := hrel
    by_cases hm : i < m
    · have hm2 : (i : Int) < (m : Int) := by omega
      have q0 : decide ((i : Int) < (m : Int)) = true := decide_eq_true hm2
      have q01 : decide (i < m) = true := decide_eq_true hm
      by_cases h20 : i < 20
      · have q1 : decide ((i : Int) < 20) = true := decide_eq_true (by omega)
        have q11 : decide (i < 20) = true := decide_eq_true h20
        obtain ⟨b, off, t, rfl, hbw, ht, htl, d0⟩ := HT.out.get (bcall HB0.out HB.out) hm
        have HTX := Lib.hid (HPX.out t)
        have HTL := Lib.hid (HPL.out t)
        obtain ⟨p, hp⟩ : ∃ p, takesB (H.map (·.d)) t = p := ⟨_, rfl⟩
        obtain ⟨q, hq⟩ : ∃ p, takesB (H'.map (·.d)) t = p := ⟨_, rfl⟩
        rw [hp, hq] at HTX
        rw [hp] at HTL
        have HAC : Hid (∀ W, Below wr.heap.size wr W → Calls Tryd.prog 11 #[.slice A n c, .string ⟨t.toArray⟩] W fun e w' => e = .returned (.bool p) ∧ Below wr.heap.size wr w') := fun W hW => by
          have h1 := bcall HB.out hW
          refine (accepts_any W W0.heap.size h1.size A n c H (HA.out.keep h1 (Nat.le_refl _)) t htl).mono ?_
          rintro e w' ⟨rfl, hb⟩
          exact ⟨by rw [hp], bcall hW hb⟩
        have HAC' : Hid (∀ W, Below wr.heap.size wr W → Calls Tryd.prog 11 #[.slice A' n' c', .string ⟨t.toArray⟩] W fun e w' => e = .returned (.bool q) ∧ Below wr.heap.size wr w') := fun W hW => by
          have h1 := bcall HB.out hW
          refine (accepts_any W W0.heap.size h1.size A' n' c' H' (HA'.out.keep h1 (Nat.le_refl _)) t htl).mono ?_
          rintro e w' ⟨rfl, hb⟩
          exact ⟨by rw [hq], bcall hW hb⟩
        have HACX : Hid (∀ W, Below wr.heap.size wr W → Calls Tryd.prog 11 #[.slice Ax nx cx, .string ⟨t.toArray⟩] W fun e w' => e = .returned (.bool (p && q)) ∧ Below wr.heap.size wr w') := fun W hW => by
          have h1 := bcall HB.out hW
          refine (accepts_any W W0.heap.size h1.size Ax nx cx X (HX.out.keep h1 (Nat.le_refl _)) t htl).mono ?_
          rintro e w' ⟨rfl, hb⟩
          exact ⟨by rw [HTX.out], bcall hW hb⟩
        have HACL : Hid (∀ W, Below wr.heap.size wr W → Calls Tryd.prog 11 #[.slice Al nl cl, .string ⟨t.toArray⟩] W fun e w' => e = .returned (.bool p) ∧ Below wr.heap.size wr w') := fun W hW => by
          have h1 := bcall HB.out hW
          refine (accepts_any W W0.heap.size h1.size Al nl cl L (HL.out.keep h1 (Nat.le_refl _)) t htl).mono ?_
          rintro e w' ⟨rfl, hb⟩
          exact ⟨by rw [HTL.out], bcall hW hb⟩
        have HD0 : Hid (∀ W, Below wr.heap.size wr W → W.cell? ⟨b, off + i, none⟩ = some (.string ⟨t.toArray⟩)) := fun W hW => (hW.cell (p := ⟨b, off + i, none⟩) hbw).trans d0
        clear hp hq ht
        have HD1 := Lib.hid (HD0.out wr (brefl wr))
        cases p
        all_goals
          cases q
          all_goals
            go_wp2_with fail
            go_region_held3 (fun w' => w'.cell? ⟨b, off + i, none⟩ = some (.string ⟨t.toArray⟩))
              (first
                | assumption
                | exact HD1.out
                | (refine HD0.out _ ?_; (repeat (first | exact brefl _ | exact HW1.out | exact HW2.out | refine Below.drew ?_ | refine bnew ?_ _)); done))
              (first
                | (go_at_call 11
                   have hw1 := HW1.out
                   clear hw1
                   refine (HAC'.out _ (by repeat (first | exact HW1.out | refine Below.drew ?_ | refine bnew ?_ _))).mono ?_
                   rintro e w2 ⟨rfl, hb2⟩
                   have HW2 := Lib.hid hb2
                   clear hb2)
                | (go_at_call 11
                   refine (HAC.out _ (by repeat (first | exact brefl _ | refine Below.drew ?_ | refine bnew ?_ _))).mono ?_
                   rintro e w1 ⟨rfl, hb1⟩
                   have HW1 := Lib.hid hb1
                   clear hb1))
            all_goals
              go_wp2_with fail
              refine (HACX.out w2 HW2.out).mono ?_
              rintro e w3 ⟨rfl, hb3⟩
              have HW3 := Lib.hid hb3
              have d3 := HD0.out w3 hb3
              have hbw3 : b < w3.heap.size := Nat.lt_of_lt_of_le hbw hb3.size
              clear hb3 HW2
              go_wp2_with fail
              refine (HACL.out w3 HW3.out).mono ?_
              rintro e w4 ⟨rfl, hb4⟩
              have HW4 := Lib.hid (bcall HB.out hb4)
              clear hb4 HW3 HB
              go_wp2_with fail
              go_roundw
              case rel => exact ⟨i + 1, by omega, by go_num, HW4⟩
              case measure => simp [intOf]; omega
      · obtain rfl : i = 20 := by omega
        have q1 : decide ((20 : Int) < 20) = false := decide_eq_false (by omega)
        go_wp2_with fail
    · have q0 : decide ((i : Int) < (m : Int)) = false := decide_eq_false (by omega)
      have q01 : decide (i < m) = false := decide_eq_false hm
      go_wp2_with fail
end Go.Proofs.YtebdffabfimmkaaDoor
/- DfaMeets: the plain law. -/
namespace Go.Proofs.YtebdffabfimmkaaDoor

/-- What the least automaton of the pairs takes. -/
theorem both_takes {a e dd out : List St} (ha : Good a) (he : Good e) (hl : LeastIs (auOf dd) 0 out) (hq : Leq (auOf dd) 0 ⟨finP a e, stepP a e⟩ [0, 0]) (hlen : out.length ≤ 20000) (t : List UInt8) : takesB out t = (takesB a t && takesB e t) := by
  have hg := hl.good hlen
  unfold takesB
  rw [decide_eq_true ((good_iff _).2 hg), decide_eq_true ((good_iff _).2 ha), decide_eq_true ((good_iff _).2 he), Bool.true_and, Bool.true_and, Bool.true_and]
  have h1 := (hl.leq.trans hq) (bytesN t)
  rw [h1]
  exact pair_acc a e (bytesN t) 0 0
theorem least_takes {a out : List St} (ha : Good a) (hl : LeastIs (auOf a) 0 out) (hlen : out.length ≤ 20000) (t : List UInt8) : takesB out t = takesB a t := by
  have hg := hl.good hlen
  unfold takesB
  rw [decide_eq_true ((good_iff _).2 hg), decide_eq_true ((good_iff _).2 ha), Bool.true_and, Bool.true_and]
  exact hl.leq (bytesN t)
theorem both_self {a dd s l : List St} (hl : LeastIs (auOf dd) 0 s) (hq : Leq (auOf dd) 0 ⟨finP a a, stepP a a⟩ [0, 0]) (hl2 : LeastIs (auOf a) 0 l) : s = l := by
  refine hl.eq hl2 (hq.trans fun t => ?_)
  rw [show (⟨finP a a, stepP a a⟩ : Au (List Int)).acc [0, 0] t = _ from pair_acc a a t 0 0]
  show ((auOf a).acc 0 t && (auOf a).acc 0 t) = _
  rw [Bool.and_self]
theorem least_again {a l m : List St} (hl : LeastIs (auOf a) 0 l) (hm : LeastIs (auOf l) 0 m) : l = m := hl.eq hm hl.leq.symm
end Go.Proofs.YtebdffabfimmkaaDoor
