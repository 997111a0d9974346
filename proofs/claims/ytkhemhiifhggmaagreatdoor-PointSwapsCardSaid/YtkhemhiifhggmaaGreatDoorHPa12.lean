/- Arguments of any depth (numbers, bools, strings, structs, slices): what a value reads as, once for all types. -/
import Derived.Test.YtkhemhiifhggmaaGreatDoorHPa1
import Derived.SizedLaws
import Derived.ChangeArms
import Derived.Test.YtkhemhiifhggmaaGreatDoorChecked
import Derived.Test.YtkhemhiifhggmaaGreatDoorHPa11
import Derived.Test.YtkhemhiifhggmaaGreatDoorHPa10
set_option maxRecDepth 100000
set_option maxHeartbeats 40000000
namespace Go.Proofs.YtkhemhiifhggmaaGreatDoor
open Go.RowKit Go.ChangeShapes Go.WideShapes Go.Deep
inductive Ty where
 | int (k : IntKind)
 | bool
 | str
 | slice (e : Ty) (bytes : Nat)
 | nil
 | cons (f r : Ty)
def Ty.size : Ty → Nat
 | .nil => 0
 | .cons f r => f.size + r.size
 | _ => 1
structure SlH where
 A : Option Addr
 n : Nat
 c : Nat
def Ty.den : Ty → Type
 | .int _ => Int
 | .bool => Bool
 | .str => ByteArray
 | .slice e _ => SlH × (Nat → e.den)
 | .nil => Unit
 | .cons f r => f.den × r.den
theorem Ty.inh : (t : Ty) → Nonempty t.den
 | .int _ => ⟨(0 : Int)⟩
 | .bool => ⟨false⟩
 | .str => ⟨ByteArray.empty⟩
 |
  .slice e _ => by
  obtain ⟨x⟩ := Ty.inh e
  exact ⟨(⟨none, 0, 0⟩, fun _ => x)⟩
 | .nil => ⟨()⟩
 |
  .cons f r => by
  obtain ⟨x⟩ := Ty.inh f
  obtain ⟨y⟩ := Ty.inh r
  exact ⟨(x, y)⟩
def SlH.ok (s : SlH) (bytes : Nat) : Prop := s.n ≤ s.c ∧ s.c ≤ maxLen ∧ s.n * bytes ≤ reachBytes ∧ (s.A = none → s.c = 0)
def Reads (w : World) (B : Nat) : (t : Ty) → t.den → List Value → Prop
 | .int k, d, cs => ∃ z : Int, d = z ∧ cs = [.int k z] ∧ (Lit.int k z).wf = true
 | .bool, d, cs => ∃ b : Bool, d = b ∧ cs = [.bool b]
 | .str, d, cs => ∃ s : ByteArray, d = s ∧ cs = [.string s] ∧ s.size ≤ maxLen ∧ s.size ≤ reachBytes
 | .slice e bytes, d, cs => cs = [.slice d.1.A d.1.n d.1.c] ∧ d.1.ok bytes ∧ (0 < d.1.n → ∃ b off, d.1.A = some ⟨b, off, none⟩ ∧ b < B ∧
   ∀ i, i < d.1.n → ∃ cl : List Value, cl.length = e.size ∧ (∀ j u, cl[j]? = some u → w.cell? ⟨b, off + (i * e.size + j), none⟩ = some u) ∧ Reads w B e (d.2 i) cl)
 | .nil, _, cs => cs = []
 | .cons f r, d, cs => ∃ c1 c2, cs = c1 ++ c2 ∧ c1.length = f.size ∧ Reads w B f d.1 c1 ∧ Reads w B r d.2 c2
theorem Reads.keep {w w' : World} {B B' : Nat} (hB : B ≤ B') (hk : ∀ b o, b < B → w'.cell? ⟨b, o, none⟩ = w.cell? ⟨b, o, none⟩) : ∀ {t : Ty} {d : t.den} {cs : List Value}, Reads w B t d cs → Reads w' B' t d cs
 | .int _, _, _, h => h
 | .bool, _, _, h => h
 | .str, _, _, h => h
 |
  .slice e bytes, d, cs, h => by
  obtain ⟨h1, h2, h3⟩ := h
  refine ⟨h1, h2, fun hn => ?_⟩
  obtain ⟨b, off, hA, hb, hi⟩ := h3 hn
  refine ⟨b, off, hA, by omega, fun i hin => ?_⟩
  obtain ⟨cl, hl, hc, hr⟩ := hi i hin
  exact ⟨cl, hl, fun j u hu => (hk _ _ hb).trans (hc j u hu), Reads.keep hB hk hr⟩
 | .nil, _, _, h => h
 |
  .cons f r, d, cs, h => by
  obtain ⟨c1, c2, h1, h2, h3, h4⟩ := h
  exact ⟨c1, c2, h1, h2, Reads.keep hB hk h3, Reads.keep hB hk h4⟩
theorem Reads.below {w w' : World} {t : Ty} {d : t.den} {cs : List Value} (h : Reads w w.heap.size t d cs) (hb : Below w.heap.size w w') : Reads w' w'.heap.size t d cs :=
 h.keep hb.size fun b o hl => hb.cell (p := ⟨b, o, none⟩) hl
theorem Reads.len {w : World} {B : Nat} : ∀ {t : Ty} {d : t.den} {cs : List Value}, Reads w B t d cs → cs.length = t.size
 | .int _, _, _, ⟨_, _, h, _⟩ => by rw [h]; rfl
 | .bool, _, _, ⟨_, _, h⟩ => by rw [h]; rfl
 | .str, _, _, ⟨_, _, h, _⟩ => by rw [h]; rfl
 | .slice _ _, _, _, ⟨h, _⟩ => by rw [h]; rfl
 | .nil, _, _, h => by rw [show _ = [] from h]; rfl
 |
  .cons f r, d, cs, ⟨c1, c2, h, hl, _, h2⟩ => by
  have := Reads.len h2
  rw [h, List.length_append, hl, this]
  rfl
def Ty.cells : (t : Ty) → t.den → List Value
 | .int k, d => [.int k d]
 | .bool, d => [.bool d]
 | .str, d => [.string d]
 | .slice _ _, d => [.slice d.1.A d.1.n d.1.c]
 | .nil, _ => []
 | .cons f r, d => f.cells d.1 ++ r.cells d.2
theorem Reads.cells {w : World} {B : Nat} : ∀ {t : Ty} {d : t.den} {cs : List Value}, Reads w B t d cs → cs = t.cells d
 | .int _, _, _, ⟨_, h, e, _⟩ => by rw [e, h]; rfl
 | .bool, _, _, ⟨_, h, e⟩ => by rw [e, h]; rfl
 | .str, _, _, ⟨_, h, e, _⟩ => by rw [e, h]; rfl
 | .slice _ _, _, _, ⟨h, _⟩ => h
 | .nil, _, _, h => h
 | .cons f r, d, cs, ⟨c1, c2, h, _, h1, h2⟩ => by rw [h, Reads.cells h1, Reads.cells h2]; rfl
theorem Reads.sl {w : World} {B bytes : Nat} {e : Ty} {A : Option Addr} {n c : Nat} {x : Nat → e.den} {cs : List Value} (h : Reads w B (.slice e bytes) (⟨A, n, c⟩, x) cs) (hl : ∀ d : e.den, (e.cells d).length = e.size) :
  Sl w B e.size A n ((List.range n).flatMap fun i => e.cells (x i)) := by
 obtain ⟨_, _, h3⟩ := h
 refine ⟨by rw [flat_length _ e.size (fun i => hl (x i)), List.length_range], fun hn => ?_⟩
 obtain ⟨b, off, hA, hb, hi⟩ := h3 hn
 refine ⟨b, off, hA, hb, fun j u hu => ?_⟩
 have hjl : j < n * e.size := by
  have := (List.getElem?_eq_some_iff.1 hu).1
  rw [flat_length _ e.size (fun i => hl (x i)), List.length_range] at this
  exact this
 have hs : 0 < e.size := by
  rcases Nat.eq_zero_or_pos e.size with h0 | h0
  ·rw [h0, Nat.mul_zero] at hjl; omega
  ·exact h0
 have hq : j / e.size < n := Nat.div_lt_of_lt_mul (by rw [Nat.mul_comm]; exact hjl)
 have hr : j % e.size < e.size := Nat.mod_lt _ hs
 have hj : j / e.size * e.size + j % e.size = j := by rw [Nat.mul_comm]; exact Nat.div_add_mod j e.size
 obtain ⟨cl, _, hc, hrd⟩ := hi (j / e.size) hq
 rw [← hj] at hu ⊢
 rw [flat_at _ e.size (fun i => hl (x i)) (List.range n) (j / e.size) (j % e.size) (j / e.size) (by simp [hq]) hr] at hu
 refine hc (j % e.size) u ?_
 rw [hrd.cells]
 exact hu
theorem Reads.elem {w : World} {B bytes : Nat} {e : Ty} {A : Option Addr} {n c : Nat} {x : Nat → e.den} {cs : List Value} (h : Reads w B (.slice e bytes) (⟨A, n, c⟩, x) cs) {i : Nat} (hi : i < n) : ∃ cl, Reads w B e (x i) cl := by
 obtain ⟨_, _, h3⟩ := h
 obtain ⟨_, _, _, _, hh⟩ := h3 (show 0 < n by omega)
 obtain ⟨cl, _, _, hr⟩ := hh i hi
 exact ⟨cl, hr⟩
def tyFields (P : Program) (g : TypeId → Option Ty) : List Field → Nat → Option Ty
 | [], _ => some .nil
 | f :: fs, o => if f.offset = o then
   match g f.type with
   | some τ => if P.cellsOf f.type = τ.size then (tyFields P g fs (o + τ.size)).map (.cons τ) else none
   | none => none
  else none
def tyOf (P : Program) : Nat → TypeId → Option Ty
 | 0, _ => none
 | k + 1, t => match P.underlying t with
  | some (.int k) => some (.int k)
  | some .bool => some .bool
  | some .string => some .str
  | some (.slice e) => match tyOf P k e with
   | some τ => if P.cellsOf e = τ.size ∧ 0 < τ.size then some (.slice τ (P.bytesOf e)) else none
   | none => none
  | some (.struct fs) => match tyFields P (tyOf P k) fs.toList 0 with
   | some τ => if P.cellsOf t = τ.size then some τ else none
   | none => none
  | _ => none
section
variable {H : Type} {enc : TypeId × Value → H} {P : Program} {w : World} {base : Nat} {spare : Nat → Bool} {held : Bool}
def Small (P : Program) (t : TypeId) (d : DataW H) : Prop := ∀ n ∈ d.weights P t, n ≤ reachBytes
theorem weights_mem_all {e : TypeId} : ∀ {ds : List (DataW H)} {d : DataW H}, d ∈ ds → ∀ n ∈ d.weights P e, n ∈ DataW.weightsAll P e ds
 |
  x :: ds, d, hd, n, hn => by
  rw [DataW.weightsAll, List.mem_append]
  rcases List.mem_cons.1 hd with rfl | h
  ·exact .inl hn
  ·exact .inr (weights_mem_all h n hn)
theorem reads_fields {k n : Nat} (ih : ∀ (t : TypeId) (τ : Ty), tyOf P k t = some τ → ∀ (fuel : Nat) (cs : List Value) (x : DataW H × List MemPlace), DataW.trod enc P w base spare held fuel t cs = some x → Small P t x.1 → ∃ d : τ.den, Reads w w.heap.size τ d cs) (cs : List Value) :
  ∀ (fs : List Field) (o : Nat) (τ : Ty), tyFields P (tyOf P k) fs o = some τ → cs.length = o + τ.size →
   (∀ f ∈ fs, ∃ y : DataW H × List MemPlace, DataW.trod enc P w base spare held n f.type ((cs.drop f.offset).take (P.cellsOf f.type)) = some y ∧ Small P f.type y.1) → ∃ d : τ.den, Reads w w.heap.size τ d (cs.drop o)
 |
  [], o, τ, h, hl, _ => by
  rw [tyFields] at h
  injection h with h
  subst h
  exact ⟨(), List.drop_eq_nil_of_le (by rw [hl]; exact Nat.le_refl _)⟩
 |
  f :: fs, o, τ, h, hl, hf => by
  rw [tyFields] at h
  split at h
  ·rename_i ho
   split at h
   ·rename_i τ0 h0
    split at h
    ·rename_i hc
     cases hr : tyFields P (tyOf P k) fs (o + τ0.size) with
     | none => rw [hr] at h; cases h
     |
      some τ1 =>
      rw [hr] at h
      injection h with h
      subst h
      have hl' : cs.length = o + τ0.size + τ1.size := by rw [hl]; show o + (τ0.size + τ1.size) = _; omega
      obtain ⟨y, hy, hs⟩ := hf f (List.mem_cons_self ..)
      obtain ⟨d0, r0⟩ := ih f.type τ0 h0 n _ y hy hs
      obtain ⟨d1, r1⟩ := reads_fields ih cs fs (o + τ0.size) τ1 hr hl' (fun g hg => hf g (List.mem_cons_of_mem _ hg))
      rw [hc, ho] at r0
      refine ⟨(d0, d1), (cs.drop o).take τ0.size, cs.drop (o + τ0.size), ?_, ?_, r0, r1⟩
      ·rw [← List.drop_drop, List.take_append_drop]
      ·rw [List.length_take, List.length_drop]; omega
    ·cases h
   ·cases h
  ·cases h
theorem reads_of : ∀ (k : Nat) (t : TypeId) (τ : Ty), tyOf P k t = some τ → ∀ (fuel : Nat) (cs : List Value) (x : DataW H × List MemPlace), DataW.trod enc P w base spare held fuel t cs = some x → Small P t x.1 → ∃ d : τ.den, Reads w w.heap.size τ d cs
 | 0, t, τ, h, _, _, _, _, _ => by rw [tyOf] at h; cases h
 |
  k + 1, t, τ, h, fuel, cs, x, hx, hs => by
  have ih := reads_of k
  rw [tyOf] at h
  split at h
  ·rename_i kk hu
   injection h with h
   subst h
   obtain ⟨z, e, _, wz⟩ := DataW.trod_int hu hx
   exact ⟨z, z, rfl, e, wz⟩
  ·rename_i hu
   injection h with h
   subst h
   obtain ⟨b, e, _⟩ := DataW.trod_bool hu hx
   exact ⟨b, b, rfl, e⟩
  ·rename_i hu
   injection h with h
   subst h
   obtain ⟨s, e, ex, hm⟩ := DataW.trod_string hu hx
   subst ex
   refine ⟨s, s, rfl, e, hm, ?_⟩
   have := hs s.data.toList.length (by simp [DataW.weights])
   simpa using this
  ·rename_i e hu
   split at h
   ·rename_i τ0 h0
    split at h
    ·rename_i hc
     obtain ⟨hc, hp⟩ := hc
     injection h with h
     subst h
     rcases open_slice hu hx with ⟨hcs, _⟩ | ⟨a, len, cap, mm, nn, D, Pl, hcs, _, hlc, hcm, hmm, ex, hi⟩
     ·obtain ⟨x0⟩ := Ty.inh τ0
      exact ⟨(⟨none, 0, 0⟩, fun _ => x0), hcs, ⟨Nat.le_refl _, Nat.zero_le _, by rw [Nat.zero_mul]; exact Nat.zero_le _, fun _ => rfl⟩, fun h => absurd h (Nat.lt_irrefl _)⟩
     ·have hle : len ≤ mm := by rw [hmm]; split <;> omega
      subst ex
      have hsl : Small P t (DataW.slice ((List.range len).map D) ((List.range (mm - len)).map fun j => D (len + j))) := hs
      have hbytes : len * P.bytesOf e ≤ reachBytes := by
       have := hsl ((((List.range len).map D).length + ((List.range (mm - len)).map fun j => D (len + j)).length) * P.bytesOf e) (by simp [DataW.weights, hu])
       refine Nat.le_trans (Nat.mul_le_mul_right _ ?_) this
       simp
      have row : ∀ i, i < len → ∃ d : τ0.den, ∃ cl : List Value, cl.length = τ0.size ∧ (∀ j u, cl[j]? = some u → w.cell? ((a.add (i * τ0.size)).add j) = some u) ∧ Reads w w.heap.size τ0 d cl := by
       intro i hin
       obtain ⟨cs', hcs', htr⟩ := hi i (by omega)
       rw [hc] at hcs'
       obtain ⟨_, hcl, hat⟩ := World.cells?_some hcs'
       obtain ⟨d, hd⟩ := ih e τ0 h0 nn cs' _ htr (fun n hn => hsl n (by
        rw [DataW.weights, hu]
        simp only [List.mem_cons, List.mem_append]
        exact .inr (.inl (weights_mem_all (List.mem_map.2 ⟨i, List.mem_range.2 hin, rfl⟩) n hn))))
       refine ⟨d, cs', hd.len, fun j u hu => ?_, hd⟩
       have hj : j < τ0.size := by have := (List.getElem?_eq_some_iff.1 hu).1; have := hd.len; omega
       rw [hat j hj, hu]
      haveI : Inhabited τ0.den := ⟨Classical.choice (Ty.inh τ0)⟩
      obtain ⟨g, hg⟩ := choose_lt' row
      refine ⟨(⟨some a, len, cap⟩, g), hcs, ⟨hlc, hcm, hbytes, fun e => by cases e⟩, fun hn => ?_⟩
      have hn' : 0 < len := hn
      obtain ⟨cl, hl, hcell, _⟩ := hg 0 hn'
      have h00 := hcell 0 (cl[0]'(by omega)) (List.getElem?_eq_getElem _)
      obtain ⟨hb, hsp⟩ := lt_of_cell h00
      simp only [Nat.zero_mul, Addr.add, if_true] at hb hsp
      obtain ⟨ab, ao, asp⟩ := a
      simp only at hb hsp
      subst hsp
      refine ⟨ab, ao, rfl, hb, fun i hin => ?_⟩
      obtain ⟨cl, hl, hcell, hr⟩ := hg i hin
      refine ⟨cl, hl, fun j u hu => ?_, hr⟩
      have := hcell j u hu
      rw [Addr.add_lit, Addr.add_lit, Nat.add_assoc] at this
      exact this
    ·cases h
   ·cases h
  ·rename_i fs hu
   split at h
   ·rename_i τ0 h0
    split at h
    ·rename_i hc
     injection h with h
     subst h
     obtain ⟨xs, n, _, ex, hl, hxl, hf⟩ := DataW.trod_struct hu hx
     subst ex
     have hS : Small P t (DataW.agg (xs.map (·.1))) := hs
     have := reads_fields (n := n) ih cs fs.toList 0 τ0 h0 (by rw [hl, hc, Nat.zero_add]) (fun f hm => by
      obtain ⟨i, hi⟩ := List.mem_iff_getElem?.1 hm
      have hi' : fs[i]? = some f := by simpa using hi
      have hlt : i < xs.length := by rw [hxl]; exact (Array.getElem?_eq_some_iff.1 hi').1
      refine ⟨xs[i], by rw [hf i f hi', List.getElem?_eq_getElem hlt], fun m hm' => hS m ?_⟩
      rw [DataW.weights, hu]
      exact DataW.weights_mem_each (j := i) (t := f.type) (d := xs[i].1) (by simp [hi]) (by simp [hlt]) m hm')
     rwa [List.drop_zero] at this
    ·cases h
   ·cases h
  ·cases h
theorem small_of {ts : List TypeId} {ds : List (DataW H)} (h : (DataW.weightsEach P ts ds).all (· ≤ reachBytes) = true) {j : Nat} {t : TypeId} {d : DataW H} (ht : ts[j]? = some t) (hd : ds[j]? = some d) : Small P t d :=
 fun n hn => by simpa using List.all_eq_true.1 h n (DataW.weights_mem_each ht hd n hn)
theorem open_deep {k bytes : Nat} {t : TypeId} {e : Ty} {A : Option Addr} {n c : Nat} {d : DataW H} {p : List MemPlace} (hT : tyOf P k t = some (.slice e bytes)) (h : DataW.Trod enc P w base spare held t (.slice A n c) d p) (hs : Small P t d) :
  ∃ x : Nat → e.den, Reads w w.heap.size (.slice e bytes) (⟨A, n, c⟩, x) [.slice A n c] := by
 obtain ⟨m, hm⟩ := h
 obtain ⟨⟨⟨A', n', c'⟩, x⟩, hr⟩ := reads_of k t _ hT m _ _ hm hs
 have e : [Value.slice A n c] = [.slice A' n' c'] := hr.1
 simp only [List.cons.injEq, Value.slice.injEq, and_true] at e
 obtain ⟨rfl, rfl, rfl⟩ := e
 exact ⟨x, hr⟩
theorem open_deep_struct {k : Nat} {t : TypeId} {e : Ty} {cs : Array Value} {d : DataW H} {p : List MemPlace} (hT : tyOf P k t = some e) (h : DataW.Trod enc P w base spare held t (.agg cs) d p) (hs : Small P t d) :
  ∃ x : e.den, Reads w w.heap.size e x cs.toList := by
 obtain ⟨m, hm⟩ := h
 obtain ⟨x, hr⟩ := reads_of k t _ hT m _ _ hm hs
 exact ⟨x, hr⟩
end
end Go.Proofs.YtkhemhiifhggmaaGreatDoor
namespace Go.Proofs.YtkhemhiifhggmaaGreatDoor
open Go.RowKit Go.Maps
theorem ty_texts : tyOf Tryz.prog 8 35 = some (.slice .str 16) := by kernel_rfl
structure TextsIn (w : World) (A : Option Addr) (n c : Nat) (x : Nat → ByteArray) : Prop where
 nc : n ≤ c
 cm : c ≤ maxLen
 rb : n * 16 ≤ reachBytes
 sl : Sl w w.heap.size 1 A n ((List.range n).map fun i => .string (x i))
 sz : ∀ i, i < n → (x i).size ≤ reachBytes
theorem texts_in {w : World} {A : Option Addr} {n c : Nat} {x : Nat → Ty.str.den} {cs : List Value} (h : Reads w w.heap.size (.slice .str 16) (⟨A, n, c⟩, x) cs) : TextsIn w A n c x := by
 have hs := h.sl (e := .str) (fun d => rfl)
 refine ⟨h.2.1.1, h.2.1.2.1, h.2.1.2.2.1, ?_, fun i hi => ?_⟩
 ·have e : ((List.range n).flatMap fun i => Ty.cells .str (x i)) = (List.range n).map fun i => .string (x i) := by
   rw [List.map_eq_flatMap]
   rfl
  rw [← e]
  exact hs
 ·obtain ⟨cl, z, hz, _, h1, h2⟩ := h.elem hi
  have hz' : (x i : ByteArray) = z := hz
  rw [hz']
  exact h2
end Go.Proofs.YtkhemhiifhggmaaGreatDoor
namespace Go.Proofs.YtkhemhiifhggmaaGreatDoor
open Go.RowKit Go.Maps Go.Sort
set_option linter.unusedVariables false
section
variable {H : Type} {w W : World} {p : Nat} {D : DS H}
theorem dr_restart (h : Own w W p D) (loss : Int) (hc : D.cap ≤ 1099511627776) (hsure : ∀ k, 0 ≤ (fileOf D.files k).2 ∧ (fileOf D.files k).1.length ≤ 4611686018427387904) : Calls Tryz.prog 24 #[.pointer (some ⟨p, 0, none⟩), .int .i64 loss] W fun e w' => e = .returned (.int .i64 0) ∧ Own w w' p (D.restart loss) ∧ RowsKeep W w' :=
 h.byn fun F e hd => by subst e; exact restart_any W F D loss hd hc hsure
theorem own_keys_le (h : Own w W p D) : (strKeys D.names).length ≤ D.cap := by
 obtain ⟨F, _, hdk, _⟩ := h
 obtain ⟨n0, hc0, hm0⟩ := hdk.nam
 have h1 := hm0.size_le
 rw [strKeys_length]
 omega
theorem restart_fits {n : Nat} (hs : D.small n) (hn : n ≤ 100000000000) (loss : Int) : (D.restart loss).fits := by
 obtain ⟨a, b, c, d, e, f, g⟩ := hs
 refine ⟨Int.le_refl _, by show (-1 : Int) ≤ _; omega, c, by show D.steps ≤ _; omega, e, by show D.last ≤ _; omega, by show 2 * D.cap ≤ _; omega⟩
theorem cleanF_small (keep : List ByteArray) : ∀ (l : List (List UInt8)) (D : DS H) (n g : Nat), D.small n → (cleanF keep l D g).1.small (n + l.length)
 | [], D, n, g, h => h
 |
  x :: r, D, n, g, h => by
  unfold cleanF
  rw [List.length_cons]
  split
  ·exact (cleanF_small keep r D n g h).more (by omega)
  ·have h1 := h.remove ⟨x.toArray⟩
   split
   ·exact (cleanF_small keep r _ _ _ h1).more (by omega)
   ·exact h1.more (by omega)
theorem cleanF_files (keep : List ByteArray) : ∀ (l : List (List UInt8)) (D : DS H) (n g : Nat), D.good n → (cleanF keep l D g).1.good n
 | [], D, n, g, h => h
 |
  x :: r, D, n, g, h => by
  have h1 : (D.remove ⟨x.toArray⟩).1.good n := by
   unfold DS.remove
   split
   ·exact h
   ·split
    ·exact h
    ·split
     ·exact h.of_files (by unfold DS.step; split <;> rfl)
     ·exact h.of_files (by show D.step.1.files = _; unfold DS.step; split <;> rfl)
  unfold cleanF
  split
  ·exact cleanF_files keep r D n g h
  ·split
   ·exact cleanF_files keep r _ _ _ h1
   ·exact h1
theorem cleanD_small {n m : Nat} (h : D.small n) {ss : List (List UInt8)} (hs : ss.length ≤ m) (keep : List ByteArray) : (cleanD D ss keep).1.small (n + m + 1) := by
 have h1 := cleanF_small keep (sortedN ss) D n 0 h
 have hl : (sortedN ss).length = ss.length := List.length_mergeSort _
 rw [hl] at h1
 unfold cleanD
 split
 ·split
  ·exact h1.more (by omega)
  ·exact h1.syncDir.more (by omega)
 ·exact h1.more (by omega)
theorem cleanD_good {n : Nat} (h : D.good n) (ss : List (List UInt8)) (keep : List ByteArray) : (cleanD D ss keep).1.good n := by
 have h1 := cleanF_files keep (sortedN ss) D n 0 h
 unfold cleanD
 split
 ·split
  ·exact h1
  ·exact h1.syncDir
 ·exact h1
theorem own_list {l : List (List UInt8)} {base n c : Nat} {A : Option Addr} (h : W.ownsRow base 9 1 (.slice A n c) n (l.map encStr)) : Sl W W.heap.size 1 A n ((l.map bs).map .string) := own_sl h
end
theorem pcleans_many (w : World) (hT : Tab w) (hE : Errs w) (An : Option Addr) (nn cn : Nat) (hnn : 60 < nn) (Ak : Option Addr) (nk ck : Nat) (loss : Int) :
  Calls Tryz.prog 6 #[.slice An nn cn, .slice Ak nk ck, .int .i64 loss] w fun e w' => e = .returned (.bool true) ∧ Below w.heap.size w w' := by
 have q1 : decide ((nn : Int) > 60) = true := decide_eq_true (by omega)
 have HN := Lib.hid (dk_new Unit (brefl w))
 go_enter Tryz.func6, Tryz.ntmps6
 go_wp2_with fail
 refine HN.out.mono ?_
 rintro e w1 ⟨rfl, ho1⟩
 have HO1 := Lib.hid ho1
 have HA := Lib.hid (pawake_any w1 (hT.below ho1.below) (hE.below ho1.below))
 obtain ⟨p, hp⟩ : ∃ p, w.heap.size + 3 = p := ⟨_, rfl⟩
 rw [hp] at HO1 ⊢
 clear ho1 hp HN
 go_wp2_with fail
 refine HA.out.mono ?_
 rintro e w2 ⟨rfl, hb2⟩
 have HB2 := Lib.hid (bcall HO1.out.below hb2)
 have HA2 := Lib.hid (pawake_any w2 (hT.below HB2.out) (hE.below HB2.out))
 clear hb2 HA
 go_wp2_with fail
 refine HA2.out.mono ?_
 rintro e w3 ⟨rfl, hb3⟩
 have HB3 := Lib.hid (bcall HB2.out hb3)
 clear hb3
 go_wp2_with fail
 go_ret
 exact ⟨rfl, HB3.out⟩
theorem pcleans_few (w : World) (hT : Tab w) (hE : Errs w) (An : Option Addr) (nn cn : Nat) (xs : List ByteArray) (hnn : nn ≤ 60) (HX : Hid (Sl w w.heap.size 1 An nn (xs.map .string))) (HXS : Hid (∀ s ∈ xs, s.size ≤ 140737488355328))
  (Ak : Option Addr) (nk ck : Nat) (keep : List ByteArray) (hnk : nk ≤ 8796093022208) (HKP : Hid (Sl w w.heap.size 1 Ak nk (keep.map .string))) (loss : Int) :
  Calls Tryz.prog 6 #[.slice An nn cn, .slice Ak nk ck, .int .i64 loss] w fun e w' => e = .returned (.bool true) ∧ Below w.heap.size w w' := by
 have q1 : decide ((nn : Int) > 60) = false := decide_eq_false (by omega)
 have HN := Lib.hid (dk_new Unit (brefl w))
 go_enter Tryz.func6, Tryz.ntmps6
 go_wp2_with fail
 refine HN.out.mono ?_
 rintro e w1 ⟨rfl, ho1⟩
 have HO1 := Lib.hid ho1
 have HA := Lib.hid (pawake_any w1 (hT.below ho1.below) (hE.below ho1.below))
 obtain ⟨p, hp⟩ : ∃ p, w.heap.size + 3 = p := ⟨_, rfl⟩
 rw [hp] at HO1 ⊢
 clear ho1 hp HN
 go_wp2_with fail
 refine HA.out.mono ?_
 rintro e w2 ⟨rfl, hb2⟩
 have HO2 := Lib.hid (HO1.out.on hb2)
 clear hb2 HA HO1
 go_wp2_with fail
 refine cleans_a w w2 p (DS.new Unit) HO2 (Lib.hid ⟨_, _, _, dv_new, ⟨rfl, rfl, rfl⟩, fun s k hk => by cases hk⟩) (Lib.hid (small_new Unit)) (Lib.hid (good_new Unit)) An nn cn xs hnn HX HXS _ _ _ _ _ _ _ _ _ _ _ _ _ _ _ _ _ _ _ _ _ _ _ _ _ _ _ _ _ _ _ _ _ _ _ _ _ _ _ _ _ _ _ _ _ _ _ _ _ _ _ _ _ _ _ _ _ _ _ _ _ _ _ _ _ _ _ _ _ _ _ _ _ _ _ _ _ _ _ _ _ _ _ _ _ _ _ _ _ _ _ _ _ _ _ _ _ _ _ _ _ _ _ _ _ _ _ _ _ _ _ _ _ _ _ _ _ _ _ _ _ _ _ _ _ _ _ _ _ _ _ _ _ _ (fun c a a' w hd h => by cases a; cases a'; cases hd; exact h) ?_
 clear HO2
 intro V D x8 u29 u30 u31 u32 u33 u34 u35 u36 u37 u38 u39 u40 u41 u42 u43 u44 u45 u46 u47 u48 u49 u50 u51 u52 u53 u54 u55 u56 HO HV HS HG
 have HSD := Lib.hid (dr_syncDir HO.out (HS.out.fits (by omega)))
 have HS1 := Lib.hid (HS.out.syncDir)
 have HG1 := Lib.hid (HG.out.syncDir)
 have HV1 : Hid (∃ f g L, DV D.syncDir.1 f f g L ∧ Ar D.syncDir.1 (-1) 0 ∧ Nmd f g) := by
  obtain ⟨f, g, L, v, a, n⟩ := HV.out
  obtain ⟨_, v1, a1⟩ := syncDir_go v a (by decide)
  exact ⟨f, g, L, v1, a1, n⟩
 generalize D.syncDir.1 = D1 at *
 generalize D.syncDir.2 = z1 at *
 clear HS HG HV
 go_wp2_with fail
 refine HSD.out.mono ?_
 rintro e w3 ⟨rfl, ho3, _⟩
 have HO3 := Lib.hid ho3
 have HDN : Hid (D1.down = false) := by obtain ⟨f, g, L, v, a, n⟩ := HV1.out; exact a.2.2
 have HLS := Lib.hid (dr_list ho3 (HS1.out.fits (by omega)) HDN.out)
 clear ho3 HSD HO
 go_wp2_with fail
 refine HLS.out.mono ?_
 rintro e w4 ⟨⟨v, ss, rfl, hperm, hown, hb4⟩, ho4⟩
 obtain ⟨Ah, ch, rfl, _⟩ := own_shape hown
 obtain ⟨nh, hnh⟩ : ∃ nh, ss.length = nh := ⟨_, rfl⟩
 rw [hnh] at hown ⊢
 have hnh4 : nh ≤ 1000 := by
  have h1 := own_keys_le ho4
  have h2 := hperm.length_eq
  have h3 := HS1.out.c1
  omega
 have HHD : Hid (w4.ownsRow w3.heap.size 9 1 (.slice Ah nh ch) nh ((sortedN ss).map encStr)) := hown
 have HPM := Lib.hid hperm
 have HO4 := Lib.hid ho4
 have HK1 := Lib.hid (own_strk ho4)
 have HND1 := Lib.hid (own_nodup ho4)
 have HCL := Lib.hid (clean_any w w4 p D1 ho4 181 (by omega) (HS1.out.more (by omega)) HDN.out (fun s hs => by
  obtain ⟨f, g, L, v, a, n⟩ := HV1.out
  rw [HK1.out.mem, (v.n.2 _).1] at hs
  obtain ⟨k, hk⟩ := Option.isSome_iff_exists.1 hs
  have := (n _ _ hk).1
  unfold nameB at this
  rw [Bool.and_eq_true, decide_eq_true_eq, bs_size] at this
  omega) w.heap.size (Nat.le_refl _) Ak nk ck keep hnk HKP)
 clear hown hb4 ho4 hperm HO3 HLS
 go_wp2_with fail
 refine HCL.out.mono ?_
 rintro e w5 ⟨ss5, hp5, rfl, ho5, hr5⟩
 have HCG : Hid ((cleanD D1 ss5 keep).2 = 0 ∧ ∃ f g L, Vw D1.names f ∧ DV (cleanD D1 ss5 keep).1 (keepF keep f) (keepF keep f) g L ∧ Ar (cleanD D1 ss5 keep).1 (-1) 0 ∧ Nmd (keepF keep f) g) := by
  obtain ⟨f, g, L, v, a, n⟩ := HV1.out
  obtain ⟨c1, c2, c3⟩ := clean_go v a n HK1.out hp5 HND1.out keep
  exact ⟨c1, f, g, L, v.n, c2, c3, keepF_nmd keep n⟩
 rw [HCG.out.1]
 have hl5 : ss5.length ≤ 1000 := by
  have h1 := own_keys_le HO4.out
  have h2 := hp5.length_eq
  have h3 := HS1.out.c1
  omega
 have HS5 := Lib.hid (cleanD_small HS1.out hl5 keep)
 have HG5 := Lib.hid (cleanD_good HG1.out ss5 keep)
 have HO5 := Lib.hid ho5
 have HHD5 := Lib.hid (hr5.own HHD.out (by decide))
 have HCV := Lib.hid HCG.out.2
 obtain ⟨D5, hD5⟩ : ∃ D5, (cleanD D1 ss5 keep).1 = D5 := ⟨_, rfl⟩
 rw [hD5] at HS5 HG5 HO5 HCV
 clear hD5 HCG ho5 hr5 hp5 hl5 HCL HHD HO4 HS1 HG1
 go_wp2_with fail
 refine cleans_b w5 Ak nk ck keep hnk (Lib.hid ((HKP.out.keep (bcell HO5.out.below).1).more HO5.out.below.size)) Ah nh ch (sortedN ss) (by omega) (Lib.hid (own_list HHD5.out)) _ _ _ _ _ _ _ _ _ _ _ _ _ _ _ _ _ _ _ _ _ _ _ _ _ _ _ _ _ _ _ _ _ _ _ _ _ _ _ _ _ _ _ _ _ _ _ _ _ _ _ _ _ _ _ _ _ _ _ _ _ _ _ _ _ _ _ _ _ _ _ _ _ _ _ _ _ _ _ _ _ _ _ _ _ _ _ _ _ _ _ _ _ _ _ _ _ _ _ _ _ _ _ _ _ _ _ _ _ _ _ _ _ _ _ _ _ _ _ _ _ _ _ _ _ _ _ _ _ _ _ _ _ (fun c a a' w hd h => by cases a; cases a'; cases hd; exact h) ?_
 clear HHD5
 intro V1 A m cp x11 u12 u65 u66 u67 u68 u69 u70 u71 u72 u73 u74 u75 u76 u77 u78 u79 u80 u81 u82 u83 u84 u85 u86 u87 u88 u89 u90 u91 u92 HM HB HL
 have HO6 := Lib.hid (HO5.out.on HB.out)
 have HDN5 : Hid (D5.down = false) := by obtain ⟨f, g, L, _, v, a, n⟩ := HCV.out; exact a.2.2
 have HK5 := Lib.hid (own_strk HO6.out)
 have HND5 := Lib.hid (own_nodup HO6.out)
 have HW5 : Hid (∀ ss', ss'.Perm (strKeys D5.names) → sortedN ss' = wantN keep (sortedN ss)) := fun ss' hs' => by
  obtain ⟨f, g, L, v1, v, a, n⟩ := HCV.out
  exact list_want v1 v.n HK1.out HK5.out HND1.out HND5.out HPM.out hs' keep fun s => rfl
 obtain ⟨ws, hws⟩ : ∃ ws, wantN keep (sortedN ss) = ws := ⟨_, rfl⟩
 rw [hws] at HL HW5
 have hmn : m ≤ 1000 := by have := HM.out; omega
 have hwl : ws.length = m := by have := HL.out.1; simpa using this
 have HF5 := Lib.hid (HS5.out.fits (show 181 + 1000 + 1 ≤ 274877906944 by omega))
 have HR5 : Hid ((D5.restart loss).fits ∧ (D5.restart loss).down = false ∧ ∃ f' g' L', DV (D5.restart loss) f' f' g' L' ∧ ∃ f, Vw D1.names f ∧ (∀ s, (f' s).isSome = (keepF keep f s).isSome) ∧ ∀ s k, f' s = some k → nameB s = true ∧ (g' k).1 = s.data.toList) := by
  obtain ⟨f, g, L, v1, v, a, n⟩ := HCV.out
  obtain ⟨f', g', L', v', e1, e2⟩ := restart_same v n HG5.out HK5.out.keyed loss
  exact ⟨restart_fits HS5.out (by omega) loss, rfl, f', g', L', v', f, v1, e1, e2⟩
 have HRS := Lib.hid (fun (V : World) (h : Own w V p D5) => dr_restart h loss (by have := HF5.out.c1; omega) (HG5.out.sure (by omega)))
 obtain ⟨D6, hD6⟩ : ∃ D6, D5.restart loss = D6 := ⟨_, rfl⟩
 rw [hD6] at HRS HR5
 have HWA : Hid (∀ V, Own w V p D6 → (∀ ss', ss'.Perm (strKeys D6.names) → sortedN ss' = ws) ∧ ∀ s ∈ ws, s.length ≤ 1000 ∧ readE D6 (bs s) = 0 ∧ readS D6 (bs s) = bs s) := fun V ho => by
  obtain ⟨_, hd, f', g', L', v', f, v1, e1, e2⟩ := HR5.out
  have hall : ∀ ss', ss'.Perm (strKeys D6.names) → sortedN ss' = ws := fun ss' hs' => by
   rw [← hws]
   exact list_want v1 v'.n HK1.out (own_strk ho) HND1.out (own_nodup ho) HPM.out hs' keep e1
  refine ⟨hall, fun s hs => ?_⟩
  rw [← hall _ (List.Perm.refl _)] at hs
  have hs : s ∈ sortS (strKeys D6.names) := hs
  rw [sortS_mem, (own_strk ho).mem, (v'.n.2 _).1] at hs
  obtain ⟨k, hk⟩ := Option.isSome_iff_exists.1 hs
  obtain ⟨n1, n2⟩ := e2 _ k hk
  obtain ⟨r1, r2⟩ := (read_dv v' hd n1).1 k hk
  refine ⟨?_, r1, ?_⟩
  ·unfold nameB at n1
   rw [Bool.and_eq_true, decide_eq_true_eq, bs_size] at n1
   omega
  ·rw [r2, n2, bs_data]
 have HF6 := Lib.hid HR5.out.1
 have HDN6 := Lib.hid HR5.out.2.1
 clear hD6 hws hwl HCV HR5 HG5 HS5 HO5 HK5 HND5 HK1 HND1 HPM HDN HV1
 have HL1 := Lib.hid (dr_list HO6.out HF5.out HDN5.out)
 go_wp2_with fail
 refine HL1.out.mono ?_
 rintro e V2 ⟨⟨v2, ss2, rfl, hp2, hown2, hb2⟩, ho2⟩
 obtain ⟨A2, c2, rfl, _⟩ := own_shape hown2
 have hl2 : ss2.length = m := by have h1 := HW5.out ss2 hp2; have h3 : (ss2.mergeSort (fun x y => decide (x ≤ y))).length = ss2.length := List.length_mergeSort _; rw [← h3, show ss2.mergeSort (fun x y => decide (x ≤ y)) = ws from h1]; have := HL.out.1; simpa using this
 rw [hl2, show ss2.mergeSort (fun x y => decide (x ≤ y)) = ws from HW5.out ss2 hp2] at hown2
 have HO7 := Lib.hid ho2
 have HR2 := Lib.hid (own_list hown2)
 have HRW := Lib.hid (own_kept HL.out hb2)
 rw [hl2]
 have HSM := Lib.hid (same_yes V2 V2.heap.size A2 A m m c2 cp (ws.map bs) (ws.map bs) HR2.out (own_list HRW.out) (Nat.le_refl _) (by unfold maxLen; omega) (by unfold maxLen; omega) rfl)
 clear HL1 hp2 hown2 hb2 ho2 hl2
 go_wp2_with fail
 refine HSM.out.mono ?_
 rintro e V3 ⟨rfl, hv3⟩
 have HO8 := Lib.hid (HO7.out.on hv3)
 have HRW3 := Lib.hid (own_kept HRW.out hv3)
 clear HRW HR2 hv3 HSM
 go_wp2_with fail
 refine (HRS.out _ HO8.out).mono ?_
 rintro e V4 ⟨rfl, ho4, hr4⟩
 have HRW4 := Lib.hid (hr4.own HRW3.out (by decide))
 have HL2 := Lib.hid (dr_list ho4 HF6.out HDN6.out)
 clear HO8 HRW3 ho4 hr4
 go_wp2_with fail
 refine HL2.out.mono ?_
 rintro e V5 ⟨⟨v5, ss5, rfl, hp5, hown5, hb5⟩, ho5⟩
 obtain ⟨A5, c5, rfl, _⟩ := own_shape hown5
 have hl5 : ss5.length = m := by have h1 := (HWA.out _ ho5).1 ss5 hp5; have h3 : (ss5.mergeSort (fun x y => decide (x ≤ y))).length = ss5.length := List.length_mergeSort _; rw [← h3, show ss5.mergeSort (fun x y => decide (x ≤ y)) = ws from h1]; have := HL.out.1; simpa using this
 rw [hl5, show ss5.mergeSort (fun x y => decide (x ≤ y)) = ws from (HWA.out _ ho5).1 ss5 hp5] at hown5
 have HOA := Lib.hid ho5
 have HR5 := Lib.hid (own_list hown5)
 have HRW5 := Lib.hid (own_kept HRW4.out hb5)
 rw [hl5]
 have HSM := Lib.hid (same_yes V5 V5.heap.size A5 A m m c5 cp (ws.map bs) (ws.map bs) HR5.out (own_list HRW5.out) (Nat.le_refl _) (by unfold maxLen; omega) (by unfold maxLen; omega) rfl)
 clear HL2 hp5 hown5 hb5 ho5 hl5
 go_wp2_with fail
 refine HSM.out.mono ?_
 rintro e V6 ⟨rfl, hv6⟩
 have HOB := Lib.hid (HOA.out.on hv6)
 have HRW6 := Lib.hid (own_list (own_kept HRW5.out hv6))
 have HRD := Lib.hid (HWA.out _ HOB.out).2
 clear HRW5 HR5 hv6 HSM
 go_wp2_with fail
 refine cleans_d w V6 p D6 HOB A m cp ws (by omega) HRW6 HRD _ _ _ _ _ _ _ _ _ _ _ _ _ _ _ _ _ _ _ _ _ _ _ _ _ _ _ _ _ _ _ _ _ _ _ _ _ _ _ _ _ _ _ _ _ _ _ _ _ _ _ _ _ _ _ _ _ _ _ _ _ _ _ _ _ _ _ _ _ _ _ _ _ _ _ _ _ _ _ _ _ _ _ _ _ _ _ _ _ _ _ _ _ _ _ _ _ _ _ _ _ _ _ _ _ _ _ _ _ _ _ _ _ _ _ _ _ _ _ _ _ _ _ _ _ _ _ _ _ _ _ _ _ _ (fun c a a' w hd h => by cases a; cases a'; cases hd; exact h) ?_
 intro V x13 u6 u14 u15 u111 u112 u113 u114 u115 u116 u117 u118 u119 u120 u121 u122 u123 u124 u125 u126 u127 u128 u129 u130 u131 u132 u133 u134 u135 HBV
 go_wp2_with fail
 go_ret
 exact ⟨rfl, HBV.out⟩
theorem texts_map {w : World} {A : Option Addr} {n c : Nat} {x : Nat → ByteArray} (h : TextsIn w A n c x) : Hid (Sl w w.heap.size 1 A n (((List.range n).map x).map .string)) := by
 have := h.sl
 show Sl _ _ _ _ _ _
 rw [List.map_map]
 exact this
theorem pcleans_walk (w : World) (An : Option Addr) (nn cn : Nat) (x : Nat → ByteArray) (hx : TextsIn w An nn cn x) (Ak : Option Addr) (nk ck : Nat) (y : Nat → ByteArray) (hy : TextsIn w Ak nk ck y) (loss : Int) (_ : (Lit.int .i64 loss).wf = true) (hTE : Tab w ∧ Errs w) :
  Calls Tryz.prog 6 #[.slice An nn cn, .slice Ak nk ck, .int .i64 loss] w fun e w' => e = .returned (.bool true) ∧ Below w.heap.size w w' := by
 by_cases h : 60 < nn
 ·exact pcleans_many w hTE.1 hTE.2 An nn cn h Ak nk ck loss
 ·refine pcleans_few w hTE.1 hTE.2 An nn cn _ (by omega) (texts_map hx) (fun s hs => ?_) Ak nk ck _ ?_ (texts_map hy) loss
  ·obtain ⟨i, hi, rfl⟩ := List.mem_map.1 hs
   have := hx.sz i (List.mem_range.1 hi)
   unfold reachBytes at this
   omega
  ·have := hy.rb
   unfold reachBytes at this
   omega
end Go.Proofs.YtkhemhiifhggmaaGreatDoor
namespace Go.Proofs.YtkhemhiifhggmaaGreatDoor
open Go.RowKit Go.Maps Go.Sort
set_option linter.unusedVariables false
section
variable {H : Type} {D : DS H} {f h : ByteArray → Option Int} {g : Int → List UInt8 × Int} {L : Int}
structure Two (n nx0 nx : Int) (l0 l : List Sg) (f : ByteArray → Option Int) (g : Int → List UInt8 × Int) : Prop where
 on : ∀ s k, f s = some k → s = newN ∨ s = bs (nameP 112 n) ∨ s = bs (nameP 112 (n + 1))
 c1 : ∀ k, f (bs (nameP 112 (n + 1))) = some k → (g k).1 = sealB 2 (textP nx l)
 c0 : f (bs (nameP 112 (n + 1))) = none → ∃ k, f (bs (nameP 112 n)) = some k ∧ (g k).1 = sealB 2 (textP nx0 l0)
theorem Two.names {n nx0 nx : Int} {l0 l : List Sg} (t : Two n nx0 nx l0 l f g) (v : Vw D.names f) (hK : StrK D.names) : ∀ s ∈ strKeys D.names, s.length ≤ 1000 := by
 intro s hs
 rw [hK.mem, (v.2 _).1] at hs
 obtain ⟨k, hk⟩ := Option.isSome_iff_exists.1 hs
 rcases t.on _ _ hk with e | e | e
 ·have : s = [110, 101, 119] := bs_inj e
  rw [this]
  decide
 ·rw [bs_inj e]
  have := name_le 112 n
  omega
 ·rw [bs_inj e]
  have := name_le 112 (n + 1)
  omega
theorem Two.look {n nx0 nx : Int} {l0 l : List Sg} (t : Two n nx0 nx l0 l f g) (hn : 1 ≤ n ∧ n + 1 ≤ 999999999) (hp0 : PtOk nx0 l0) (hp : PtOk nx l) (v : DV D f h g L) (hd : D.down = false) (hK : StrK D.names) {ss : List (List UInt8)} (hss : ss.Perm (strKeys D.names)) :
  (latestD D ss = some (n + 1, nx, l) ∧ f (bs (nameP 112 (n + 1))) ≠ none) ∨ (f (bs (nameP 112 (n + 1))) = none ∧ latestD D ss = some (n, nx0, l0)) := by
 have hl := ptOk_len hp
 have hl0 := ptOk_len hp0
 cases e : f (bs (nameP 112 (n + 1))) with
 |
  some k =>
  left
  refine ⟨latest_at (p := (nx, l)) v hd hK hss (by omega) e (by rw [t.c1 k e]; exact read_seal hp (by omega)) fun s k' hk => ?_, by simp⟩
  rcases t.on s k' hk with e | e | e
  ·exact .inl e
  ·exact .inr ⟨n, by omega, e⟩
  ·exact .inr ⟨n + 1, by omega, e⟩
 |
  none =>
  right
  obtain ⟨k, hk, hgk⟩ := t.c0 e
  refine ⟨rfl, latest_at (p := (nx0, l0)) v hd hK hss (by omega) hk (by rw [hgk]; exact read_seal hp0 (by omega)) fun s k' hk' => ?_⟩
  rcases t.on s k' hk' with e' | e' | e'
  ·exact .inl e'
  ·exact .inr ⟨n, by omega, e'⟩
  ·rw [e', e] at hk'
   cases hk'
structure Swp (n nx0 nx : Int) (l0 l : List Sg) (a q : Int) (R : DS H × Int) : Prop where
 fin : (R.2 = 0 ∧ 5 ≤ a) ∨ (R.2 = q ∧ a ≤ 4)
 dn : R.2 = 0 ∨ q = 14 → R.1.down = false
 nms : StrK R.1.names → ∀ s ∈ strKeys R.1.names, s.length ≤ 1000
 lat : StrK R.1.names → R.1.down = false → ∀ ss, ss.Perm (strKeys R.1.names) → latestD R.1 ss = some (n + 1, nx, l) ∨ (R.2 ≠ 0 ∧ latestD R.1 ss = some (n, nx0, l0))
 rnm : ∀ (loss : Int) (M : Nat), R.1.good M → StrK R.1.names → StrK (R.1.restart loss).names → ∀ s ∈ strKeys (R.1.restart loss).names, s.length ≤ 1000
 rlt : ∀ (loss : Int) (M : Nat), R.1.good M → StrK R.1.names → StrK (R.1.restart loss).names → ∀ ss, ss.Perm (strKeys (R.1.restart loss).names) → latestD (R.1.restart loss) ss = some (n + 1, nx, l) ∨ (R.2 ≠ 0 ∧ latestD (R.1.restart loss) ss = some (n, nx0, l0))
theorem name_ne {n : Int} (hn : 1 ≤ n ∧ n + 1 ≤ 999999999) : bs (nameP 112 n) ≠ bs (nameP 112 (n + 1)) := fun e => by
 have := name_inj (c := 112) ⟨hn.1, by omega⟩ ⟨by omega, hn.2⟩ (by decide) (bs_inj e)
 omega
theorem newN_ne (n : Int) : bs (nameP 112 n) ≠ newN := fun e => new_ne n (bs_inj e)
theorem whole_take {g g' : Int → List UInt8 × Int} {k : Int} {x : List UInt8} (h : g k = (x, (x.length : Int))) {m : Nat} (m0 : (g k).2 ≤ m) (hm : (g' k).1 = (g k).1.take m) : (g' k).1 = x := by
 rw [h] at m0 hm
 simp only at m0 hm
 rw [hm, List.take_of_length_le (by omega)]
theorem swaps_plain (v : DV D f f g L) {n nx0 nx : Int} {l0 l : List Sg} (hn : 1 ≤ n ∧ n + 1 ≤ 999999999) (hp0 : PtOk nx0 l0) (hp : PtOk nx l) (hk : f (bs (nameP 112 n)) = some 1) (hg : g 1 = (sealB 2 (textP nx0 l0), ((sealB 2 (textP nx0 l0)).length : Int)))
  (hon : ∀ s k, f s = some k → s = bs (nameP 112 n)) {a q : Int} (hA : Ar D a q) (ha : 0 ≤ a) (hq : q ≠ 0) : Swp n nx0 nx l0 l a q (saveD D (n + 1) nx l) := by
 have hL : 1 ≤ L := v.b _ _ hk
 have hne := name_ne hn
 have hf1 : f (bs (nameP 112 (n + 1))) = none := by
  cases e : f (bs (nameP 112 (n + 1))) with
  | none => rfl
  | some k => exact absurd (hon _ _ e).symm hne
 have hfn : f newN = none := by
  cases e : f newN with
  | none => rfl
  | some k => exact absurd (hon _ _ e).symm (newN_ne n)
 rw [saveD_eq (by omega) hp]
 have hrun := save_run v hA (by omega) (fun _ => hq) (bs (sealB 2 (textP nx l))) (name_good (c := 112) (n := n + 1) (by omega) (by decide)) (newN_ne _)
 generalize runS (acts (bs (sealB 2 (textP nx l))) (bs (nameP 112 (n + 1)))) D = R at *
 have key : ∀ {f' h' : ByteArray → Option Int} {g' : Int → List UInt8 × Int} {L' : Int}, Aft f g L (bs (sealB 2 (textP nx l))) (bs (nameP 112 (n + 1))) f' g' → Two n nx0 nx l0 l f' g' := by
  intro f' h' g' L' af
  have h0 : f' (bs (nameP 112 n)) = some 1 := by rw [af.o _ (newN_ne n) hne]; exact hk
  refine ⟨fun s k hs => ?_, fun k hs => ?_, fun _ => ⟨1, h0, by rw [af.g 1 hL, hg]⟩⟩
  ·by_cases e : s = newN
   ·exact .inl e
   ·by_cases e1 : s = bs (nameP 112 (n + 1))
    ·exact .inr (.inr e1)
    ·rw [af.o s e e1] at hs
     exact .inr (.inl (hon _ _ hs))
  ·rcases af.y with e | ⟨e, eg⟩
   ·rw [e, hf1] at hs
    cases hs
   ·rw [e] at hs
    injection hs with hs
    rw [← hs, eg, bs_data]
 have rest : ∀ {f' h' : ByteArray → Option Int} {g' : Int → List UInt8 × Int} {L' : Int} {E : DS H}, DV E f' h' g' L' → Aft f g L (bs (sealB 2 (textP nx l))) (bs (nameP 112 (n + 1))) f' g' → (h' = f ∨ h' = f') →
   ∀ (loss : Int) (M : Nat), E.good M → StrK E.names → ∃ f2 g2 L2, DV (E.restart loss) f2 f2 g2 L2 ∧ Two n nx0 nx l0 l f2 g2 ∧ (h' = f' → f' (bs (nameP 112 (n + 1))) ≠ none → f2 (bs (nameP 112 (n + 1))) ≠ none) := by
  intro f' h' g' L' E ve af hh loss M hgd hK
  obtain ⟨f2, g2, L2, v2, r1, r2⟩ := restart_dv ve hgd hK.keyed loss
  have h0 : f' (bs (nameP 112 n)) = some 1 := by rw [af.o _ (newN_ne n) hne]; exact hk
  have h0' : h' (bs (nameP 112 n)) = some 1 := by rcases hh with e | e <;> rw [e] <;> assumption
  have T := key (h' := h') (L' := L') af
  have hsub : ∀ s k, f2 s = some k → f' s = some k ∨ f s = some k := fun s k hs => by
   rcases (r1 s k hs).1 with e | e
   ·rcases hh with e2 | e2
    ·rw [e2] at e; exact .inr e
    ·rw [e2] at e; exact .inl e
   ·exact .inl e
  refine ⟨f2, g2, L2, v2, ⟨fun s k hs => ?_, fun k hs => ?_, fun hno => ?_⟩, fun e hs hno => ?_⟩
  ·rcases hsub s k hs with e | e
   ·exact T.on s k e
   ·exact .inr (.inl (hon s k e))
  ·have e : f' (bs (nameP 112 (n + 1))) = some k := by
    rcases hsub _ k hs with e | e
    ·exact e
    ·rw [hf1] at e; cases e
   obtain ⟨_, m, m0, m1, hm⟩ := r1 _ k hs
   rcases af.y with e2 | ⟨e2, eg⟩
   ·rw [e2, hf1] at e
    cases e
   ·rw [e2] at e
    injection e with e
    rw [← e] at m0 hm ⊢
    rw [bs_data] at eg
    exact whole_take eg m0 hm
  ·cases e : f2 (bs (nameP 112 n)) with
   |
    none =>
    rcases r2 _ e with e' | e'
    ·rw [h0'] at e'; cases e'
    ·rw [h0] at e'; cases e'
   |
    some k =>
    refine ⟨k, rfl, ?_⟩
    have hk1 : k = 1 := by
     rcases hsub _ k e with e' | e'
     ·rw [h0] at e'; injection e' with e'; exact e'.symm
     ·rw [hk] at e'; injection e' with e'; exact e'.symm
    subst hk1
    obtain ⟨_, m, m0, m1, hm⟩ := r1 _ _ e
    have eg : g' 1 = (sealB 2 (textP nx0 l0), ((sealB 2 (textP nx0 l0)).length : Int)) := by rw [af.g 1 hL]; exact hg
    exact whole_take eg m0 hm
  ·rcases r2 _ hno with e' | e'
   ·rw [e] at e'; exact hs e'
   ·exact hs e'
 rcases hrun with ⟨x1, x2, x3, f', g', L', v', af, hy, hgy, hnw⟩ | ⟨x1, x2, x3, x4, x5, f', g', L', v', af⟩
 ·have hd : R.1.down = false := x3.2.2
  have T := key (h' := f') (L' := L') af
  refine ⟨.inl ⟨x1, by omega⟩, fun _ => hd, fun hK => T.names v'.n hK, fun hK _ ss hss => ?_, fun loss M hgd hK hK' => ?_, fun loss M hgd hK hK' ss hss => ?_⟩
  ·rcases T.look hn hp0 hp v' hd hK hss with e | e
   ·exact .inl e.1
   ·rw [hy] at e; cases e.1
  ·obtain ⟨f2, g2, L2, v2, T2, _⟩ := rest v' af (.inr rfl) loss M hgd hK
   exact T2.names v2.n hK'
  ·obtain ⟨f2, g2, L2, v2, T2, e2⟩ := rest v' af (.inr rfl) loss M hgd hK
   rcases T2.look hn hp0 hp v2 rfl hK' hss with e | e
   ·exact .inl e.1
   ·exact absurd e.1 (e2 rfl (by rw [hy]; simp))
 ·have T := key (h' := f) (L' := L') af
  have hr : R.2 ≠ 0 := by rw [x1]; exact hq
  refine ⟨.inr ⟨x1, x3⟩, fun h => ?_, fun hK => T.names v'.n hK, fun hK hd ss hss => ?_, fun loss M hgd hK hK' => ?_, fun loss M hgd hK hK' ss hss => ?_⟩
  ·rcases h with h | h
   ·exact absurd h hr
   ·rw [x5, h]; rfl
  ·rcases T.look hn hp0 hp v' hd hK hss with e | e
   ·exact .inl e.1
   ·exact .inr ⟨hr, e.2⟩
  ·obtain ⟨f2, g2, L2, v2, T2, _⟩ := rest v' af (.inl rfl) loss M hgd hK
   exact T2.names v2.n hK'
  ·obtain ⟨f2, g2, L2, v2, T2, _⟩ := rest v' af (.inl rfl) loss M hgd hK
   rcases T2.look hn hp0 hp v2 rfl hK' hss with e | e
   ·exact .inl e.1
   ·exact .inr ⟨hr, e.2⟩
end
end Go.Proofs.YtkhemhiifhggmaaGreatDoor
