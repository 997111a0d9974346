/- Arguments of any depth whose bulk is bounded: lengths of all lists in them. -/
import Derived.Test.YtclahhkcbkpofaaDoorHFt52
import Derived.Test.YtclahhkcbkpofaaDoorRows
import Derived.Test.YtclahhkcbkpofaaDoorHFt46
import Derived.Test.YtclahhkcbkpofaaDoorHFt50
import Derived.Test.YtclahhkcbkpofaaDoorHFt51
namespace Go.Proofs.YtclahhkcbkpofaaDoor
open Go.RowKit Go.ChangeShapes Go.WideShapes Go.Deep
/-- What a bulk bounds. -/
structure BulkLaw {H : Type} (bulk : DataW H → Nat) : Prop where
  len : ∀ es sp : List (DataW H), es.length ≤ bulk (.slice es sp)
  elem : ∀ (es sp : List (DataW H)) d, d ∈ es → bulk d ≤ bulk (.slice es sp)
  part : ∀ (ps : List (DataW H)) d, d ∈ ps → bulk d ≤ bulk (.agg ps)
  str : ∀ s : List UInt8, s.length ≤ bulk (.lit (.string s))
/-- All lists in it have at most M elements. -/
def Few (M : Nat) : (t : Ty) → t.den → Prop
  | .slice e _, d => d.1.n ≤ M ∧ ∀ i, i < d.1.n → Few M e (d.2 i)
  | .cons f r, d => Few M f d.1 ∧ Few M r d.2
  | .str, d => (show ByteArray from d).size ≤ M
  | _, _ => True
section
variable {H : Type} {enc : TypeId × Value → H} {P : Program} {w : World} {base : Nat} {spare : Nat → Bool} {held : Bool}
theorem readb_fields {bulk : DataW H → Nat} (bk : BulkLaw bulk) {M : Nat} {k n : Nat} (ih : ∀ (t : TypeId) (τ : Ty), tyOf P k t = some τ → ∀ (fuel : Nat) (cs : List Value) (x : DataW H × List MemPlace), DataW.trod enc P w base spare held fuel t cs = some x → Small P t x.1 → bulk x.1 ≤ M → ∃ d : τ.den, Reads w w.heap.size τ d cs ∧ Few M τ d) (cs : List Value) :
    ∀ (fs : List Field) (o : Nat) (τ : Ty), tyFields P (tyOf P k) fs o = some τ → cs.length = o + τ.size →
      (∀ f ∈ fs, ∃ y : DataW H × List MemPlace, DataW.trod enc P w base spare held n f.type ((cs.drop f.offset).take (P.cellsOf f.type)) = some y ∧ Small P f.type y.1 ∧ bulk y.1 ≤ M) → ∃ d : τ.den, Reads w w.heap.size τ d (cs.drop o) ∧ Few M τ d
  | [], o, τ, h, hl, _ => by
    rw [tyFields] at h
    injection h with h
    subst h
    exact ⟨(), List.drop_eq_nil_of_le (by rw [hl]; exact Nat.le_refl _), trivial⟩
  | f :: fs, o, τ, h, hl, hf => by
    rw [tyFields] at h
    split at h
    · rename_i ho
      split at h
      · rename_i τ0 h0
        split at h
        · rename_i hc
          cases hr : tyFields P (tyOf P k) fs (o + τ0.size) with
          | none => rw [hr] at h; cases h
          | some τ1 =>
            rw [hr] at h
            injection h with h
            subst h
            have hl' : cs.length = o + τ0.size + τ1.size := by rw [hl]; show o + (τ0.size + τ1.size) = _; omega
            obtain ⟨y, hy, hs, hbk⟩ := hf f (List.mem_cons_self ..)
            obtain ⟨d0, r0, f0⟩ := ih f.type τ0 h0 n _ y hy hs hbk
            obtain ⟨d1, r1, f1⟩ := readb_fields bk ih cs fs (o + τ0.size) τ1 hr hl' (fun g hg => hf g (List.mem_cons_of_mem _ hg))
            rw [hc, ho] at r0
            refine ⟨(d0, d1), ⟨(cs.drop o).take τ0.size, cs.drop (o + τ0.size), ?_, ?_, r0, r1⟩, f0, f1⟩
            · rw [← List.drop_drop, List.take_append_drop]
            · rw [List.length_take, List.length_drop]; omega
        · cases h
      · cases h
    · cases h
theorem readb_of {bulk : DataW H → Nat} (bk : BulkLaw bulk) {M : Nat} : ∀ (k : Nat) (t : TypeId) (τ : Ty), tyOf P k t = some τ → ∀ (fuel : Nat) (cs : List Value) (x : DataW H × List MemPlace), DataW.trod enc P w base spare held fuel t cs = some x → Small P t x.1 → bulk x.1 ≤ M → ∃ d : τ.den, Reads w w.heap.size τ d cs ∧ Few M τ d
  | 0, t, τ, h, _, _, _, _, _, _ => by rw [tyOf] at h; cases h
  | k + 1, t, τ, h, fuel, cs, x, hx, hs, hM => by
    have ih := readb_of bk (M := M) k
    rw [tyOf] at h
    split at h
    · rename_i kk hu
      injection h with h
      subst h
      obtain ⟨z, e, _, wz⟩ := DataW.trod_int hu hx
      exact ⟨z, ⟨z, rfl, e, wz⟩, trivial⟩
    · rename_i hu
      injection h with h
      subst h
      obtain ⟨b, e, _⟩ := DataW.trod_bool hu hx
      exact ⟨b, ⟨b, rfl, e⟩, trivial⟩
    · rename_i hu
      injection h with h
      subst h
      obtain ⟨s, e, ex, hm⟩ := DataW.trod_string hu hx
      subst ex
      refine ⟨s, ⟨s, rfl, e, hm, ?_⟩, ?_⟩
      · have := hs s.data.toList.length (by simp [DataW.weights])
        simpa using this
      · have := bk.str s.data.toList
        have h2 : s.data.toList.length = s.size := rfl
        show s.size ≤ M
        exact Nat.le_trans (by rw [← h2]; exact this) hM
    · rename_i e hu
      split at h
      · rename_i τ0 h0
        split at h
        · rename_i hc
          obtain ⟨hc, hp⟩ := hc
          injection h with h
          subst h
          rcases open_slice hu hx with ⟨hcs, _⟩ | ⟨a, len, cap, mm, nn, D, Pl, hcs, _, hlc, hcm, hmm, ex, hi⟩
          · obtain ⟨x0⟩ := Ty.inh τ0
            exact ⟨(⟨none, 0, 0⟩, fun _ => x0), ⟨hcs, ⟨Nat.le_refl _, Nat.zero_le _, by rw [Nat.zero_mul]; exact Nat.zero_le _, fun _ => rfl⟩, fun h => absurd h (Nat.lt_irrefl _)⟩, Nat.zero_le _, fun i h => absurd h (Nat.not_lt_zero _)⟩
          · have hle : len ≤ mm := by rw [hmm]; split <;> omega
            subst ex
            have hsl : Small P t (DataW.slice ((List.range len).map D) ((List.range (mm - len)).map fun j => D (len + j))) := hs
            have hbytes : len * P.bytesOf e ≤ reachBytes := by
              have := hsl ((((List.range len).map D).length + ((List.range (mm - len)).map fun j => D (len + j)).length) * P.bytesOf e) (by simp [DataW.weights, hu])
              refine Nat.le_trans (Nat.mul_le_mul_right _ ?_) this
              simp
            have row : ∀ i, i < len → ∃ d : τ0.den, ∃ cl : List Value, cl.length = τ0.size ∧ (∀ j u, cl[j]? = some u → w.cell? ((a.add (i * τ0.size)).add j) = some u) ∧ Reads w w.heap.size τ0 d cl ∧ Few M τ0 d := by
              intro i hin
              obtain ⟨cs', hcs', htr⟩ := hi i (by omega)
              rw [hc] at hcs'
              obtain ⟨_, hcl, hat⟩ := World.cells?_some hcs'
              obtain ⟨d, hd, hfw⟩ := ih e τ0 h0 nn cs' _ htr (fun n hn => hsl n (by
                rw [DataW.weights, hu]
                simp only [List.mem_cons, List.mem_append]
                exact .inr (.inl (weights_mem_all (List.mem_map.2 ⟨i, List.mem_range.2 hin, rfl⟩) n hn)))) (Nat.le_trans (bk.elem _ _ _ (List.mem_map.2 ⟨i, List.mem_range.2 hin, rfl⟩)) hM)
              refine ⟨d, cs', hd.len, fun j u hu => ?_, hd, hfw⟩
              have hj : j < τ0.size := by have := (List.getElem?_eq_some_iff.1 hu).1; have := hd.len; omega
              rw [hat j hj, hu]
            haveI : Inhabited τ0.den := ⟨Classical.choice (Ty.inh τ0)⟩
            obtain ⟨g, hg⟩ := choose_lt' row
            refine ⟨(⟨some a, len, cap⟩, g), ⟨hcs, ⟨hlc, hcm, hbytes, fun e => by cases e⟩, fun hn => ?_⟩, by
              have h1 := bk.len ((List.range len).map D) ((List.range (mm - len)).map fun j => D (len + j))
              rw [List.length_map, List.length_range] at h1
              exact Nat.le_trans h1 hM, fun i hin => by
              obtain ⟨cl, _, _, _, h5⟩ := hg i hin
              exact h5⟩
            have hn' : 0 < len := hn
            obtain ⟨cl, hl, hcell, _⟩ := hg 0 hn'
            have h00 := hcell 0 (cl[0]'(by omega)) (List.getElem?_eq_getElem _)
            obtain ⟨hb, hsp⟩ := lt_of_cell h00
            simp only [Nat.zero_mul, Addr.add, if_true] at hb hsp
            obtain ⟨ab, ao, asp⟩ := a
            simp only at hb hsp
            subst hsp
            refine ⟨ab, ao, rfl, hb, fun i hin => ?_⟩
            obtain ⟨cl, hl, hcell, hr, _⟩ := hg i hin
            refine ⟨cl, hl, fun j u hu => ?_, hr⟩
            have := hcell j u hu
            rw [Addr.add_lit, Addr.add_lit, Nat.add_assoc] at this
            exact this
        · cases h
      · cases h
    · rename_i fs hu
      split at h
      · rename_i τ0 h0
        split at h
        · rename_i hc
          injection h with h
          subst h
          obtain ⟨xs, n, _, ex, hl, hxl, hf⟩ := DataW.trod_struct hu hx
          subst ex
          have hS : Small P t (DataW.agg (xs.map (·.1))) := hs
          have hMb : bulk (DataW.agg (xs.map (·.1))) ≤ M := hM
          have := readb_fields bk (n := n) ih cs fs.toList 0 τ0 h0 (by rw [hl, hc, Nat.zero_add]) (fun f hm => by
            obtain ⟨i, hi⟩ := List.mem_iff_getElem?.1 hm
            have hi' : fs[i]? = some f := by simpa using hi
            have hlt : i < xs.length := by rw [hxl]; exact (Array.getElem?_eq_some_iff.1 hi').1
            refine ⟨xs[i], by rw [hf i f hi', List.getElem?_eq_getElem hlt], fun m hm' => hS m ?_, Nat.le_trans (bk.part _ _ (List.mem_map.2 ⟨xs[i], List.getElem_mem hlt, rfl⟩)) hMb⟩
            rw [DataW.weights, hu]
            exact DataW.weights_mem_each (j := i) (t := f.type) (d := xs[i].1) (by simp [hi]) (by simp [hlt]) m hm')
          rwa [List.drop_zero] at this
        · cases h
      · cases h
    · cases h
theorem open_deepb {bulk : DataW H → Nat} (bk : BulkLaw bulk) {M : Nat} {k bytes : Nat} {t : TypeId} {e : Ty} {A : Option Addr} {n c : Nat} {d : DataW H} {p : List MemPlace} (hT : tyOf P k t = some (.slice e bytes)) (h : DataW.Trod enc P w base spare held t (.slice A n c) d p) (hs : Small P t d) (hM : bulk d ≤ M) :
    ∃ x : Nat → e.den, Reads w w.heap.size (.slice e bytes) (⟨A, n, c⟩, x) [.slice A n c] ∧ n ≤ M ∧ ∀ i, i < n → Few M e (x i) := by
  obtain ⟨m, hm⟩ := h
  obtain ⟨⟨⟨A', n', c'⟩, x⟩, hr, hf⟩ := readb_of bk k t _ hT m _ _ hm hs hM
  have e : [Value.slice A n c] = [.slice A' n' c'] := hr.1
  simp only [List.cons.injEq, Value.slice.injEq, and_true] at e
  obtain ⟨rfl, rfl, rfl⟩ := e
  exact ⟨x, hr, hf.1, hf.2⟩
end
end Go.Proofs.YtclahhkcbkpofaaDoor
/- Arguments of texts, of a bounded bulk. -/
namespace Go.Proofs.YtclahhkcbkpofaaDoor
open Go.RowKit Go.Maps
/-- An argument of texts that are not too long. -/
structure TextsB (w : World) (A : Option Addr) (n c : Nat) (x : Nat → ByteArray) : Prop where
  ok : TextsIn w A n c x
  few : ∀ i, i < n → (x i).size ≤ 1048576
theorem textsb_in {w : World} {A : Option Addr} {n c : Nat} {x : Nat → Ty.str.den} {cs : List Value} (h : Reads w w.heap.size (.slice .str 16) (⟨A, n, c⟩, x) cs) (_ : n ≤ 1048576) (hf : ∀ i, i < n → Few 1048576 .str (x i)) : TextsB w A n c x := ⟨texts_in h, fun i hi => hf i hi⟩
theorem TextsB.get {w W : World} {A : Option Addr} {n c : Nat} {x : Nat → ByteArray} (h : TextsB w A n c x) (hb : Below w.heap.size w W) {i : Nat} (hi : i < n) : ∃ b off t, A = some ⟨b, off, none⟩ ∧ b < W.heap.size ∧ (t : List UInt8).length ≤ 1048576 ∧ W.cell? ⟨b, off + i, none⟩ = some (.string ⟨t.toArray⟩) := by
  obtain ⟨b, off, t, h1, h2, h3, _, h5⟩ := h.ok.get hb hi
  refine ⟨b, off, t, h1, h2, ?_, h5⟩
  have h6 := h.few i hi
  rw [h3] at h6
  exact h6
end Go.Proofs.YtclahhkcbkpofaaDoor
/- The walk of FuzzyTakes. -/
namespace Go.Proofs.YtclahhkcbkpofaaDoor
open Go.RowKit
open Sp
set_option linter.unusedVariables false
theorem FzE.nz {t : List UInt8} {E X z : Int} (h : FzE t E X z) : z ≠ 0 := by
  rcases h with ⟨_, _, _, h⟩ | ⟨h, _⟩ | ⟨h, _⟩
  · exact h
  · omega
  · omega
set_option maxRecDepth 100000 in
set_option maxHeartbeats 8000000 in
theorem ftakes_bad (w : World) (t : List UInt8) (ht : t.length ≤ 17592186044414) (E X z : Int) (hz : FzE t E X z) (hT : Tab w) (A : Option Addr) (n c : Nat) :
    Calls Tryd.prog 6 #[.string ⟨t.toArray⟩, .int .i64 E, .int .i64 X, .slice A n c] w fun e w' => e = .returned (.bool true) ∧ Below w.heap.size w w' := by
  have HF := Lib.hid (fuzzy_bad w t ht E X z hz)
  have HT := Lib.hid hT
  have HZ := Lib.hid hz
  have hz0 := hz.nz
  have q0 : (z == 0) = false := by rw [beq_eq_false_iff_ne]; exact hz0
  clear hT hz
  go_enter Tryd.func6, Tryd.ntmps6
  go_wp2_with fail
  refine HF.out.mono ?_
  rintro e w1 ⟨hb1, rfl⟩
  have HB1 := Lib.hid hb1
  clear hb1 HF
  go_wp2_with fail
  refine (fmay_any w1 t ht E X).mono ?_
  rintro e w2 ⟨hb2, ⟨v, l, rfl, hd, hl, hbd, _⟩ | ⟨y, rfl, hy, hzy⟩⟩
  · exact (HZ.out.no hd hl hbd).elim
  · obtain rfl := HZ.out.one hzy
    have HB2 := Lib.hid (bcall HB1.out hb2)
    clear hb2 hy hzy
    go_wp2_with fail
    refine (fawake_any w2 (HT.out.below HB2.out)).mono ?_
    rintro e w3 ⟨rfl, hb3⟩
    have HB3 := Lib.hid (bcall HB2.out hb3)
    clear hb3
    go_wp2_with fail
    refine (fawake_any w3 (HT.out.below HB3.out)).mono ?_
    rintro e w4 ⟨rfl, hb4⟩
    have HB4 := Lib.hid (bcall HB3.out hb4)
    clear hb4
    go_wp2_with fail
    go_ret
    exact ⟨rfl, HB4.out⟩
theorem let_whole {c : Int} (h : letB c = true) : wholeB c = true ∧ c ≤ 65535 := by
  have := let_cases c
  simp only [h, Bool.true_eq_false, and_false, and_true, false_or, or_false] at this
  refine ⟨wholeB_yes (by omega), by omega⟩
theorem lets_w {f : List Int} (h : letsE f [] = 0) : LetW f := fun c hc => let_whole (all_letter (lets_zero h).2.2 hc)
set_option maxRecDepth 100000 in
set_option maxHeartbeats 8000000 in
theorem ftakes_good (w : World) (t : List UInt8) (ht : t.length ≤ 17592186044414) (E X : Nat) (l : List Int) (hl : Dec (bytesN t) l) (he : letsE (l.map foldI) [] = 0) (hE : E ≤ 2) (hX : X ≤ l.length) (hT : Tab w) (A : Option Addr) (n c : Nat) (x : Nat → ByteArray) (hx : TextsB w A n c x) :
    Calls Tryd.prog 6 #[.string ⟨t.toArray⟩, .int .i64 (E : Int), .int .i64 (X : Int), .slice A n c] w fun e w' => e = .returned (.bool true) ∧ Below w.heap.size w w' := by
  obtain ⟨f, hf⟩ : ∃ f, l.map foldI = f := ⟨_, rfl⟩
  have hfl : f.length = l.length := by rw [← hf, List.length_map]
  have he2 := he
  rw [hf] at he2
  have HF := Lib.hid (fuzzy_any w t ht hT l hl he f hf E X hE (by omega) (fuz_sets hE (lets_zero he2).1 (by omega) (lets_w he2)))
  have HT := Lib.hid hT
  have HD := Lib.hid hl
  have HE := Lib.hid he
  have HX := Lib.hid hx
  clear hT hl he he2 hx
  go_enter Tryd.func6, Tryd.ntmps6
  go_wp2_with fail
  refine HF.out.mono ?_
  rintro e w1 ⟨hb1, A1, c1, hs, rfl, hst, hh, hgd, htk⟩
  have HB1 := Lib.hid hb1
  have HS1 := Lib.hid hst
  have HG1 := Lib.hid hgd
  have HK1 := Lib.hid htk
  obtain ⟨nh, hnh⟩ : ∃ k, hs.length = k := ⟨_, rfl⟩
  rw [hnh] at HS1 hh ⊢
  clear hb1 hst hgd htk HF hnh
  go_wp2_with fail
  refine (fmay_any w1 t ht (E : Int) (X : Int)).mono ?_
  rintro e w2 ⟨hb2, ⟨v, l', rfl, hd, hle', hbd', ho⟩ | ⟨y, rfl, hy, hzy⟩⟩
  · obtain rfl := hd.inj HD.out
    rw [hf] at ho
    obtain ⟨A2, cp, rfl, hcp⟩ := own_shape ho
    have HB2 := Lib.hid (bcall HB1.out hb2)
    have HS2 := Lib.hid (HS1.out.keep hb2 (Nat.le_refl _))
    have HSL := Lib.hid (Sl.of_own ho)
    obtain ⟨m, hm⟩ : ∃ k, l'.length = k := ⟨_, rfl⟩
    rw [hm] at HSL hX hfl hcp ⊢
    have hs2 := hb2.size
    clear hb2 hd ho hm hle' hbd'
    go_wp2_with fail
    refine (fawake_any w2 (HT.out.below HB2.out)).mono ?_
    rintro e w3 ⟨rfl, hb3⟩
    have HB3 := Lib.hid (bcall HB2.out hb3)
    have HS3 := Lib.hid (HS2.out.keep (hb3.mono hs2) (Nat.le_refl _))
    have hs23 := hb3.size
    have HSL3 := Lib.hid (HSL.out.below hb3)
    clear hb3 HS1 HS2 HSL
    have hs3 : w1.heap.size ≤ w3.heap.size ∧ w2.heap.size ≤ w3.heap.size := ⟨by omega, hs23⟩
    go_wp2_with fail
    go_loopw [13] (fun iv wr => ∃ i : Nat, i ≤ n ∧ i ≤ 20 ∧ iv = .int .i64 (i : Int) ∧ Hid (Below w.heap.size w wr) ∧ Hid (Below w3.heap.size w3 wr)) (fun iv _ => n + 1 - (intOf iv).toNat)
    case atStart => exact ⟨0, Nat.zero_le _, by omega, rfl, HB3, brefl w3⟩
    case round =>
      obtain ⟨i, hin, hi20, rfl, HBR, HBW⟩ := hrel
      by_cases hlt : i < n ∧ i < 20
      · obtain ⟨g1, g2⟩ := hlt
        have q1 : decide (i < n) = true := decide_eq_true g1
        have q2 : decide (i < 20) = true := decide_eq_true g2
        obtain ⟨tb, to_, tx, rfl, ht1, ht2, ht3⟩ := HX.out.get HBR.out g1
        go_wp2_with fail
        refine (rdecode_any wr tx (by omega)).mono ?_
        rintro e w5 ⟨hb5, ⟨v, l5, rfl, hd5, ho5⟩ | ⟨rfl, hno⟩⟩
        · obtain ⟨A5, c5, rfl, hc5⟩ := own_shape ho5
          have HBR5 := Lib.hid (bcall HBR.out hb5)
          have HBW5 := Lib.hid (bcall HBW.out hb5)
          have hcell := (hb5.cell (p := ⟨tb, to_ + i, none⟩) ht1).trans ht3
          have htb : tb < w5.heap.size := Nat.lt_of_lt_of_le ht1 hb5.size
          have HS5 := Lib.hid (HS3.out.keep (HBW5.out.mono hs3.1) (Nat.le_refl _))
          have HSL5 := Lib.hid (HSL3.out.below (HBW5.out.mono hs3.2))
          have HL5 := Lib.hid (Sl.of_own ho5)
          have HD5 := Lib.hid hd5
          obtain ⟨k5, hk5⟩ : ∃ k, l5.length = k := ⟨_, rfl⟩
          rw [hk5] at HL5 hc5 ⊢
          have HK5 := Lib.hid hk5
          clear hb5 hd5 ho5 hk5 ht1 ht3
          by_cases hk : k5 < 100
          · have q3 : decide (k5 < 100) = true := decide_eq_true hk
            go_wp2_with fail
            refine (accepts_any w5 w1.heap.size (by have := HBW5.out.size; omega) A1 nh c1 hs HS5.out tx (by omega)).mono ?_
            rintro e w6 ⟨rfl, hb6⟩
            have HBR6 := Lib.hid (bcall HBR5.out hb6)
            have HBW6 := Lib.hid (bcall HBW5.out hb6)
            have s1 := (HSL5.out.more (by have := HBW5.out.size; omega)).below hb6
            have s2 := HL5.out.below hb6
            have hz6 := hb6.size
            have htk : takesB (hs.map (·.d)) tx = decide (f.take X <+: l5 ∧ lev (f.drop X) (l5.drop X) ≤ E) := by
              rw [HK1.out tx, Bool.eq_iff_iff, decide_eq_true_eq, near_iff (by omega)]
              exact fuz_takes (by omega) HD5.out
            rw [htk]
            have HNR := Lib.hid (near_any w6 w5.heap.size hz6 A2 A5 m k5 cp c5 f l5 s1 s2 (by have := (lets_zero (hf ▸ HE.out)).1; omega) (by omega) hcp hc5 E X hE hX)
            obtain ⟨nb, hnb⟩ : ∃ b, decide (f.take X <+: l5 ∧ lev (f.drop X) (l5.drop X) ≤ E) = b := ⟨_, rfl⟩
            rw [hnb] at HNR ⊢
            clear hb6 s1 s2 hnb htk hz6
            go_wp2_with fail
            refine HNR.out.mono ?_
            rintro e w7 ⟨rfl, hb7⟩
            have HBR7 := Lib.hid (bcall HBR6.out hb7)
            have HBW7 := Lib.hid (bcall HBW6.out hb7)
            clear hb7 HNR
            go_wp2_with fail
            go_roundw
            case rel => exact ⟨i + 1, by omega, by omega, by go_num, HBR7, HBW7⟩
            case measure => first | (simp [intOf]; done) | (simp [intOf]; omega)
          · have q3 : decide (k5 < 100) = false := decide_eq_false hk
            go_wp2_with fail
            go_roundw
            case rel => exact ⟨i + 1, by omega, by omega, by go_num, HBR5, HBW5⟩
            case measure => first | (simp [intOf]; done) | (simp [intOf]; omega)
        · have HBR5 := Lib.hid (bcall HBR.out hb5)
          have HBW5 := Lib.hid (bcall HBW.out hb5)
          clear hb5 ht1 ht3 hno
          go_wp2_with fail
          go_roundw
          case rel => exact ⟨i + 1, by omega, by omega, by go_num, HBR5, HBW5⟩
          case measure => first | (simp [intOf]; done) | (simp [intOf]; omega)
      · obtain ⟨p1, p2⟩ | p1 : (i < n ∧ ¬ i < 20) ∨ ¬ i < n := by omega
        · have q1 : decide (i < n) = true := decide_eq_true p1
          have q2 : decide (i < 20) = false := decide_eq_false p2
          clear hlt
          go_wp2_with fail
          refine (dcheck_any wr w1.heap.size (by have := HBW.out.size; omega) A1 nh c1 hs (HS3.out.keep (HBW.out.mono hs3.1) (Nat.le_refl _))).mono ?_
          rintro e w5 ⟨rfl, hb5⟩
          rw [(good_iff _).2 HG1.out]
          have HB5 := Lib.hid (bcall HBR.out hb5)
          clear hb5
          go_wp2_with fail
          go_ret
          exact ⟨rfl, HB5.out⟩
        · have q1 : decide (i < n) = false := decide_eq_false p1
          clear hlt
          go_wp2_with fail
          refine (dcheck_any wr w1.heap.size (by have := HBW.out.size; omega) A1 nh c1 hs (HS3.out.keep (HBW.out.mono hs3.1) (Nat.le_refl _))).mono ?_
          rintro e w5 ⟨rfl, hb5⟩
          rw [(good_iff _).2 HG1.out]
          have HB5 := Lib.hid (bcall HBR.out hb5)
          clear hb5
          go_wp2_with fail
          go_ret
          exact ⟨rfl, HB5.out⟩
  · exact (hzy.no HD.out HE.out (by omega)).elim
theorem ftakes_walk (w : World) (t : List UInt8) (ht : t.length ≤ 17592186044414) (E X : Int) (hT : Tab w) (A : Option Addr) (n c : Nat) (x : Nat → ByteArray) (hx : TextsB w A n c x) :
    Calls Tryd.prog 6 #[.string ⟨t.toArray⟩, .int .i64 E, .int .i64 X, .slice A n c] w fun e w' => e = .returned (.bool true) ∧ Below w.heap.size w w' := by
  by_cases hd : ∃ l, Dec (bytesN t) l
  · obtain ⟨l, hl⟩ := hd
    by_cases h0 : letsE (l.map foldI) [] = 0
    · by_cases hb : 0 ≤ E ∧ E ≤ 2 ∧ 0 ≤ X ∧ X ≤ (l.length : Int)
      · obtain ⟨b1, b2, b3, b4⟩ := hb
        obtain ⟨E', rfl⟩ := Int.eq_ofNat_of_zero_le b1
        obtain ⟨X', rfl⟩ := Int.eq_ofNat_of_zero_le b3
        exact ftakes_good w t ht E' X' l hl h0 (by omega) (by omega) hT A n c x hx
      · exact ftakes_bad w t ht E X 1 (.inr (.inr ⟨rfl, l, hl, h0, hb⟩)) hT A n c
    · exact ftakes_bad w t ht E X _ (.inl ⟨l, hl, rfl, h0⟩) hT A n c
  · exact ftakes_bad w t ht E X 7 (.inr (.inl ⟨rfl, fun l h => hd ⟨l, h⟩⟩)) hT A n c
theorem upto_ft {H : Type} {a : List UInt8} {E X : Int} {d : DataW H} (hk : Rows.uptoSmall H ([.lit (.string a), .lit (.int .i64 E), .lit (.int .i64 X), d] ++ []) = true) : a.length ≤ 1048576 := by
  have h := of_decide_eq_true hk
  simp only [List.append_nil, Rows.uptoBulkAll, Rows.uptoBulk] at h
  omega
theorem ftakes_walkc (w : World) {H : Type} {d : DataW H} (s : ByteArray) (_ : s.size ≤ maxLen) (_ : s.data.toList.length ≤ reachBytes) (E : Int) (_ : (Lit.int .i64 E).wf = true) (X : Int) (_ : (Lit.int .i64 X).wf = true) (A : Option Addr) (n c : Nat) (x : Nat → ByteArray) (hx : TextsB w A n c x) (hk : Rows.uptoSmall H ([.lit (.string s.data.toList), .lit (.int .i64 E), .lit (.int .i64 X), d] ++ []) = true) (hT : Tab w) :
    Calls Tryd.prog 6 #[.string s, .int .i64 E, .int .i64 X, .slice A n c] w fun e w' => e = .returned (.bool true) ∧ Below w.heap.size w w' := ftakes_walk w s.data.toList (by have := upto_ft hk; omega) E X hT A n c x hx
end Go.Proofs.YtclahhkcbkpofaaDoor
/- What the bound on the bulk gives. -/
namespace Go.Proofs.YtclahhkcbkpofaaDoor
theorem bulk_one {H : Type} (d : DataW H) : 1 ≤ Rows.uptoBulk d := by
  cases d with
  | lit l => cases l <;> simp [Rows.uptoBulk]
  | nil => simp [Rows.uptoBulk]
  | ptr d => simp [Rows.uptoBulk]
  | slice elems spare => simp [Rows.uptoBulk]
  | agg parts => simp [Rows.uptoBulk]
  | iface t d => simp [Rows.uptoBulk]
  | map entries => simp [Rows.uptoBulk]
  | held h => simp [Rows.uptoBulk]
theorem bulk_mem {H : Type} {d : DataW H} {l : List (DataW H)} (h : d ∈ l) : Rows.uptoBulk d ≤ Rows.uptoBulkAll l := by
  induction l with
  | nil => cases h
  | cons x r ih =>
    simp only [Rows.uptoBulkAll]
    rcases List.mem_cons.1 h with e | e
    · subst e; omega
    · have := ih e; omega
theorem bulk_len {H : Type} (l : List (DataW H)) : l.length ≤ Rows.uptoBulkAll l := by
  induction l with
  | nil => simp [Rows.uptoBulkAll]
  | cons x r ih => have := bulk_one x; simp only [Rows.uptoBulkAll, List.length_cons]; omega
theorem bulk_law (H : Type) : BulkLaw (H := H) Rows.uptoBulk where
  len := fun es sp => by
    have := bulk_len es
    simp only [Rows.uptoBulk]
    omega
  elem := fun es sp d hd => by
    have := bulk_mem hd
    simp only [Rows.uptoBulk]
    omega
  part := fun ps d hd => by
    have := bulk_mem hd
    simp only [Rows.uptoBulk]
    omega
  str := fun s => by simp [Rows.uptoBulk]
theorem bulk_part {H : Type} {l : List (DataW H)} (hk : Rows.uptoSmall H l = true) {d : DataW H} (hd : d ∈ l) : Rows.uptoBulk d ≤ 1048576 := by
  have h1 : Rows.uptoBulkAll l ≤ 1048576 := of_decide_eq_true hk
  exact Nat.le_trans (bulk_mem hd) h1
end Go.Proofs.YtclahhkcbkpofaaDoor
