/- Arguments of any depth whose bulk is bounded: lengths of all lists in them. -/
import Derived.Test.YtebdffabfimmkaaDoorHDfaTakes21
import Derived.Test.YtebdffabfimmkaaDoorHDfaTakes44
import Derived.Test.YtebdffabfimmkaaDoorHDfaTakes22
import Derived.Test.YtebdffabfimmkaaDoorHDfaTakes24
import Derived.Test.YtebdffabfimmkaaDoorHDfaTakes45
import Derived.Test.YtebdffabfimmkaaDoorRows
namespace Go.Proofs.YtebdffabfimmkaaDoor
open Go.RowKit Go.ChangeShapes Go.WideShapes Go.Deep

/-- What a bulk bounds. -/
structure BulkLaw {H : Type} (bulk : DataW H → Nat) : Prop where
  len : ∀ es sp : List (DataW H), es.length ≤ bulk (.slice es sp)
  elem : ∀ (es sp : List (DataW H)) d, d ∈ es → bulk d ≤ bulk (.slice es sp)
  part : ∀ (ps : List (DataW H)) d, d ∈ ps → bulk d ≤ bulk (.agg ps)
  str : ∀ s : List UInt8, s.length ≤ bulk (.lit (.string s))
/-- All lists in it have at most M elements. -/
def Few (M : Nat) : (t : Ty) → t.den → Prop
  | .slice e _, d => d.1.n ≤ M ∧ ∀ i, i < d.1.n → Few M e (d.2 i)
  | .cons f r, d => Few M f d.1 ∧ Few M r d.2
  | .str, d => (show ByteArray from d).size ≤ M
  | _, _ => True
section
variable {H : Type} {enc : TypeId × Value → H} {P : Program} {w : World} {base : Nat} {spare : Nat → Bool} {held : Bool}
theorem readb_fields {bulk : DataW H → Nat} (bk : BulkLaw bulk) {M : Nat} {k n : Nat} (ih : ∀ (t : TypeId) (τ : Ty), tyOf P k t = some τ → ∀ (fuel : Nat) (cs : List Value) (x : DataW H × List MemPlace), DataW.trod enc P w base spare held fuel t cs = some x → Small P t x.1 → bulk x.1 ≤ M → ∃ d : τ.den, Reads w w.heap.size τ d cs ∧ Few M τ d) (cs : List Value) :
    ∀ (fs : List Field) (o : Nat) (τ : Ty), tyFields P (tyOf P k) fs o = some τ → cs.length = o + τ.size →
      (∀ f ∈ fs, ∃ y : DataW H × List MemPlace, DataW.trod enc P w base spare held n f.type ((cs.drop f.offset).take (P.cellsOf f.type)) = some y ∧ Small P f.type y.1 ∧ bulk y.1 ≤ M) → ∃ d : τ.den, Reads w w.heap.size τ d (cs.drop o) ∧ Few M τ d
  | [], o, τ, h, hl, _ => by
    rw [tyFields] at h
    injection h with h
    subst h
    exact ⟨(), List.drop_eq_nil_of_le (by rw [hl]; exact Nat.le_refl _), trivial⟩
  | f :: fs, o, τ, h, hl, hf => by
    rw [tyFields] at h
    split at h
    · rename_i ho
      split at h
      · rename_i τ0 h0
        split at h
        · rename_i hc
          cases hr : tyFields P (tyOf P k) fs (o + τ0.size) with
          | none => rw [hr] at h; cases h
          | some τ1 =>
            rw [hr] at h
            injection h with h
            subst h
            have hl' : cs.length = o + τ0.size + τ1.size := by rw [hl]; show o + (τ0.size + τ1.size) = _; omega
            obtain ⟨y, hy, hs, hbk⟩ := hf f (List.mem_cons_self ..)
            obtain ⟨d0, r0, f0⟩ := ih f.type τ0 h0 n _ y hy hs hbk
            obtain ⟨d1, r1, f1⟩ := readb_fields bk ih cs fs (o + τ0.size) τ1 hr hl' (fun g hg => hf g (List.mem_cons_of_mem _ hg))
            rw [hc, ho] at r0
            refine ⟨(d0, d1), ⟨(cs.drop o).take τ0.size, cs.drop (o + τ0.size), ?_, ?_, r0, r1⟩, f0, f1⟩
            · rw [← List.drop_drop, List.take_append_drop]
            · rw [List.length_take, List.length_drop]; omega
        · cases h
      · cases h
    · cases h
theorem readb_of {bulk : DataW H → Nat} (bk : BulkLaw bulk) {M : Nat} : ∀ (k : Nat) (t : TypeId) (τ : Ty), tyOf P k t = some τ → ∀ (fuel : Nat) (cs : List Value) (x : DataW H × List MemPlace), DataW.trod enc P w base spare held fuel t cs = some x → Small P t x.1 → bulk x.1 ≤ M → ∃ d : τ.den, Reads w w.heap.size τ d cs ∧ Few M τ d
  | 0, t, τ, h, _, _, _, _, _, _ => by rw [tyOf] at h; cases h
  | k + 1, t, τ, h, fuel, cs, x, hx, hs, hM => by
    have ih := readb_of bk (M := M) k
    rw [tyOf] at h
    split at h
    · rename_i kk hu
      injection h with h
      subst h
      obtain ⟨z, e, _, wz⟩ := DataW.trod_int hu hx
      exact ⟨z, ⟨z, rfl, e, wz⟩, trivial⟩
    · rename_i hu
      injection h with h
      subst h
      obtain ⟨b, e, _⟩ := DataW.trod_bool hu hx
      exact ⟨b, ⟨b, rfl, e⟩, trivial⟩
    · rename_i hu
      injection h with h
      subst h
      obtain ⟨s, e, ex, hm⟩ := DataW.trod_string hu hx
      subst ex
      refine ⟨s, ⟨s, rfl, e, hm, ?_⟩, ?_⟩
      · have := hs s.data.toList.length (by simp [DataW.weights])
        simpa using this
      · have := bk.str s.data.toList
        have h2 : s.data.toList.length = s.size := rfl
        show s.size ≤ M
        exact Nat.le_trans (by rw [← h2]; exact this) hM
    · rename_i e hu
      split at h
      · rename_i τ0 h0
        split at h
        · rename_i hc
          obtain ⟨hc, hp⟩ := hc
          injection h with h
          subst h
          rcases open_slice hu hx with ⟨hcs, _⟩ | ⟨a, len, cap, mm, nn, D, Pl, hcs, _, hlc, hcm, hmm, ex, hi⟩
          · obtain ⟨x0⟩ := Ty.inh τ0
            exact ⟨(⟨none, 0, 0⟩, fun _ => x0), ⟨hcs, ⟨Nat.le_refl _, Nat.zero_le _, by rw [Nat.zero_mul]; exact Nat.zero_le _, fun _ => rfl⟩, fun h => absurd h (Nat.lt_irrefl _)⟩, Nat.zero_le _, fun i h => absurd h (Nat.not_lt_zero _)⟩
          · have hle : len ≤ mm := by rw [hmm]; split <;> omega
            subst ex
            have hsl : Small P t (DataW.slice ((List.range len).map D) ((List.range (mm - len)).map fun j => D (len + j))) := hs
            have hbytes : len * P.bytesOf e ≤ reachBytes := by
              have := hsl ((((List.range len).map D).length + ((List.range (mm - len)).map fun j => D (len + j)).length) * P.bytesOf e) (by simp [DataW.weights, hu])
              refine Nat.le_trans (Nat.mul_le_mul_right _ ?_) this
              simp
            have row : ∀ i, i < len → ∃ d : τ0.den, ∃ cl : List Value, cl.length = τ0.size ∧ (∀ j u, cl[j]? = some u → w.cell? ((a.add (i * τ0.size)).add j) = some u) ∧ Reads w w.heap.size τ0 d cl ∧ Few M τ0 d := by
              intro i hin
              obtain ⟨cs', hcs', htr⟩ := hi i (by omega)
              rw [hc] at hcs'
              obtain ⟨_, hcl, hat⟩ := World.cells?_some hcs'
              obtain ⟨d, hd, hfw⟩ := ih e τ0 h0 nn cs' _ htr (fun n hn => hsl n (by
                rw [DataW.weights, hu]
                simp only [List.mem_cons, List.mem_append]
                exact .inr (.inl (weights_mem_all (List.mem_map.2 ⟨i, List.mem_range.2 hin, rfl⟩) n hn)))) (Nat.le_trans (bk.elem _ _ _ (List.mem_map.2 ⟨i, List.mem_range.2 hin, rfl⟩)) hM)
              refine ⟨d, cs', hd.len, fun j u hu => ?_, hd, hfw⟩
              have hj : j < τ0.size := by have := (List.getElem?_eq_some_iff.1 hu).1; have := hd.len; omega
              rw [hat j hj, hu]
            haveI : Inhabited τ0.den := ⟨Classical.choice (Ty.inh τ0)⟩
            obtain ⟨g, hg⟩ := choose_lt' row
            refine ⟨(⟨some a, len, cap⟩, g), ⟨hcs, ⟨hlc, hcm, hbytes, fun e => by cases e⟩, fun hn => ?_⟩, by
              have h1 := bk.len ((List.range len).map D) ((List.range (mm - len)).map fun j => D (len + j))
              rw [List.length_map, List.length_range] at h1
              exact Nat.le_trans h1 hM, fun i hin => by
              obtain ⟨cl, _, _, _, h5⟩ := hg i hin
              exact h5⟩
            have hn' : 0 < len := hn
            obtain ⟨cl, hl, hcell, _⟩ := hg 0 hn'
            have h00 := hcell 0 (cl[0]'(by omega)) (List.getElem?_eq_getElem _)
            obtain ⟨hb, hsp⟩ := lt_of_cell h00
            simp only [Nat.zero_mul, Addr.add, if_true] at hb hsp
            obtain ⟨ab, ao, asp⟩ := a
            simp only at hb hsp
            subst hsp
            refine ⟨ab, ao, rfl, hb, fun i hin => ?_⟩
            obtain ⟨cl, hl, hcell, hr, _⟩ := hg i hin
            refine ⟨cl, hl, fun j u hu => ?_, hr⟩
            have := hcell j u hu
            rw [Addr.add_lit, Addr.add_lit, Nat.add_assoc] at this
            exact this
        · cases h
      · cases h
    · rename_i fs hu
      split at h
      · rename_i τ0 h0
        split at h
        · rename_i hc
          injection h with h
          subst h
          obtain ⟨xs, n, _, ex, hl, hxl, hf⟩ := DataW.trod_struct hu hx
          subst ex
          have hS : Small P t (DataW.agg (xs.map (·.1))) := hs
          have hMb : bulk (DataW.agg (xs.map (·.1))) ≤ M := hM
          have := readb_fields bk (n := n) ih cs fs.toList 0 τ0 h0 (by rw [hl, hc, Nat.zero_add]) (fun f hm => by
            obtain ⟨i, hi⟩ := List.mem_iff_getElem?.1 hm
            have hi' : fs[i]? = some f := by simpa using hi
            have hlt : i < xs.length := by rw [hxl]; exact (Array.getElem?_eq_some_iff.1 hi').1
            refine ⟨xs[i], by rw [hf i f hi', List.getElem?_eq_getElem hlt], fun m hm' => hS m ?_, Nat.le_trans (bk.part _ _ (List.mem_map.2 ⟨xs[i], List.getElem_mem hlt, rfl⟩)) hMb⟩
            rw [DataW.weights, hu]
            exact DataW.weights_mem_each (j := i) (t := f.type) (d := xs[i].1) (by simp [hi]) (by simp [hlt]) m hm')
          rwa [List.drop_zero] at this
        · cases h
      · cases h
    · cases h
theorem open_deepb {bulk : DataW H → Nat} (bk : BulkLaw bulk) {M : Nat} {k bytes : Nat} {t : TypeId} {e : Ty} {A : Option Addr} {n c : Nat} {d : DataW H} {p : List MemPlace} (hT : tyOf P k t = some (.slice e bytes)) (h : DataW.Trod enc P w base spare held t (.slice A n c) d p) (hs : Small P t d) (hM : bulk d ≤ M) :
    ∃ x : Nat → e.den, Reads w w.heap.size (.slice e bytes) (⟨A, n, c⟩, x) [.slice A n c] ∧ n ≤ M ∧ ∀ i, i < n → Few M e (x i) := by
  obtain ⟨m, hm⟩ := h
  obtain ⟨⟨⟨A', n', c'⟩, x⟩, hr, hf⟩ := readb_of bk k t _ hT m _ _ hm hs hM
  have e : [Value.slice A n c] = [.slice A' n' c'] := hr.1
  simp only [List.cons.injEq, Value.slice.injEq, and_true] at e
  obtain ⟨rfl, rfl, rfl⟩ := e
  exact ⟨x, hr, hf.1, hf.2⟩
end
end Go.Proofs.YtebdffabfimmkaaDoor
/- Arguments of loose states, of a bounded bulk. -/
namespace Go.Proofs.YtebdffabfimmkaaDoor
open Go.RowKit

abbrev tLoose : Ty := .cons .bool (.cons (.slice tArc 24) (.cons (.slice (.int .i64) 8) .nil))
theorem ty_loose : tyOf Tryd.prog 8 31 = some (.slice tLoose 56) := by kernel_rfl
def lshOf (d : tLoose.den) : Lsh := ⟨⟨(show Bool from d.1), (List.range (show SlH from d.2.1.1).n).map fun q => arcOf (d.2.1.2 q), (List.range (show SlH from d.2.2.1.1).n).map fun q => (show Int from d.2.2.1.2 q)⟩, (show SlH from d.2.1.1).A, (show SlH from d.2.1.1).c, (show SlH from d.2.2.1.1).A, (show SlH from d.2.2.1.1).c⟩
def looL (n : Nat) (x : Nat → tLoose.den) : List Lsh := (List.range n).map fun i => lshOf (x i)
theorem loose_in {w : World} {A : Option Addr} {n c : Nat} {x : Nat → tLoose.den} {cs : List Value} (h : Reads w w.heap.size (.slice tLoose 56) (⟨A, n, c⟩, x) cs) (hn : n ≤ 1048576) (hf : ∀ i, i < n → Few 1048576 tLoose (x i)) : LoIn w w.heap.size A n c (looL n x) := by
  have hs := h.sl (e := tLoose) (fun d => rfl)
  have hal : ∀ i, (lshOf (x i)).d.arcs.length = (show SlH from (x i).2.1.1).n := fun i => by
    show ((List.range _).map _).length = _
    rw [List.length_map, List.length_range]
  have hfl : ∀ i, (lshOf (x i)).d.free.length = (show SlH from (x i).2.2.1.1).n := fun i => by
    show ((List.range _).map _).length = _
    rw [List.length_map, List.length_range]
  refine ⟨by unfold looL; rw [List.length_map, List.length_range], ?_, h.2.1.1, hn, fun y hy => ?_, fun y hy => ?_⟩
  · have e : (looL n x).flatMap Lsh.hdr = (List.range n).flatMap fun i => Ty.cells tLoose (x i) := by
      unfold looL
      rw [List.flatMap_map]
      refine congrArg (fun f => (List.range n).flatMap f) (funext fun i => ?_)
      unfold Lsh.hdr
      rw [hal, hfl]
      rfl
    rw [e]
    exact hs
  · obtain ⟨i, hi, rfl⟩ := List.mem_map.1 hy
    obtain ⟨cl, _, c2, _, _, _, c3, c4, _, _, hr, _⟩ := h.elem (List.mem_range.1 hi)
    have h1 := hr.sl (e := tArc) (fun d => rfl)
    have h2 := hr.2.1
    have h3 := (hf i (List.mem_range.1 hi)).2.1.1
    refine ⟨?_, by rw [hal]; exact h2.1, by rw [hal]; exact h3⟩
    rw [hal]
    have e := arcs_cells (show SlH from (x i).2.1.1).n (x i).2.1.2
    show Sl _ _ 3 _ _ (arcsC ((List.range _).map _))
    rw [e]
    exact h1
  · obtain ⟨i, hi, rfl⟩ := List.mem_map.1 hy
    obtain ⟨cl, _, c2, _, _, _, c3, c4, _, _, hr, c5, c6, _, _, hr2, _⟩ := h.elem (List.mem_range.1 hi)
    have h1 := hr2.sl (e := .int .i64) (fun d => rfl)
    have h2 := hr2.2.1
    have h3 := (hf i (List.mem_range.1 hi)).2.2.1.1
    refine ⟨?_, by rw [hfl]; exact h2.1, by rw [hfl]; exact h3, fun e => by rw [hfl]; exact Nat.le_zero.1 (Nat.le_trans h2.1 (Nat.le_of_eq (h2.2.2.2 e)))⟩
    rw [hfl]
    have e : ((lshOf (x i)).d.free.map (Value.int .i64)) = (List.range (show SlH from (x i).2.2.1.1).n).flatMap fun q => Ty.cells (.int .i64) ((x i).2.2.1.2 q) := by
      show ((List.range _).map _).map _ = _
      rw [List.map_map, List.map_eq_flatMap]
      rfl
    rw [e]
    exact h1
end Go.Proofs.YtebdffabfimmkaaDoor
/- The walk of DfaTakes. -/
namespace Go.Proofs.YtebdffabfimmkaaDoor
open Go.RowKit Go.Maps

theorem tight_takes {l : List Lst} {dd out : List St} (hl : LeastIs (auOf dd) 0 out) (hq : Leq (auOf dd) 0 ⟨finS l, stepS l⟩ (setL l.length (Clo l fun x => x = 0))) (hlen : out.length ≤ 20000) (t : List UInt8) : takesB out t = looseTakes l t := by
  have hg := hl.good hlen
  unfold takesB
  rw [decide_eq_true ((good_iff _).2 hg), Bool.true_and, (hl.leq.trans hq) (bytesN t), acc_run l (bytesN t) _ fun c hc => by
    unfold bytesN at hc
    obtain ⟨b, _, rfl⟩ := List.mem_map.1 hc
    exact b.toNat_lt]
  rfl
set_option linter.unusedVariables false in
set_option maxRecDepth 100000 in
set_option maxHeartbeats 8000000 in
theorem takes_walk (w : World) (A : Option Addr) (n c : Nat) (H : List Lsh) (h : LoIn w w.heap.size A n c H) (At : Option Addr) (m ct : Nat) (y : Nat → ByteArray) (hy : TextsIn w At m ct y) (ht : Tab w) :
    Calls Tryd.prog 5 #[.slice A n c, .slice At m ct] w fun e w' => e = .returned (.bool true) ∧ Below w.heap.size w w' := by
  have HS := Lib.hid h
  have HY := Lib.hid hy
  have HT := Lib.hid ht
  have hcm := h.cm
  have hlen := h.len
  clear h hy ht
  go_enter Tryd.func5, Tryd.ntmps5
  go_wp2_with fail
  refine (awake_any _ HT.out).mono ?_
  rintro e w1 ⟨rfl, hb1⟩
  have HB1 := Lib.hid hb1
  clear hb1
  by_cases hn : 14 < n
  · have q1 : decide ((n : Int) > 14) = true := decide_eq_true (by omega)
    have q11 : decide (n > 14) = true := decide_eq_true hn
    clear HS HY
    go_wp2_with fail
    refine (awake_any _ (HT.out.below HB1.out)).mono ?_
    rintro e w9 ⟨rfl, hb9⟩
    have HB9 := Lib.hid (bcall HB1.out hb9)
    clear hb9
    go_wp2_with fail
    go_ret
    exact ⟨rfl, HB9.out⟩
  · have q1 : decide ((n : Int) > 14) = false := decide_eq_false (by omega)
    have q11 : decide (n > 14) = false := decide_eq_false hn
    go_wp2_with fail
    refine (may_any w1 w.heap.size HB1.out.size A n c H (HS.out.keep HB1.out (Nat.le_refl _))).mono ?_
    rintro e w2 ⟨rfl, hb2⟩
    have HB2 := Lib.hid (bcall HB1.out hb2)
    clear hb2 HB1
    obtain ⟨lb, hlb⟩ : ∃ b, looseB (H.map (·.d)) = b := ⟨_, rfl⟩
    rw [hlb]
    cases lb
    · clear hlb
      clear HS HY
      go_wp2_with fail
      refine (awake_any _ (HT.out.below HB2.out)).mono ?_
      rintro e w9 ⟨rfl, hb9⟩
      have HB9 := Lib.hid (bcall HB2.out hb9)
      clear hb9
      go_wp2_with fail
      go_ret
      exact ⟨rfl, HB9.out⟩
    · have HG := Lib.hid ((loose_iff _).1 hlb)
      have hll : (H.map (·.d)).length = n := by rw [List.length_map]; exact hlen
      have HLL := Lib.hid hll
      clear hlb hll
      go_wp2_with fail
      refine (tight_any w2 w.heap.size HB2.out.size A n c H (HS.out.keep HB2.out (Nat.le_refl _)) (by omega) HG.out 20000 (by omega) (HT.out.below HB2.out)).mono ?_
      rintro e w3 (⟨_, rfl, hb3⟩ | ⟨_, v3, X, dd, rfl, hown3, hl3, hq3, hle3, hd3, hb3⟩)
      · have HB3 := Lib.hid (bcall HB2.out hb3)
        clear hb3 HB2
        go_wp2_with fail
        go_ret
        exact ⟨rfl, HB3.out⟩
      · have hxl : X.length ≤ 20000 := by omega
        have hxl2 : (X.map (·.d)).length ≤ 20000 := by rw [List.length_map]; exact hxl
        have HXG := Lib.hid (hl3.good hxl2)
        have HXT := Lib.hid (fun t => tight_takes (l := H.map (·.d)) hl3 (by rw [HLL.out]; exact hq3) hxl2 t)
        obtain ⟨Ax, cx, rfl, hx3⟩ := hown3.use hxl HXG.out
        obtain ⟨nx, hnx⟩ : ∃ k, X.length = k := ⟨_, rfl⟩
        rw [hnx] at hx3 hxl ⊢
        have HX3 := Lib.hid hx3
        have HB3 := Lib.hid (bcall HB2.out hb3)
        clear hown3 hl3 hq3 hle3 hd3 hxl2 hx3 hb3 hnx HB2
        go_wp2_with fail
        refine (dcheck_any w3 w3.heap.size (Nat.le_refl _) Ax nx cx X HX3.out).mono ?_
        rintro e w4 ⟨rfl, hb4⟩
        rw [(good_iff _).2 HXG.out]
        have HX4 := Lib.hid (HX3.out.keep hb4 hb4.size)
        have HB4 := Lib.hid (bcall HB3.out hb4)
        clear hb4 HB3 HX3
        go_wp2_with fail
        refine takes_loop w w4 HB4.out A Ax n c nx cx H X (HS.out.keep HB4.out HB4.out.size) HG HX4 At m ct y HY HXT _ _ _ _ _ _ _ _ _ _ _ _ _ _ _ _ _ _ _ _ _ _ _ _ _ _ _ _ _ _ _ _ _ _ _ _ _ _ _ _ _ _ _ _ _ _ _ _ _ _ _ _ _ _ _ (fun c a a' w hd h => by cases a; cases a'; cases hd; exact h) ?_
        intro i W u4 u35 u36 u37 u38 u39 u40 u41 u42 u43 u44 u45 u46 u47 u48 u49 u50 u51 u52 u53 u54 u55 u56 u57 HBW
        have HBZ := Lib.hid (bcall HB4.out HBW.out)
        clear HBW HB4
        go_wp2_with fail
        go_ret
        exact ⟨rfl, HBZ.out⟩
theorem takes_all (w : World) (A : Option Addr) (n c : Nat) (x : Nat → tLoose.den) (h : LoIn w w.heap.size A n c (looL n x)) (At : Option Addr) (m ct : Nat) (y : Nat → Ty.str.den) (hy : TextsIn w At m ct y) (ht : Tab w) :
    Calls Tryd.prog 5 #[.slice A n c, .slice At m ct] w fun e w' => e = .returned (.bool true) ∧ Below w.heap.size w w' := takes_walk w A n c _ h At m ct y hy ht
end Go.Proofs.YtebdffabfimmkaaDoor
/- What the bound on the bulk gives. -/
namespace Go.Proofs.YtebdffabfimmkaaDoor

theorem bulk_one {H : Type} (d : DataW H) : 1 ≤ Rows.uptoBulk d := by
  cases d with
  | lit l => cases l <;> simp [Rows.uptoBulk]
  | nil => simp [Rows.uptoBulk]
  | ptr d => simp [Rows.uptoBulk]
  | slice elems spare => simp [Rows.uptoBulk]
  | agg parts => simp [Rows.uptoBulk]
  | iface t d => simp [Rows.uptoBulk]
  | map entries => simp [Rows.uptoBulk]
  | held h => simp [Rows.uptoBulk]
theorem bulk_mem {H : Type} {d : DataW H} {l : List (DataW H)} (h : d ∈ l) : Rows.uptoBulk d ≤ Rows.uptoBulkAll l := by
  induction l with
  | nil => cases h
  | cons x r ih =>
    simp only [Rows.uptoBulkAll]
    rcases List.mem_cons.1 h with e | e
    · subst e; omega
    · have := ih e; omega
theorem bulk_len {H : Type} (l : List (DataW H)) : l.length ≤ Rows.uptoBulkAll l := by
  induction l with
  | nil => simp [Rows.uptoBulkAll]
  | cons x r ih => have := bulk_one x; simp only [Rows.uptoBulkAll, List.length_cons]; omega
theorem bulk_law (H : Type) : BulkLaw (H := H) Rows.uptoBulk where
  len := fun es sp => by
    have := bulk_len es
    simp only [Rows.uptoBulk]
    omega
  elem := fun es sp d hd => by
    have := bulk_mem hd
    simp only [Rows.uptoBulk]
    omega
  part := fun ps d hd => by
    have := bulk_mem hd
    simp only [Rows.uptoBulk]
    omega
  str := fun s => by simp [Rows.uptoBulk]
theorem bulk_part {H : Type} {l : List (DataW H)} (hk : Rows.uptoSmall H l = true) {d : DataW H} (hd : d ∈ l) : Rows.uptoBulk d ≤ 1048576 := by
  have h1 : Rows.uptoBulkAll l ≤ 1048576 := of_decide_eq_true hk
  exact Nat.le_trans (bulk_mem hd) h1
end Go.Proofs.YtebdffabfimmkaaDoor
