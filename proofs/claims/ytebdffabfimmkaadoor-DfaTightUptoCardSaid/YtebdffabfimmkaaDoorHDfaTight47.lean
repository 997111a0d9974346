/- DfaTight: the arcs of a result are overwritten. -/
import Derived.Test.YtebdffabfimmkaaDoorHDfaTight46
import Derived.Test.YtebdffabfimmkaaDoorHDfaTight44
import Derived.Test.YtebdffabfimmkaaDoorHDfaTight45
namespace Go.Proofs.YtebdffabfimmkaaDoor
open Go.RowKit Go.Maps

theorem state_cell {W : World} {b n g c j : Nat} {hs : List Sh} {x : Sh} (h : W.ownsRow b 39 2 (.slice (some ⟨g, 0, none⟩) n c) n (hs.flatMap Sh.hdr)) (hx : hs[j]? = some x) : W.cell? ⟨g, j * 2, none⟩ = some (.bool x.d.1) ∧ W.cell? ⟨g, j * 2 + 1, none⟩ = some (.slice x.A x.d.2.length x.c) := by
  have k : ∀ q u, x.hdr[q]? = some u → q < 2 → W.cell? ⟨g, j * 2 + q, none⟩ = some u := fun q u hu hq => by
    have := h.cells (g := g) rfl (j * 2 + q) u (by rw [flat_at Sh.hdr 2 (fun _ => rfl) hs j q x hx hq]; exact hu)
    rwa [Addr.add_lit, Nat.zero_add] at this
  exact ⟨k 0 _ rfl (by omega), k 1 _ rfl (by omega)⟩
theorem OwnSts.kept_low {W W' : World} {b : Nat} {v : Value} {hs : List Sh} {row : Option Nat} (h : OwnSts W b v hs) (hg : W.grownBy W' row) (hr : ∀ g, row = some g → g < b) : OwnSts W' b v hs := by
  have k : ∀ {e s n : Nat} {v : Value} {xs : List Value}, W.ownsRow b e s v n xs → v.ownBlock = none ∨ v.ownBlock ≠ row := fun {e s n v xs} ho => by
    cases hv : v.ownBlock with
    | none => exact .inl rfl
    | some q =>
      refine .inr fun e' => ?_
      have h1 := hr q e'.symm
      have h2 := (ho.lt q hv).1
      omega
  exact ⟨h.out.kept hg (k h.out), h.fam.kept hg fun x hx => k (h.fam.own x hx)⟩
theorem arcs_set3 {l : List Arc3} {k : Nat} (hk : k < l.length) (u0 u1 u2 : Int) : (((arcsC l).set (k * 3) (.int .i64 u0)).set (k * 3 + 1) (.int .i64 u1)).set (k * 3 + 2) (.int .i64 u2) = arcsC (l.set k (u0, u1, u2)) := by
  have hx : l[k]? = some l[k] := List.getElem?_eq_getElem hk
  rw [set_split hx]
  conv => lhs; rw [split_at hx]
  have e1 : ∀ y, arcsC (l.take k ++ y :: l.drop (k + 1)) = arcsC (l.take k) ++ (arcC y ++ arcsC (l.drop (k + 1))) := fun y => by rw [arcsC_app]; rfl
  rw [e1, e1]
  have hl : (arcsC (l.take k)).length = k * 3 := by rw [arcsC_len, List.length_take, Nat.min_eq_left (by omega)]
  have s : ∀ (j : Nat) (u : Value) (t : List Value), (arcsC (l.take k) ++ t).set (k * 3 + j) u = arcsC (l.take k) ++ t.set j u := fun j u t => by
    rw [List.set_append_right _ _ (by omega), hl, Nat.add_sub_cancel_left]
  have s0 := s 0
  rw [Nat.add_zero] at s0
  rw [s0, s 1, s 2]
  rfl
/-- The memory of the law: a's headers, the arcs that are still whole, b and c. -/
structure TlR (w W : World) (L4 ga n c : Nat) (X : List Sh) (rest : List GRow) (vb vc : Value) (Y Z : List Sh) : Prop where
  bel : Below w.heap.size w W
  out : W.ownsRow w.heap.size 39 2 (.slice (some ⟨ga, 0, none⟩) n c) n (X.flatMap Sh.hdr)
  fam : GFam W w.heap.size 41 3 rest
  ob : OwnSts W L4 vb Y
  oc : OwnSts W L4 vc Z
section
variable {w W W' : World} {L4 ga n c : Nat} {X : List Sh} {rest : List GRow} {x y : GRow} {vb vc : Value} {Y Z : List Sh}
theorem TlR.keep (h : TlR w W L4 ga n c X rest vb vc Y Z) (hb : Below W.heap.size W W') : TlR w W' L4 ga n c X rest vb vc Y Z := ⟨bcall h.bel hb, own_kept h.out hb, h.fam.below hb, h.ob.keep hb, h.oc.keep hb⟩
/-- The row ahead is changed or grows. -/
theorem TlR.head (h : TlR w W L4 ga n c X (x :: rest) vb vc Y Z) (hg : W.grownBy W' x.v.ownBlock) (hlow : ∀ g, x.v.ownBlock = some g → g < L4) (hy : y.own W' w.heap.size 41 3) (hm : y.v.ownBlock = x.v.ownBlock ∨ ∃ g, y.v.ownBlock = some g ∧ W.heap.size ≤ g) : TlR w W' L4 ga n c X (y :: rest) vb vc Y Z := by
  have hx : W.ownsRow w.heap.size 41 3 x.v x.n x.xs := h.fam.own x (List.mem_cons_self ..)
  exact ⟨h.bel.grown hg h.bel.size (fun r hr => (hx.lt r hr).1), h.out.kept hg (own_types hx h.out (by decide)), h.fam.head hg hy hm, h.ob.kept_low hg hlow, h.oc.kept_low hg hlow⟩
theorem TlR.tail (h : TlR w W L4 ga n c X (x :: rest) vb vc Y Z) : TlR w W L4 ga n c X rest vb vc Y Z := ⟨h.bel, h.out, h.fam.tail, h.ob, h.oc⟩
end
set_option linter.unusedVariables false in
set_option maxRecDepth 100000 in
set_option maxHeartbeats 8000000 in
theorem tightl_k (w W0 : World) (L4 ga n c i : Nat) (hi : i < n) (hn : n ≤ 20000) (X : List Sh) (x : Sh) (HX : Hid (X[i]? = some x)) (rest : List GRow) (vb vc : Value) (Y Z : List Sh) (hlow : Hid (∀ g, (Value.slice x.A x.d.2.length x.c).ownBlock = some g → g < L4)) (hlm : x.d.2.length ≤ 256) (HR0 : Hid (TlR w W0 L4 ga n c X (x.row :: rest) vb vc Y Z))
    (c0 c1 c2 c3 c4 c6 c7 c8 c9 c10 c13 c14 c15 c16 c17 c18 c19 c20 c21 c22 c23 c24 c25 c26 c27 c28 c29 c30 c31 c32 c33 c34 c35 c36 c37 c38 c39 c40 c41 c42 c43 c44 c45 c46 c47 c48 c49 c50 c51 c52 c53 c54 c55 c56 c57 c58 c77 c78 c79 c80 c81 c82 c83 c84 c85 c86 c87 c88 c89 c90 c91 u59 u60 u61 u62 u63 u64 u65 u66 u67 u68 u69 u70 u71 u72 u73 u74 u75 u76 : Value) (Q0 : Exit → Act → World → Prop) (hQ0 : ∀ c (a a' : Act) w, a.defers = a'.defers → Q0 (.panic c) a w → Q0 (.panic c) a' w)
    (hexit : ∀ (l : List Arc3) (W : World) (x12 u59 u60 u61 u62 u63 u64 u65 u66 u67 u68 u69 u70 u71 u72 u73 u74 u75 u76 : Value), Hid (TlR w W L4 ga n c X (⟨.slice x.A x.d.2.length x.c, x.d.2.length, arcsC l⟩ :: rest) vb vc Y Z) → Q0 (.exit 2) ⟨List.toArray (c0 :: c1 :: c2 :: c3 :: c4 :: .slice (some ⟨ga, 0, none⟩) n c :: c6 :: c7 :: c8 :: c9 :: c10 :: .int .i64 (i : Int) :: x12 :: c13 :: c14 :: c15 :: c16 :: c17 :: c18 :: c19 :: c20 :: c21 :: c22 :: c23 :: c24 :: c25 :: c26 :: c27 :: c28 :: c29 :: c30 :: c31 :: c32 :: c33 :: c34 :: c35 :: c36 :: c37 :: c38 :: c39 :: c40 :: c41 :: c42 :: c43 :: c44 :: c45 :: c46 :: c47 :: c48 :: c49 :: c50 :: c51 :: c52 :: c53 :: c54 :: c55 :: c56 :: c57 :: c58 :: u59 :: u60 :: u61 :: u62 :: u63 :: u64 :: u65 :: u66 :: u67 :: u68 :: u69 :: u70 :: u71 :: u72 :: u73 :: u74 :: u75 :: u76 :: c77 :: c78 :: c79 :: c80 :: c81 :: c82 :: c83 :: c84 :: c85 :: c86 :: c87 :: c88 :: c89 :: c90 :: c91 :: []), []⟩ W) :
    Code.wp Tryd.prog (.loop (loopOf Tryd.f4 1)) Q0 ⟨List.toArray (c0 :: c1 :: c2 :: c3 :: c4 :: .slice (some ⟨ga, 0, none⟩) n c :: c6 :: c7 :: c8 :: c9 :: c10 :: .int .i64 (i : Int) :: .int .i64 (0 : Int) :: c13 :: c14 :: c15 :: c16 :: c17 :: c18 :: c19 :: c20 :: c21 :: c22 :: c23 :: c24 :: c25 :: c26 :: c27 :: c28 :: c29 :: c30 :: c31 :: c32 :: c33 :: c34 :: c35 :: c36 :: c37 :: c38 :: c39 :: c40 :: c41 :: c42 :: c43 :: c44 :: c45 :: c46 :: c47 :: c48 :: c49 :: c50 :: c51 :: c52 :: c53 :: c54 :: c55 :: c56 :: c57 :: c58 :: u59 :: u60 :: u61 :: u62 :: u63 :: u64 :: u65 :: u66 :: u67 :: u68 :: u69 :: u70 :: u71 :: u72 :: u73 :: u74 :: u75 :: u76 :: c77 :: c78 :: c79 :: c80 :: c81 :: c82 :: c83 :: c84 :: c85 :: c86 :: c87 :: c88 :: c89 :: c90 :: c91 :: []), []⟩ W0 := by
  obtain ⟨m, hm⟩ : ∃ m, x.d.2.length = m := ⟨_, rfl⟩
  have HM := Lib.hid hm
  rw [hm] at hlm
  have HR1 : Hid (TlR w W0 L4 ga n c X (⟨.slice x.A m x.c, m, arcsC x.d.2⟩ :: rest) vb vc Y Z) := by rw [← hm]; exact HR0.out
  have HLE : Hid (x.d.2.length = m) := hm
  generalize hl0 : x.d.2 = l0 at HR1 HLE
  clear hm hl0 HR0
  conv => arg 2; arg 1; whnf
  go_loopw [12] (fun kv wr => ∃ (k : Nat) (l : List Arc3), k ≤ m ∧ kv = .int .i64 k ∧ Hid (TlR w wr L4 ga n c X (⟨.slice x.A m x.c, m, arcsC l⟩ :: rest) vb vc Y Z) ∧ Hid (l.length = m)) (fun kv _ => m - (intOf kv).toNat)
  case atStart => exact ⟨0, l0, Nat.zero_le _, rfl, HR1, HLE⟩
  case round =>
    clear HR1 HLE
    obtain ⟨k, l, hk, rfl, HR, HL⟩ := hrel
    obtain ⟨_, c1⟩ := state_cell HR.out.out HX.out
    rw [HM.out] at c1
    have hgaw := (own_blk HR.out.out).2.1
    have hi2 : (i : Int) < (n : Int) := by omega
    by_cases hkm : k < m
    · have hkm2 : (k : Int) < (m : Int) := by omega
      have hrow : wr.ownsRow w.heap.size 41 3 (.slice x.A m x.c) m (arcsC l) := HR.out.fam.own _ (List.mem_cons_self ..)
      obtain ⟨g, hA, hg1, hg2⟩ := own_head hrow (by omega)
      rw [hA] at c1 hrow
      obtain ⟨a, ha⟩ : ∃ a, l[k]? = some a := ⟨l[k]'(by rw [HL.out]; exact hkm), List.getElem?_eq_getElem _⟩
      have a0 := own_cell3 (q := 0) hrow ha rfl (by omega)
      have a1 := own_cell3 (q := 1) hrow ha rfl (by omega)
      have a2 := own_cell3 (q := 2) hrow ha rfl (by omega)
      rw [Nat.add_zero] at a0
      obtain ⟨_, _, cs0, hblk⟩ := own_blk hrow
      have f0 := free_at hblk (k * 3)
      have f1 := free_at hblk (k * 3 + 1)
      have f2 := free_at hblk (k * 3 + 2)
      have HRN : Hid (TlR w (((wr.setCell ⟨g, k * 3, none⟩ (.int .i64 0)).setCell ⟨g, k * 3 + 1, none⟩ (.int .i64 0)).setCell ⟨g, k * 3 + 2, none⟩ (.int .i64 9)) L4 ga n c X (⟨.slice x.A m x.c, m, arcsC (l.set k (0, 0, 9))⟩ :: rest) vb vc Y Z) := by
        have h1 := own_put (j := k * 3 + 2) (u := .int .i64 9) (own_put (j := k * 3 + 1) (u := .int .i64 0) (own_put (j := k * 3) (u := .int .i64 0) hrow))
        rw [arcs_set3 (by rw [HL.out]; exact hkm)] at h1
        refine HR.out.head ?_ ?_ (by show World.ownsRow _ _ _ _ (Value.slice x.A m x.c) m _; rw [hA]; exact h1) (.inl rfl)
        · show World.grownBy wr _ (Value.slice x.A m x.c).ownBlock
          rw [hA]
          exact (set_grown wr ⟨g, k * 3, none⟩ _).trans ((set_grown _ ⟨g, k * 3 + 1, none⟩ _).trans (set_grown _ ⟨g, k * 3 + 2, none⟩ _))
        · have h2 := hlow.out
          rw [HM.out] at h2
          exact h2
      have HLN : Hid ((l.set k (0, 0, 9)).length = m) := by show _ = _; rw [List.length_set]; exact HL.out
      clear hrow hA ha hblk HR HL
      go_wp2_with fail
      go_roundw
      case rel => exact ⟨k + 1, l.set k (0, 0, 9), by omega, by go_num, HRN, HLN⟩
      case measure => simp [intOf]; omega
    · obtain rfl : k = m := by omega
      have HRX : Hid (TlR w wr L4 ga n c X (⟨.slice x.A x.d.2.length x.c, x.d.2.length, arcsC l⟩ :: rest) vb vc Y Z) := by rw [HM.out]; exact HR.out
      clear HR
      go_wp2_with fail
      exact hexit l wr _ _ _ _ _ _ _ _ _ _ _ _ _ _ _ _ _ _ _ HRX
end Go.Proofs.YtebdffabfimmkaaDoor
/- Arguments of any depth whose bulk is bounded: lengths of all lists in them. -/
namespace Go.Proofs.YtebdffabfimmkaaDoor
open Go.RowKit Go.ChangeShapes Go.WideShapes Go.Deep

/-- What a bulk bounds. -/
structure BulkLaw {H : Type} (bulk : DataW H → Nat) : Prop where
  len : ∀ es sp : List (DataW H), es.length ≤ bulk (.slice es sp)
  elem : ∀ (es sp : List (DataW H)) d, d ∈ es → bulk d ≤ bulk (.slice es sp)
  part : ∀ (ps : List (DataW H)) d, d ∈ ps → bulk d ≤ bulk (.agg ps)
  str : ∀ s : List UInt8, s.length ≤ bulk (.lit (.string s))
/-- All lists in it have at most M elements. -/
def Few (M : Nat) : (t : Ty) → t.den → Prop
  | .slice e _, d => d.1.n ≤ M ∧ ∀ i, i < d.1.n → Few M e (d.2 i)
  | .cons f r, d => Few M f d.1 ∧ Few M r d.2
  | .str, d => (show ByteArray from d).size ≤ M
  | _, _ => True
section
variable {H : Type} {enc : TypeId × Value → H} {P : Program} {w : World} {base : Nat} {spare : Nat → Bool} {held : Bool}
theorem readb_fields {bulk : DataW H → Nat} (bk : BulkLaw bulk) {M : Nat} {k n : Nat} (ih : ∀ (t : TypeId) (τ : Ty), tyOf P k t = some τ → ∀ (fuel : Nat) (cs : List Value) (x : DataW H × List MemPlace), DataW.trod enc P w base spare held fuel t cs = some x → Small P t x.1 → bulk x.1 ≤ M → ∃ d : τ.den, Reads w w.heap.size τ d cs ∧ Few M τ d) (cs : List Value) :
    ∀ (fs : List Field) (o : Nat) (τ : Ty), tyFields P (tyOf P k) fs o = some τ → cs.length = o + τ.size →
      (∀ f ∈ fs, ∃ y : DataW H × List MemPlace, DataW.trod enc P w base spare held n f.type ((cs.drop f.offset).take (P.cellsOf f.type)) = some y ∧ Small P f.type y.1 ∧ bulk y.1 ≤ M) → ∃ d : τ.den, Reads w w.heap.size τ d (cs.drop o) ∧ Few M τ d
  | [], o, τ, h, hl, _ => by
    rw [tyFields] at h
    injection h with h
    subst h
    exact ⟨(), List.drop_eq_nil_of_le (by rw [hl]; exact Nat.le_refl _), trivial⟩
  | f :: fs, o, τ, h, hl, hf => by
    rw [tyFields] at h
    split at h
    · rename_i ho
      split at h
      · rename_i τ0 h0
        split at h
        · rename_i hc
          cases hr : tyFields P (tyOf P k) fs (o + τ0.size) with
          | none => rw [hr] at h; cases h
          | some τ1 =>
            rw [hr] at h
            injection h with h
            subst h
            have hl' : cs.length = o + τ0.size + τ1.size := by rw [hl]; show o + (τ0.size + τ1.size) = _; omega
            obtain ⟨y, hy, hs, hbk⟩ := hf f (List.mem_cons_self ..)
            obtain ⟨d0, r0, f0⟩ := ih f.type τ0 h0 n _ y hy hs hbk
            obtain ⟨d1, r1, f1⟩ := readb_fields bk ih cs fs (o + τ0.size) τ1 hr hl' (fun g hg => hf g (List.mem_cons_of_mem _ hg))
            rw [hc, ho] at r0
            refine ⟨(d0, d1), ⟨(cs.drop o).take τ0.size, cs.drop (o + τ0.size), ?_, ?_, r0, r1⟩, f0, f1⟩
            · rw [← List.drop_drop, List.take_append_drop]
            · rw [List.length_take, List.length_drop]; omega
        · cases h
      · cases h
    · cases h
theorem readb_of {bulk : DataW H → Nat} (bk : BulkLaw bulk) {M : Nat} : ∀ (k : Nat) (t : TypeId) (τ : Ty), tyOf P k t = some τ → ∀ (fuel : Nat) (cs : List Value) (x : DataW H × List MemPlace), DataW.trod enc P w base spare held fuel t cs = some x → Small P t x.1 → bulk x.1 ≤ M → ∃ d : τ.den, Reads w w.heap.size τ d cs ∧ Few M τ d
  | 0, t, τ, h, _, _, _, _, _, _ => by rw [tyOf] at h; cases h
  | k + 1, t, τ, h, fuel, cs, x, hx, hs, hM => by
    have ih := readb_of bk (M := M) k
    rw [tyOf] at h
    split at h
    · rename_i kk hu
      injection h with h
      subst h
      obtain ⟨z, e, _, wz⟩ := DataW.trod_int hu hx
      exact ⟨z, ⟨z, rfl, e, wz⟩, trivial⟩
    · rename_i hu
      injection h with h
      subst h
      obtain ⟨b, e, _⟩ := DataW.trod_bool hu hx
      exact ⟨b, ⟨b, rfl, e⟩, trivial⟩
    · rename_i hu
      injection h with h
      subst h
      obtain ⟨s, e, ex, hm⟩ := DataW.trod_string hu hx
      subst ex
      refine ⟨s, ⟨s, rfl, e, hm, ?_⟩, ?_⟩
      · have := hs s.data.toList.length (by simp [DataW.weights])
        simpa using this
      · have := bk.str s.data.toList
        have h2 : s.data.toList.length = s.size := rfl
        show s.size ≤ M
        exact Nat.le_trans (by rw [← h2]; exact this) hM
    · rename_i e hu
      split at h
      · rename_i τ0 h0
        split at h
        · rename_i hc
          obtain ⟨hc, hp⟩ := hc
          injection h with h
          subst h
          rcases open_slice hu hx with ⟨hcs, _⟩ | ⟨a, len, cap, mm, nn, D, Pl, hcs, _, hlc, hcm, hmm, ex, hi⟩
          · obtain ⟨x0⟩ := Ty.inh τ0
            exact ⟨(⟨none, 0, 0⟩, fun _ => x0), ⟨hcs, ⟨Nat.le_refl _, Nat.zero_le _, by rw [Nat.zero_mul]; exact Nat.zero_le _, fun _ => rfl⟩, fun h => absurd h (Nat.lt_irrefl _)⟩, Nat.zero_le _, fun i h => absurd h (Nat.not_lt_zero _)⟩
          · have hle : len ≤ mm := by rw [hmm]; split <;> omega
            subst ex
            have hsl : Small P t (DataW.slice ((List.range len).map D) ((List.range (mm - len)).map fun j => D (len + j))) := hs
            have hbytes : len * P.bytesOf e ≤ reachBytes := by
              have := hsl ((((List.range len).map D).length + ((List.range (mm - len)).map fun j => D (len + j)).length) * P.bytesOf e) (by simp [DataW.weights, hu])
              refine Nat.le_trans (Nat.mul_le_mul_right _ ?_) this
              simp
            have row : ∀ i, i < len → ∃ d : τ0.den, ∃ cl : List Value, cl.length = τ0.size ∧ (∀ j u, cl[j]? = some u → w.cell? ((a.add (i * τ0.size)).add j) = some u) ∧ Reads w w.heap.size τ0 d cl ∧ Few M τ0 d := by
              intro i hin
              obtain ⟨cs', hcs', htr⟩ := hi i (by omega)
              rw [hc] at hcs'
              obtain ⟨_, hcl, hat⟩ := World.cells?_some hcs'
              obtain ⟨d, hd, hfw⟩ := ih e τ0 h0 nn cs' _ htr (fun n hn => hsl n (by
                rw [DataW.weights, hu]
                simp only [List.mem_cons, List.mem_append]
                exact .inr (.inl (weights_mem_all (List.mem_map.2 ⟨i, List.mem_range.2 hin, rfl⟩) n hn)))) (Nat.le_trans (bk.elem _ _ _ (List.mem_map.2 ⟨i, List.mem_range.2 hin, rfl⟩)) hM)
              refine ⟨d, cs', hd.len, fun j u hu => ?_, hd, hfw⟩
              have hj : j < τ0.size := by have := (List.getElem?_eq_some_iff.1 hu).1; have := hd.len; omega
              rw [hat j hj, hu]
            haveI : Inhabited τ0.den := ⟨Classical.choice (Ty.inh τ0)⟩
            obtain ⟨g, hg⟩ := choose_lt' row
            refine ⟨(⟨some a, len, cap⟩, g), ⟨hcs, ⟨hlc, hcm, hbytes, fun e => by cases e⟩, fun hn => ?_⟩, by
              have h1 := bk.len ((List.range len).map D) ((List.range (mm - len)).map fun j => D (len + j))
              rw [List.length_map, List.length_range] at h1
              exact Nat.le_trans h1 hM, fun i hin => by
              obtain ⟨cl, _, _, _, h5⟩ := hg i hin
              exact h5⟩
            have hn' : 0 < len := hn
            obtain ⟨cl, hl, hcell, _⟩ := hg 0 hn'
            have h00 := hcell 0 (cl[0]'(by omega)) (List.getElem?_eq_getElem _)
            obtain ⟨hb, hsp⟩ := lt_of_cell h00
            simp only [Nat.zero_mul, Addr.add, if_true] at hb hsp
            obtain ⟨ab, ao, asp⟩ := a
            simp only at hb hsp
            subst hsp
            refine ⟨ab, ao, rfl, hb, fun i hin => ?_⟩
            obtain ⟨cl, hl, hcell, hr, _⟩ := hg i hin
            refine ⟨cl, hl, fun j u hu => ?_, hr⟩
            have := hcell j u hu
            rw [Addr.add_lit, Addr.add_lit, Nat.add_assoc] at this
            exact this
        · cases h
      · cases h
    · rename_i fs hu
      split at h
      · rename_i τ0 h0
        split at h
        · rename_i hc
          injection h with h
          subst h
          obtain ⟨xs, n, _, ex, hl, hxl, hf⟩ := DataW.trod_struct hu hx
          subst ex
          have hS : Small P t (DataW.agg (xs.map (·.1))) := hs
          have hMb : bulk (DataW.agg (xs.map (·.1))) ≤ M := hM
          have := readb_fields bk (n := n) ih cs fs.toList 0 τ0 h0 (by rw [hl, hc, Nat.zero_add]) (fun f hm => by
            obtain ⟨i, hi⟩ := List.mem_iff_getElem?.1 hm
            have hi' : fs[i]? = some f := by simpa using hi
            have hlt : i < xs.length := by rw [hxl]; exact (Array.getElem?_eq_some_iff.1 hi').1
            refine ⟨xs[i], by rw [hf i f hi', List.getElem?_eq_getElem hlt], fun m hm' => hS m ?_, Nat.le_trans (bk.part _ _ (List.mem_map.2 ⟨xs[i], List.getElem_mem hlt, rfl⟩)) hMb⟩
            rw [DataW.weights, hu]
            exact DataW.weights_mem_each (j := i) (t := f.type) (d := xs[i].1) (by simp [hi]) (by simp [hlt]) m hm')
          rwa [List.drop_zero] at this
        · cases h
      · cases h
    · cases h
theorem open_deepb {bulk : DataW H → Nat} (bk : BulkLaw bulk) {M : Nat} {k bytes : Nat} {t : TypeId} {e : Ty} {A : Option Addr} {n c : Nat} {d : DataW H} {p : List MemPlace} (hT : tyOf P k t = some (.slice e bytes)) (h : DataW.Trod enc P w base spare held t (.slice A n c) d p) (hs : Small P t d) (hM : bulk d ≤ M) :
    ∃ x : Nat → e.den, Reads w w.heap.size (.slice e bytes) (⟨A, n, c⟩, x) [.slice A n c] ∧ n ≤ M ∧ ∀ i, i < n → Few M e (x i) := by
  obtain ⟨m, hm⟩ := h
  obtain ⟨⟨⟨A', n', c'⟩, x⟩, hr, hf⟩ := readb_of bk k t _ hT m _ _ hm hs hM
  have e : [Value.slice A n c] = [.slice A' n' c'] := hr.1
  simp only [List.cons.injEq, Value.slice.injEq, and_true] at e
  obtain ⟨rfl, rfl, rfl⟩ := e
  exact ⟨x, hr, hf.1, hf.2⟩
end
end Go.Proofs.YtebdffabfimmkaaDoor
/- Arguments of loose states, of a bounded bulk. -/
namespace Go.Proofs.YtebdffabfimmkaaDoor
open Go.RowKit

abbrev tLoose : Ty := .cons .bool (.cons (.slice tArc 24) (.cons (.slice (.int .i64) 8) .nil))
theorem ty_loose : tyOf Tryd.prog 8 31 = some (.slice tLoose 56) := by kernel_rfl
def lshOf (d : tLoose.den) : Lsh := ⟨⟨(show Bool from d.1), (List.range (show SlH from d.2.1.1).n).map fun q => arcOf (d.2.1.2 q), (List.range (show SlH from d.2.2.1.1).n).map fun q => (show Int from d.2.2.1.2 q)⟩, (show SlH from d.2.1.1).A, (show SlH from d.2.1.1).c, (show SlH from d.2.2.1.1).A, (show SlH from d.2.2.1.1).c⟩
def looL (n : Nat) (x : Nat → tLoose.den) : List Lsh := (List.range n).map fun i => lshOf (x i)
theorem loose_in {w : World} {A : Option Addr} {n c : Nat} {x : Nat → tLoose.den} {cs : List Value} (h : Reads w w.heap.size (.slice tLoose 56) (⟨A, n, c⟩, x) cs) (hn : n ≤ 1048576) (hf : ∀ i, i < n → Few 1048576 tLoose (x i)) : LoIn w w.heap.size A n c (looL n x) := by
  have hs := h.sl (e := tLoose) (fun d => rfl)
  have hal : ∀ i, (lshOf (x i)).d.arcs.length = (show SlH from (x i).2.1.1).n := fun i => by
    show ((List.range _).map _).length = _
    rw [List.length_map, List.length_range]
  have hfl : ∀ i, (lshOf (x i)).d.free.length = (show SlH from (x i).2.2.1.1).n := fun i => by
    show ((List.range _).map _).length = _
    rw [List.length_map, List.length_range]
  refine ⟨by unfold looL; rw [List.length_map, List.length_range], ?_, h.2.1.1, hn, fun y hy => ?_, fun y hy => ?_⟩
  · have e : (looL n x).flatMap Lsh.hdr = (List.range n).flatMap fun i => Ty.cells tLoose (x i) := by
      unfold looL
      rw [List.flatMap_map]
      refine congrArg (fun f => (List.range n).flatMap f) (funext fun i => ?_)
      unfold Lsh.hdr
      rw [hal, hfl]
      rfl
    rw [e]
    exact hs
  · obtain ⟨i, hi, rfl⟩ := List.mem_map.1 hy
    obtain ⟨cl, _, c2, _, _, _, c3, c4, _, _, hr, _⟩ := h.elem (List.mem_range.1 hi)
    have h1 := hr.sl (e := tArc) (fun d => rfl)
    have h2 := hr.2.1
    have h3 := (hf i (List.mem_range.1 hi)).2.1.1
    refine ⟨?_, by rw [hal]; exact h2.1, by rw [hal]; exact h3⟩
    rw [hal]
    have e := arcs_cells (show SlH from (x i).2.1.1).n (x i).2.1.2
    show Sl _ _ 3 _ _ (arcsC ((List.range _).map _))
    rw [e]
    exact h1
  · obtain ⟨i, hi, rfl⟩ := List.mem_map.1 hy
    obtain ⟨cl, _, c2, _, _, _, c3, c4, _, _, hr, c5, c6, _, _, hr2, _⟩ := h.elem (List.mem_range.1 hi)
    have h1 := hr2.sl (e := .int .i64) (fun d => rfl)
    have h2 := hr2.2.1
    have h3 := (hf i (List.mem_range.1 hi)).2.2.1.1
    refine ⟨?_, by rw [hfl]; exact h2.1, by rw [hfl]; exact h3, fun e => by rw [hfl]; exact Nat.le_zero.1 (Nat.le_trans h2.1 (Nat.le_of_eq (h2.2.2.2 e)))⟩
    rw [hfl]
    have e : ((lshOf (x i)).d.free.map (Value.int .i64)) = (List.range (show SlH from (x i).2.2.1.1).n).flatMap fun q => Ty.cells (.int .i64) ((x i).2.2.1.2 q) := by
      show ((List.range _).map _).map _ = _
      rw [List.map_map, List.map_eq_flatMap]
      rfl
    rw [e]
    exact h1
end Go.Proofs.YtebdffabfimmkaaDoor
