/- fst.Open: what its loop stands on. -/
import Derived.Test.YtheickndnniomaaDoorOpen
import Derived.Test.YtheickndnniomaaDoorReadw
namespace Go.Proofs.YtheickndnniomaaDoor
open Go.RowKit Go.Maps

structure OpAt (W : World) (b p B0 : Nat) (A : Option Addr) (n c : Nat) (base : Int) (hs : List Nh) (As : Option Addr) (ns ks : Nat) (Ad : Option Addr) (nd kd : Nat) (sizes deep : List Int) (u : List UInt8) : Prop where
  cur : CurAt W b u
  dict : DictAt W p B0 A n c base 0 hs
  sz : W.ownsRow B0 3 1 (.slice As ns ks) ns (sizes.map (.int .i64))
  dp : W.ownsRow B0 3 1 (.slice Ad nd kd) nd (deep.map (.int .i64))
  ap : (Value.slice As ns ks).ownBlock = none ∨ (Value.slice As ns ks).ownBlock ≠ (Value.slice Ad nd kd).ownBlock
  lb : b < p
  lp : p < B0
section
variable {W W' W2 : World} {b p B0 : Nat} {A : Option Addr} {n c : Nat} {base : Int} {hs : List Nh} {As : Option Addr} {ns ks : Nat} {Ad : Option Addr} {nd kd : Nat} {sizes deep : List Int} {u u' : List UInt8}
theorem OpAt.rd (h : OpAt W b p B0 A n c base hs As n ks Ad n kd sizes deep u) : RdAt W p b B0 A n c (.slice As n ks) (.slice Ad n kd) sizes deep u :=
  ⟨h.cur, ⟨_, _, h.dict.blk⟩, h.sz, h.dp, Nat.lt_trans h.lb h.lp⟩
theorem own_low {e s m k : Nat} {v : Value} {xs : List Value} (h : W.ownsRow B0 e s v m xs) (hk : k < B0) : v.ownBlock = none ∨ v.ownBlock ≠ some k := .inr fun e => by
  have := (h.lt k e).1
  omega
theorem DictAt.grown {q : Nat} {cnt : Int} (h : DictAt W p B0 A n c base cnt hs) (hg : W.grownBy W' (some q)) (hq : q < B0) (hp : p ≠ q) : DictAt W' p B0 A n c base cnt hs :=
  ⟨(hg.block p (Array.getElem?_eq_some_iff.1 h.blk).1 (by simpa using hp)).trans h.blk, h.len, h.nod.kept hg (own_low h.nod hq), fun x hx => (h.way x hx).kept hg (own_low (h.way x hx) hq)⟩
theorem OpAt.read (h : OpAt W b p B0 A n c base hs As ns ks Ad nd kd sizes deep u) (hg : W.grownBy W' (some b)) (hc : CurAt W' b u') : OpAt W' b p B0 A n c base hs As ns ks Ad nd kd sizes deep u' := by
  have h1 := h.lb
  have h2 := h.lp
  exact ⟨hc, h.dict.grown hg (by omega) (by omega), h.sz.kept hg (own_low h.sz (by omega)), h.dp.kept hg (own_low h.dp (by omega)), h.ap, h.lb, h.lp⟩
theorem OpAt.below (h : OpAt W b p B0 A n c base hs As ns ks Ad nd kd sizes deep u) (hb : Below W.heap.size W W') : OpAt W' b p B0 A n c base hs As ns ks Ad nd kd sizes deep u :=
  ⟨cur_below h.cur hb, h.dict.keep hb, own_kept h.sz hb, own_kept h.dp hb, h.ap, h.lb, h.lp⟩
theorem cur_grown {row : Option Nat} (h : CurAt W b u) (hg : W.grownBy W' row) (hr : row ≠ some b) : CurAt W' b u :=
  (hg.block b (Array.getElem?_eq_some_iff.1 h).1 (Ne.symm hr)).trans h
/-- A node more. -/
theorem OpAt.node {A' : Option Addr} {c' g cap : Nat} {d : Nd} (h : OpAt W b p B0 A n c base hs As ns ks Ad nd kd sizes deep u) (hw : W.ownsRow B0 55 3 (.slice A' d.ways.length c') d.ways.length (waysC d.ways)) (hg : W.grownBy W2 (Value.slice A n c).ownBlock)
    (ho : W2.ownsRow B0 51 3 (.slice (some ⟨g, 0, none⟩) (n + 1) cap) (n + 1) (hs.flatMap Nh.hdr ++ [.bool d.fin, .int .i64 d.out, .slice A' d.ways.length c'])) :
    OpAt (W2.setCell ⟨p, 0, none⟩ (.slice (some ⟨g, 0, none⟩) (n + 1) cap)) b p B0 (some ⟨g, 0, none⟩) (n + 1) cap base (hs ++ [⟨d, A', c'⟩]) As ns ks Ad nd kd sizes deep u := by
  have h1 := h.lb
  have h2 := h.lp
  have hno := h.dict.nod
  have hrow : ∀ k, k < B0 → (Value.slice A n c).ownBlock ≠ some k := fun k hk e => by
    have := (hno.lt k e).1
    omega
  have b1 := (hg.block p (Array.getElem?_eq_some_iff.1 h.dict.blk).1 (Ne.symm (hrow p h2))).trans h.dict.blk
  have hset : ∀ {e s m : Nat} {v : Value} {xs : List Value}, W2.ownsRow B0 e s v m xs → (W2.setCell ⟨p, 0, none⟩ (.slice (some ⟨g, 0, none⟩) (n + 1) cap)).ownsRow B0 e s v m xs := fun hx => hx.kept (set_grown _ _ _) (own_low hx h2)
  refine ⟨?_, ⟨?_, by rw [List.length_append, h.dict.len]; rfl, ?_, ?_⟩, hset (h.sz.kept hg (own_types hno h.sz (by decide))), hset (h.dp.kept hg (own_types hno h.dp (by decide))), h.ap, h.lb, h.lp⟩
  · exact cur_grown (cur_grown h.cur hg (hrow b (by omega))) (set_grown _ _ _) (by simp; omega)
  · simp [World.setCell, Array.getElem?_modify, b1]
  · rw [List.flatMap_append]
    have e : List.flatMap Nh.hdr [⟨d, A', c'⟩] = [.bool d.fin, .int .i64 d.out, .slice A' d.ways.length c'] := by simp [Nh.hdr, Nh.row]
    rw [e]
    exact hset ho
  · intro x hx
    rcases List.mem_append.1 hx with hx | hx
    · exact hset ((h.dict.way x hx).kept hg (own_types hno (h.dict.way x hx) (by decide)))
    · rw [List.mem_singleton.1 hx]
      exact hset (hw.kept hg (own_types hno hw (by decide)))
theorem opt_ne {x y : Option Nat} {k : Nat} (h : x = y ∨ ∃ g, x = some g ∧ k ≤ g) {z : Option Nat} (hz : y = none ∨ y ≠ z) (hk : ∀ g, z = some g → g < k) : x = none ∨ x ≠ z := by
  rcases h with h | ⟨g, h, hg⟩
  · rw [h]; exact hz
  · refine .inr fun e => ?_
    rw [h] at e
    have := hk g e.symm
    omega
/-- A size more. -/
theorem OpAt.pushS {A1 : Option Addr} {c1 : Nat} {x : Int} (h : OpAt W b p B0 A n c base hs As ns ks Ad nd kd sizes deep u) (hg : W.grownBy W2 (Value.slice As ns ks).ownBlock) (ho : W2.ownsRow B0 3 1 (.slice A1 (ns + 1) c1) (ns + 1) (sizes.map (.int .i64) ++ [.int .i64 x]))
    (hm : (Value.slice A1 (ns + 1) c1).ownBlock = (Value.slice As ns ks).ownBlock ∨ ∃ g, (Value.slice A1 (ns + 1) c1).ownBlock = some g ∧ W.heap.size ≤ g) : OpAt W2 b p B0 A n c base hs A1 (ns + 1) c1 Ad nd kd (sizes ++ [x]) deep u := by
  have h1 := h.lb
  have h2 := h.lp
  have hrow : ∀ k, k < B0 → (Value.slice As ns ks).ownBlock ≠ some k := fun k hk e => by
    have := (h.sz.lt k e).1
    omega
  have hdp : (Value.slice Ad nd kd).ownBlock = none ∨ (Value.slice Ad nd kd).ownBlock ≠ (Value.slice As ns ks).ownBlock := by
    rcases h.ap with e | e
    · rw [e]; exact own_opt _
    · exact .inr (Ne.symm e)
  refine ⟨cur_grown h.cur hg (hrow b (by omega)), ⟨(hg.block p (Array.getElem?_eq_some_iff.1 h.dict.blk).1 (Ne.symm (hrow p h2))).trans h.dict.blk, h.dict.len, h.dict.nod.kept hg (own_types h.sz h.dict.nod (by decide)), fun y hy => (h.dict.way y hy).kept hg (own_types h.sz (h.dict.way y hy) (by decide))⟩, by rw [List.map_append]; exact ho, h.dp.kept hg hdp, ?_, h.lb, h.lp⟩
  exact opt_ne hm h.ap fun g e => (h.dp.lt g e).2
/-- A depth more. -/
theorem OpAt.pushD {A1 : Option Addr} {c1 : Nat} {x : Int} (h : OpAt W b p B0 A n c base hs As ns ks Ad nd kd sizes deep u) (hg : W.grownBy W2 (Value.slice Ad nd kd).ownBlock) (ho : W2.ownsRow B0 3 1 (.slice A1 (nd + 1) c1) (nd + 1) (deep.map (.int .i64) ++ [.int .i64 x]))
    (hm : (Value.slice A1 (nd + 1) c1).ownBlock = (Value.slice Ad nd kd).ownBlock ∨ ∃ g, (Value.slice A1 (nd + 1) c1).ownBlock = some g ∧ W.heap.size ≤ g) : OpAt W2 b p B0 A n c base hs As ns ks A1 (nd + 1) c1 sizes (deep ++ [x]) u := by
  have h1 := h.lb
  have h2 := h.lp
  have hrow : ∀ k, k < B0 → (Value.slice Ad nd kd).ownBlock ≠ some k := fun k hk e => by
    have := (h.dp.lt k e).1
    omega
  have hdp : (Value.slice Ad nd kd).ownBlock = none ∨ (Value.slice Ad nd kd).ownBlock ≠ (Value.slice As ns ks).ownBlock := by
    rcases h.ap with e | e
    · rw [e]; exact own_opt _
    · exact .inr (Ne.symm e)
  refine ⟨cur_grown h.cur hg (hrow b (by omega)), ⟨(hg.block p (Array.getElem?_eq_some_iff.1 h.dict.blk).1 (Ne.symm (hrow p h2))).trans h.dict.blk, h.dict.len, h.dict.nod.kept hg (own_types h.dp h.dict.nod (by decide)), fun y hy => (h.dict.way y hy).kept hg (own_types h.dp (h.dict.way y hy) (by decide))⟩, h.sz.kept hg h.ap, by rw [List.map_append]; exact ho, ?_, h.lb, h.lp⟩
  rcases opt_ne hm hdp (fun g e => (h.sz.lt g e).2) with e | e
  · rw [e]; exact own_opt _
  · exact .inr (Ne.symm e)
/-- The dictionary's cells, free to be written. -/
theorem OpAt.free (h : OpAt W b p B0 A n c base hs As ns ks Ad nd kd sizes deep u) (i : Nat) : W.frozen? ⟨p, i, none⟩ = false := by
  simp [World.frozen?, h.dict.blk]
theorem DictAt.setCnt {cnt : Int} (h : DictAt W p B0 A n c base cnt hs) (hp : p < B0) (z : Int) : DictAt (W.setCell ⟨p, 2, none⟩ (.int .i64 z)) p B0 A n c base z hs := by
  refine ⟨?_, h.len, h.nod.kept (set_grown _ _ _) (own_low h.nod hp), fun x hx => (h.way x hx).kept (set_grown _ _ _) (own_low (h.way x hx) hp)⟩
  simp [World.setCell, Array.getElem?_modify, h.blk]
theorem OpAt.start (W : World) {b base0 : Nat} (base : Int) (hc : CurAt W b u) (hb : W.heap.size = base0) :
    OpAt (W.alloc (.cells #[.slice none 0 0, .int .i64 base, .int .i64 0] 78)) b base0 (base0 + 1) none 0 0 base [] none 0 0 none 0 0 [] [] u := by
  have hlt := (Array.getElem?_eq_some_iff.1 hc).1
  subst hb
  exact ⟨cur_below hc (bnew (brefl W) _), ⟨heap_alloc_new W _, rfl, ⟨rfl, .inl ⟨rfl, rfl⟩⟩, by simp⟩, ⟨rfl, .inl ⟨rfl, rfl⟩⟩, ⟨rfl, .inl ⟨rfl, rfl⟩⟩, .inl rfl, hlt, Nat.lt_succ_self _⟩
end
/-- What Open answers, in memory. -/
def OpenPost (w : World) (R : Int × List Nd × Int × Int) : Ending → World → Prop := fun e w' => Below w.heap.size w w' ∧
  ((R.1 = 0 ∧ ∃ (p B n c : Nat) (A : Option Addr) (hs : List Nh), e = .returned (.tuple #[.pointer (some ⟨p, 0, none⟩), .int .i64 0]) ∧ DictAt w' p B A n c R.2.2.1 R.2.2.2 hs ∧ hs.map (·.d) = R.2.1 ∧ w.heap.size ≤ p ∧ p < B) ∨
   (R.1 ≠ 0 ∧ e = .returned (.tuple #[.pointer none, .int .i64 R.1])))
end Go.Proofs.YtheickndnniomaaDoor
