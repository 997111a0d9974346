/- fst's node: what its loop keeps. -/
import Derived.Test.YtheickndnniomaaDoorBld
import Derived.Deep.RegionHeldLaw
namespace Go.Proofs.YtheickndnniomaaDoor
open Go.RowKit Go.Maps

def CAP : Nat := 4294967296
theorem fits_of_pos {z : Int} (h : pos63 z) : fits64 z := ⟨by have := h.1; omega, h.2⟩
theorem wayOk_of {x : Int × Int × Int} (h : wayP x) : wayOk x := ⟨fits_of_pos h.1, fits_of_pos h.2.1, fits_of_pos h.2.2⟩
theorem sgn_len {d : Nd} (h : NdOk d) : (sgn d).length ≤ 4400000 := by
  have h1 := fmtB_len d.fin
  have h2 := Lib.itoa_length_le d.out (fits_of_pos h.out).1 (fits_of_pos h.out).2
  have h3 := ways_len (l := d.ways) fun x hx => wayOk_of (h.ways x hx)
  have h4 := h.len
  unfold sgn
  rw [List.length_append, List.length_append]
  omega
/-- What the builder's node leaves. -/
def NodePost (f : Nat) (W : World) (p kb base : Nat) (v : Value) (hs : List Nh) (l : List Ent) (at_ : Nat) (told : Int) (e : Ending) (W' : World) : Prop :=
  ∃ v' more, e = .returned (.int .i64 ((nodeF f (hs.map (·.d)) l at_ told).1 : Nat)) ∧ FbAt W' p kb base v' (hs ++ more) ∧ (hs ++ more).map (·.d) = (nodeF f (hs.map (·.d)) l at_ told).2 ∧ Fk p kb v W W' ∧ Moved W v v' ∧ (∀ h ∈ more, ∀ g, h.row.ownBlock = some g → W.heap.size ≤ g) ∧ Tab W'
/-- What the loop over the groups keeps. -/
structure LoopR (f : Nat) (W wr : World) (p kb base B b9 : Nat) (v v' : Value) (hs more : List Nh) (fin : Bool) (out : Int) (ws : List (Int × Int × Int)) (Aw : Option Addr) (cw : Nat) (r : List Ent) (A : Option Addr) (n c : Nat) (at_ : Nat) (told : Int) (res : List Nd × List (Int × Int × Int)) : Prop where
  fb : FbAt wr p kb base v' (hs ++ more)
  ents : Ents wr B A n c r
  loc : wr.heap[b9]? = some (.cells #[.bool fin, .int .i64 out, .slice Aw ws.length cw] 51 (0, 0))
  way : wr.ownsRow base 55 3 (.slice Aw ws.length cw) ws.length (waysC ws)
  fk : Fk p kb v W wr
  mv : Moved W v v'
  new : ∀ h ∈ more, ∀ g, h.row.ownBlock = some g → W.heap.size ≤ g
  ap : ∀ h ∈ hs ++ more, h.row.ownBlock = none ∨ h.row.ownBlock ≠ (Value.slice Aw ws.length cw).ownBlock
  ap9 : v'.ownBlock ≠ some b9
  wnew : ∀ g, (Value.slice Aw ws.length cw).ownBlock = some g → W.heap.size ≤ g
  n9 : W.heap.size ≤ b9
  okr : Okr at_ told r
  wsok : ∀ x ∈ ws, wayP x
  len : ws.length + r.length ≤ 65536
  eq : waysL (fun ds g m => nodeF f ds g (at_ + 1) m) at_ told r.length ((hs ++ more).map (·.d)) ws r = res
  cap : (hs ++ more).length + cost at_ r ≤ CAP
  tab : Tab wr
theorem el_node : Elem Tryd.prog 48 51 3 40 := Elem.mk_ Tryd.underlying48 (z := .agg #[.bool false, .int .i64 0, .slice none 0 0]) (by kernel_rfl) rfl (by omega)
theorem el_way : Elem Tryd.prog 49 55 3 24 := Elem.mk_ Tryd.underlying49 (z := .agg #[.int .i64 0, .int .i64 0, .int .i64 0]) (by kernel_rfl) rfl (by omega)
theorem row_not_map {H : Type} {W : World} {b e s n kb m : Nat} {x : Value} {xs : List Value} {N : DataW H} (h : W.ownsRow b e s x n xs) (hm : siMap W kb m N) : x.ownBlock = none ∨ x.ownBlock ≠ some kb := by
  rcases h.2 with ⟨rfl, _⟩ | ⟨g, cap, cur, rfl, _, hg, _⟩
  · exact .inl rfl
  · refine .inr fun e => ?_
    simp only [Value.ownBlock, Option.some.injEq] at e
    subst e
    obtain ⟨es, clock, hb, _⟩ := hm
    rw [hg] at hb
    cases hb
theorem row_not_cells {W : World} {b e s n k t : Nat} {x : Value} {xs : List Value} {cs : Array Value} {f : Nat × Nat} (h : W.ownsRow b e s x n xs) (hk : W.heap[k]? = some (.cells cs t f)) (he : t ≠ e) : x.ownBlock = none ∨ x.ownBlock ≠ some k := by
  rcases h.2 with ⟨rfl, _⟩ | ⟨g, cap, cur, rfl, _, hg, _⟩
  · exact .inl rfl
  · refine .inr fun e' => ?_
    simp only [Value.ownBlock, Option.some.injEq] at e'
    subst e'
    rw [hg] at hk
    injection hk with hk
    injection hk with _ hk _
    exact he hk.symm
theorem byteAt_in (t : List UInt8) (i : Nat) : 0 ≤ byteAt t i ∧ byteAt t i < 256 := by
  unfold byteAt
  have := (t.getD i 0).toNat_lt
  omega
theorem byte_get (t : List UInt8) (i : Nat) (h : i < (⟨t.toArray⟩ : ByteArray).size) : ((((⟨t.toArray⟩ : ByteArray)[i]'h).toNat : Nat) : Int) = byteAt t i := by
  have h' : i < t.length := by rwa [size_mk] at h
  unfold byteAt
  rw [List.getD_eq_getElem?_getD, List.getElem?_eq_getElem h']
  rfl
theorem c_keep {w' w'' : World} {a : Addr} {x : Value} (h : w'.cell? a = some x) (hb : Below w'.heap.size w' w'') : w''.cell? a = some x := (hb.cell (lt_of_cell h).1).trans h
theorem c2_keep {w' w'' : World} {a b : Addr} {x y : Value} (h : w'.cell? a = some x ∧ w'.cell? b = some y) (hb : Below w'.heap.size w' w'') : w''.cell? a = some x ∧ w''.cell? b = some y := ⟨c_keep h.1 hb, c_keep h.2 hb⟩
theorem entsC_take (l : List Ent) (k : Nat) : entsC (l.take k) = (entsC l).take (k * 2) := by
  induction l generalizing k with
  | nil => simp [entsC]
  | cons e r ih =>
    cases k with
    | zero => simp [entsC]
    | succ k =>
      have := ih k
      unfold entsC at this ⊢
      rw [List.take_succ_cons, List.flatMap_cons, List.flatMap_cons, this, Nat.succ_mul, List.take_append]
      simp [entC]
theorem entsC_drop (l : List Ent) (k : Nat) : entsC (l.drop k) = (entsC l).drop (k * 2) := by
  induction l generalizing k with
  | nil => simp [entsC]
  | cons e r ih =>
    cases k with
    | zero => simp [entsC]
    | succ k =>
      have := ih k
      unfold entsC at this ⊢
      rw [List.drop_succ_cons, List.flatMap_cons, this, Nat.succ_mul, List.drop_append]
      simp [entC]
theorem Ents.take {w : World} {B n c k : Nat} {A : Option Addr} {l : List Ent} (h : Ents w B A n c l) (hk : k ≤ n) : Ents w B A k c (l.take k) :=
  ⟨by rw [entsC_take]; exact h.sl.pre hk, Nat.le_trans hk h.nc, Nat.le_trans hk h.cm⟩
theorem Ents.drop {w : World} {B n c k : Nat} {A : Option Addr} {l : List Ent} (h : Ents w B A n c l) (hk : k ≤ n) : Ents w B (if c = k then A else A.map (·.add (k * 2))) (n - k) (c - k) (l.drop k) :=
  ⟨by rw [entsC_drop]; exact h.sl.cut hk h.nc, by have := h.nc; omega, by have := h.cm; omega⟩
theorem Ents.drewN {w : World} {B n c : Nat} {A : Option Addr} {l : List Ent} (h : Ents w B A n c l) (q : Nat) : Ents (w.drewN q) B A n c l := ⟨h.sl.drewN q, h.nc, h.cm⟩
def outOf (at_ : Nat) (told : Int) (l : List Ent) : Int := if headL l = at_ then headO l - told else 0
theorem nodeF_step {f : Nat} {ds : List Nd} {l : List Ent} {at_ : Nat} {told : Int} {q : List Nd × List (Int × Int × Int)} (h : waysL (fun ds g m => nodeF f ds g (at_ + 1) m) at_ told (restL at_ l).length ds [] (restL at_ l) = q) : nodeF (f + 1) ds l at_ told = addN q.1 ⟨isFin at_ l, outOf at_ told l, q.2⟩ := by
  rw [nodeF, h]
  rfl
theorem out_pos {l : List Ent} {at_ : Nat} {told : Int} (h : Okl at_ told l) : pos63 (outOf at_ told l) := by
  unfold outOf pos63
  split
  · cases l with
    | nil => exact absurd rfl h.ne
    | cons e r =>
      have := h.out e (List.mem_cons_self ..)
      have := h.t0
      show 0 ≤ e.2 - told ∧ e.2 - told ≤ _
      omega
  · omega
theorem LoopR.drew {f : Nat} {W wr : World} {p kb base B b9 : Nat} {v v' : Value} {hs more : List Nh} {fin : Bool} {out : Int} {ws : List (Int × Int × Int)} {Aw : Option Addr} {cw : Nat} {r : List Ent} {A : Option Addr} {n c at_ : Nat} {told : Int} {res : List Nd × List (Int × Int × Int)} (h : LoopR f W wr p kb base B b9 v v' hs more fin out ws Aw cw r A n c at_ told res) : LoopR f W wr.drew p kb base B b9 v v' hs more fin out ws Aw cw r A n c at_ told res :=
  ⟨h.fb.below (brefl wr).drew, ⟨h.ents.sl, h.ents.nc, h.ents.cm⟩, h.loc, h.way, ⟨h.fk.os, h.fk.tape, h.fk.output, h.fk.size, h.fk.block⟩, h.mv, h.new, h.ap, h.ap9, h.wnew, h.n9, h.okr, h.wsok, h.len, h.eq, h.cap, h.tab.below (brefl wr).drew⟩
theorem run_tail1 (b off n c : Nat) (h1 : 1 ≤ n) (h2 : n ≤ c) (w : World) : (Instr.slice 22 (.slice (some ⟨b, off, none⟩) n c) (some (.int .i64 1)) none none).run Tryd.prog w = .ok (.slice (if c = 1 then some ⟨b, off, none⟩ else some ⟨b, off + 2, none⟩) (n - 1) (c - 1)) w := by
  have i1 : (1 : Int) ≤ (n : Int) := by omega
  by_cases hc : c = 1
  · subst hc
    obtain rfl : n = 1 := by omega
    simp [Instr.slice, run_underlying Tryd.underlying22, Instr.sliceBounds, run_sliceBound]
  · simp [Instr.slice, run_underlying Tryd.underlying22, Instr.sliceBounds, run_sliceBound, hc, i1]
    rfl
/-- The number of a node is no more than there are nodes. -/
theorem nodeF_idx (f : Nat) (ds : List Nd) (l : List Ent) (at_ : Nat) (told : Int) : (nodeF f ds l at_ told).1 ≤ (nodeF f ds l at_ told).2.length := by
  cases f with
  | zero => exact Nat.zero_le _
  | succ f =>
    rw [nodeF]
    generalize waysL (fun ds g m => nodeF f ds g (at_ + 1) m) at_ told (restL at_ l).length ds [] (restL at_ l) = q
    unfold addN
    split
    · rename_i i hi
      have := (idx_lt hi).1
      rw [List.length_map] at this
      exact Nat.le_of_lt this
    · show q.1.length ≤ (q.1 ++ _).length
      simp
/-- The loop's next round in memory. -/
theorem LoopR.next {f : Nat} {W wr W1 Wc Wx W4 : World} {p kb base B b9 : Nat} {v v1 v2 : Value} {hs more new2 : List Nh} {fin : Bool} {out : Int} {ws : List (Int × Int × Int)} {Aw : Option Addr} {cw : Nat} {e1 : Ent} {r1 : List Ent} {A : Option Addr} {n c at_ k : Nat} {told : Int} {res : List Nd × List (Int × Int × Int)}
    (h : LoopR f W wr p kb base B b9 v v1 hs more fin out ws Aw cw (e1 :: r1) A n c at_ told res) (hB : B ≤ base) (hpw : p < W.heap.size ∧ kb < W.heap.size) (htb : 0 < base) (hkg : grpN at_ (e1 :: r1) = k) (hkn : k ≤ n) (hk1 : 1 ≤ k) (hb1 : Below wr.heap.size wr W1)
    (hfb : FbAt Wc p kb base v2 ((hs ++ more) ++ new2)) (hmap : ((hs ++ more) ++ new2).map (·.d) = (nodeF f ((hs ++ more).map (·.d)) ((e1 :: r1).take k) (at_ + 1) (leastO ((e1 :: r1).take k))).2) (hfk : Fk p kb v1 W1 Wc) (hmv : Moved W1 v1 v2) (hnew : ∀ h ∈ new2, ∀ g, h.row.ownBlock = some g → W1.heap.size ≤ g)
    (hbx : Below Wc.heap.size Wc Wx) {i : Nat} (hi : (nodeF f ((hs ++ more).map (·.d)) ((e1 :: r1).take k) (at_ + 1) (leastO ((e1 :: r1).take k))).1 = i) {g cap : Nat}
    (hg : Wx.grownBy W4 (Value.slice Aw ws.length cw).ownBlock) (hgm : (Value.slice Aw ws.length cw).ownBlock = some g ∨ Wx.heap.size ≤ g)
    (hown : W4.ownsRow base 55 3 (.slice (some ⟨g, 0, none⟩) (ws.length + 1) cap) (ws.length + 1) (waysC ws ++ wayC (byteAt e1.1 at_, leastO ((e1 :: r1).take k) - told, (i : Int)))) :
    LoopR f W (W4.setCell ⟨b9, 2, none⟩ (.slice (some ⟨g, 0, none⟩) (ws.length + 1) cap)) p kb base B b9 v v2 hs (more ++ new2) fin out (ws ++ [(byteAt e1.1 at_, leastO ((e1 :: r1).take k) - told, (i : Int))]) (some ⟨g, 0, none⟩) cap ((e1 :: r1).drop k) (if c = k then A else A.map (·.add (k * 2))) (n - k) (c - k) at_ told res := by
  have hsW := h.fk.size
  have hs1 := hb1.size
  have hsc := hfk.size
  have hsx := hbx.size
  have hs4 := hg.size
  have h9 := (Array.getElem?_eq_some_iff.1 h.loc).1
  have n9 := h.n9
  have hfb1 := h.fb.below hb1
  have hbw := h.fb.lp
  have hpl := h.fb.lt
  have hlen := h.ents.len
  have hltk : ((e1 :: r1).take k).length = k := by rw [List.length_take, hlen]; omega
  have hrowlt : ∀ q, (Value.slice Aw ws.length cw).ownBlock = some q → W.heap.size ≤ q ∧ q < wr.heap.size := fun q hq => ⟨h.wnew q hq, (h.way.lt q hq).2⟩
  have hrow : ∀ q, q < W.heap.size → some q ≠ (Value.slice Aw ws.length cw).ownBlock := fun q hq e => by have := (hrowlt q e.symm).1; omega
  have hrow9 : some b9 ≠ (Value.slice Aw ws.length cw).ownBlock := fun e => by
    rcases row_not_cells h.way h.loc (by decide) with h' | h'
    · rw [h'] at e; cases e
    · exact h' e.symm
  have hl1 := (hb1.block b9 h9).trans h.loc
  have hlc := (hfk.block b9 (by omega) (by omega) (by omega) h.ap9).trans hl1
  have hlx := (hbx.block b9 (by omega)).trans hlc
  have hl4 := (hg.block b9 (by omega) hrow9).trans hlx
  -- old blocks
  have hold : ∀ q, q < W.heap.size → q ≠ p → q ≠ kb → v1.ownBlock ≠ some q → (W4.setCell ⟨b9, 2, none⟩ (.slice (some ⟨g, 0, none⟩) (ws.length + 1) cap)).heap[q]? = wr.heap[q]? := by
    intro q hq h1 h2 h3
    rw [Below.heap_setCell _ _ _ _ (show q ≠ b9 by omega), hg.block q (by omega) (hrow q hq), hbx.block q (by omega), hfk.block q (by omega) h1 h2 h3, hb1.block q (by omega)]
  have hbel : Below base wr (W4.setCell ⟨b9, 2, none⟩ (.slice (some ⟨g, 0, none⟩) (ws.length + 1) cap)) := by
    refine ⟨(hg.os.trans hbx.os).trans (hfk.os.trans hb1.os), (hg.tape.trans hbx.tape).trans (hfk.tape.trans hb1.tape), (hg.output.trans hbx.output).trans (hfk.output.trans hb1.output), by simp [World.setCell]; omega, fun q hq => ?_⟩
    have hlk := h.fb.lk
    exact hold q (by omega) (by omega) (by omega) fun e => by have := (h.fb.nod.lt q e).1; omega
  have hv2 : v2.ownBlock = none ∨ v2.ownBlock ≠ (Value.slice Aw ws.length cw).ownBlock := by
    rcases hmv with hm | ⟨q, hm, hq⟩
    · rw [hm]
      cases hv : v1.ownBlock with
      | none => exact .inl rfl
      | some q =>
        refine .inr fun e => ?_
        rcases own_types h.fb.nod h.way (by decide) with h' | h'
        · rw [h'] at e; cases e
        · exact h' (by rw [hv, e])
    · refine .inr fun e => ?_
      rw [hm] at e
      have := (hrowlt q e.symm).2
      omega
  have hrows : ∀ x ∈ (hs ++ more) ++ new2, x.row.ownBlock = none ∨ x.row.ownBlock ≠ (Value.slice Aw ws.length cw).ownBlock := by
    intro x hx
    rcases List.mem_append.1 hx with hx | hx
    · exact h.ap x hx
    · cases hr : x.row.ownBlock with
      | none => exact .inl rfl
      | some q =>
        refine .inr fun e => ?_
        have h1 := hnew x hx q hr
        have h2 := (hrowlt q e.symm).2
        omega
  have hfbx := hfb.below hbx
  have hfb4 := hfbx.grown hg (hrow p hpw.1) (hrow kb hpw.2) hv2 hrows
  have hv9 : v2.ownBlock ≠ some b9 := hmv.ne (by omega) h.ap9
  have hfb5 := hfb4.grown (set_grown W4 ⟨b9, 2, none⟩ (.slice (some ⟨g, 0, none⟩) (ws.length + 1) cap)) (by simp; omega) (by simp; omega) (.inr hv9) (fun x hx => row_not_cells (hfb4.way x hx) hl4 (by decide))
  have hcs := cost_succ (l := (e1 :: r1).take k) fun x hx => h.okr.long x (List.mem_of_mem_take hx)
  have hc2 : cost at_ (e1 :: r1) = cost at_ ((e1 :: r1).take k) + cost at_ ((e1 :: r1).drop k) := by rw [← cost_append, List.take_append_drop]
  have HG := h.okr.group
  rw [hkg] at HG
  have hnl := nodeF_len f ((hs ++ more).map (·.d)) ((e1 :: r1).take k) (at_ + 1) (leastO ((e1 :: r1).take k)) HG
  have hni := nodeF_idx f ((hs ++ more).map (·.d)) ((e1 :: r1).take k) (at_ + 1) (leastO ((e1 :: r1).take k))
  rw [← hmap, List.length_map, List.length_map] at hnl
  rw [← hmap, List.length_map, hi] at hni
  have hcap := h.cap
  have hmlo : told ≤ leastO ((e1 :: r1).take k) := le_leastO HG.ne fun x hx => (h.okr.out x (List.mem_of_mem_take hx)).1
  have hmem : e1 ∈ (e1 :: r1).take k := by
    obtain ⟨j, rfl⟩ : ∃ j, k = j + 1 := ⟨k - 1, by omega⟩
    rw [List.take_succ_cons]
    exact List.mem_cons_self ..
  have hmhi : leastO ((e1 :: r1).take k) ≤ 9223372036854775807 := Int.le_trans (leastO_le hmem) (h.okr.out _ (List.mem_cons_self ..)).2
  have ht0 := h.okr.t0
  have hbyte := byteAt_in e1.1 at_
  have hass : hs ++ (more ++ new2) = (hs ++ more) ++ new2 := (List.append_assoc _ _ _).symm
  unfold CAP at hcap
  refine ⟨by rw [hass]; exact hfb5, ?_, ?_, ?_, ?_, h.mv.trans hmv (by omega), ?_, ?_, hv9, ?_, n9, h.okr.drop k, ?_, ?_, ?_, ?_, h.tab.keep htb hbel⟩
  · exact (h.ents.drop hkn).keep (hbel.mono hB) (Nat.le_refl _)
  · rw [blk_set hl4, List.length_append]
    rfl
  · have := hown.kept (set_grown W4 ⟨b9, 2, none⟩ (.slice (some ⟨g, 0, none⟩) (ws.length + 1) cap)) (row_not_cells hown hl4 (by decide))
    have e : waysC (ws ++ [(byteAt e1.1 at_, leastO ((e1 :: r1).take k) - told, (i : Int))]) = waysC ws ++ wayC (byteAt e1.1 at_, leastO ((e1 :: r1).take k) - told, (i : Int)) := by
      unfold waysC
      rw [List.flatMap_append]
      simp
    rw [e, List.length_append]
    exact this
  · refine ⟨(hbel.os).trans h.fk.os, (hbel.tape).trans h.fk.tape, (hbel.output).trans h.fk.output, Nat.le_trans hsW hbel.size, fun q hq h1 h2 h3 => ?_⟩
    exact (hold q hq h1 h2 (h.mv.ne hq h3)).trans (h.fk.block q hq h1 h2 h3)
  · intro x hx q hq
    rcases List.mem_append.1 hx with hx | hx
    · exact h.new x hx q hq
    · have := hnew x hx q hq
      omega
  · rw [hass]
    intro x hx
    rcases hgm with hgm | hgm
    · have := hrows x hx
      rw [hgm] at this
      exact this
    · cases hr : x.row.ownBlock with
      | none => exact .inl rfl
      | some q =>
        refine .inr fun e => ?_
        have h1 := ((hfb.way x hx).lt q hr).2
        simp only [Value.ownBlock, Option.some.injEq] at e
        omega
  · intro q hq
    simp only [Value.ownBlock, Option.some.injEq] at hq
    subst hq
    rcases hgm with hgm | hgm
    · exact h.wnew _ hgm
    · omega
  · intro x hx
    rcases List.mem_append.1 hx with hx | hx
    · exact h.wsok x hx
    · rw [List.mem_singleton] at hx
      subst hx
      refine ⟨⟨hbyte.1, ?_⟩, ⟨?_, ?_⟩, ⟨?_, ?_⟩⟩
      · show byteAt e1.1 at_ ≤ _; omega
      · show 0 ≤ leastO _ - told; omega
      · show leastO _ - told ≤ _; omega
      · show (0 : Int) ≤ (i : Int); omega
      · show (i : Int) ≤ _; omega
  · have := h.len
    rw [List.length_append, List.length_drop, List.length_singleton]
    omega
  · have heq := h.eq
    rw [List.length_cons, waysL_next, hkg, ← hmap, hi] at heq
    rw [hass, ← heq]
    exact waysL_fuel _ _ _ _ _ _ _ _ (Nat.le_refl _) (by rw [List.length_drop, List.length_cons]; omega)
  · rw [hass]
    unfold CAP
    omega
end Go.Proofs.YtheickndnniomaaDoor
