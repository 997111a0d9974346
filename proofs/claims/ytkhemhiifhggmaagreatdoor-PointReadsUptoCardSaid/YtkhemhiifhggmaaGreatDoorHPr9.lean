/- A disk seen as functions; what its calls make of them. (plain) -/
import Derived.Test.YtkhemhiifhggmaaGreatDoorHPr8
import Derived.Test.YtkhemhiifhggmaaGreatDoorHPr7
import Derived.Test.YtkhemhiifhggmaaGreatDoorHPr3
import Derived.Sort.OwnSorted
import Derived.Lib.OwnBridge
import Derived.Lib.SlicesCompact
import Derived.Lib.RowBridge
import Derived.Test.YtkhemhiifhggmaaGreatDoorHPr6
set_option maxRecDepth 100000
set_option maxHeartbeats 40000000
namespace Go.Proofs.YtkhemhiifhggmaaGreatDoor
open Go.RowKit Go.Maps Go.Sort
set_option linter.unusedVariables false
def upd {α β : Type} [DecidableEq α] (f : α → β) (a : α) (b : β) : α → β := fun x => if x = a then b else f x
theorem upd_same {α β : Type} [DecidableEq α] (f : α → β) (a : α) (b : β) : upd f a b a = b := if_pos rfl
theorem upd_other {α β : Type} [DecidableEq α] (f : α → β) {a x : α} (b : β) (h : x ≠ a) : upd f a b x = f x := if_neg h
section
variable {H : Type}
def Vw (N : DataW H) (f : ByteArray → Option Int) : Prop := IsMap N ∧ ∀ s, Maps.has N (keyS s) = (f s).isSome ∧ ∀ k, f s = some k → numOf N s = k
theorem numOf_del_other {M : DataW H} {s t : ByteArray} (h : s ≠ t) : numOf (M.del (keyS t)) s = numOf M s := by
 unfold numOf
 rw [atKey_del_other (fun e => h (keyS_inj e))]
theorem Vw.put {N : DataW H} {f : ByteArray → Option Int} (h : Vw N f) (s : ByteArray) (k : Int) : Vw (N.put (keyS s) (.lit (.int .i64 k))) (upd f s (some k)) := by
 refine ⟨h.1.put _ _, fun t => ?_⟩
 by_cases e : t = s
 ·subst e
  rw [upd_same, has_putS_same h.1, numOf_put_same h.1]
  exact ⟨rfl, fun k' hk => by injection hk⟩
 ·rw [upd_other _ _ e, has_putS_other e, numOf_put_other e]
  exact h.2 t
theorem Vw.del {N : DataW H} {f : ByteArray → Option Int} (h : Vw N f) (s : ByteArray) : Vw (N.del (keyS s)) (upd f s none) := by
 refine ⟨h.1.del _, fun t => ?_⟩
 by_cases e : t = s
 ·subst e
  rw [upd_same, has_del_same]
  exact ⟨rfl, fun k' hk => by cases hk⟩
 ·rw [upd_other _ _ e, has_del_other (fun e' => e (keyS_inj e')), numOf_del_other e]
  exact h.2 t
theorem Vw.has {N : DataW H} {f : ByteArray → Option Int} (h : Vw N f) {s : ByteArray} {k : Int} (hk : f s = some k) : Maps.has N (keyS s) = true ∧ numOf N s = k := ⟨by rw [(h.2 s).1, hk]; rfl, (h.2 s).2 k hk⟩
theorem Vw.none {N : DataW H} {f : ByteArray → Option Int} (h : Vw N f) {s : ByteArray} (hk : f s = none) : Maps.has N (keyS s) = false := by rw [(h.2 s).1, hk]; rfl
structure DV (D : DS H) (f h : ByteArray → Option Int) (g : Int → List UInt8 × Int) (L : Int) : Prop where
 n : Vw D.names f
 k : Vw D.kept h
 m : IsMap D.files
 g : ∀ k, fileOf D.files k = g k
 l : D.last = L
 b : ∀ s k, f s = some k → k ≤ L
 c : ∀ s k, h s = some k → k ≤ L
theorem dv_new : DV (DS.new H) (fun _ => none) (fun _ => none) (fun _ => ([], 0)) 0 :=
 ⟨⟨⟨[], rfl⟩, fun s => ⟨rfl, (fun k hk => by cases hk)⟩⟩, ⟨⟨[], rfl⟩, fun s => ⟨rfl, (fun k hk => by cases hk)⟩⟩, ⟨[], rfl⟩, fun k => rfl, rfl, (fun _ _ hk => by cases hk), (fun _ _ hk => by cases hk)⟩
def Ar (D : DS H) (a q : Int) : Prop := D.armed = a ∧ D.fault = q ∧ D.down = false
theorem step_go {D : DS H} {a q : Int} (h : Ar D a q) (h0 : a ≠ 0) : D.step = ({ D with armed := max (-1) (a - 1), steps := D.steps + 1 }, 0) := by
 unfold DS.step
 rw [h.1, if_neg h0]
theorem step_no {D : DS H} {q : Int} (h : Ar D 0 q) : D.step = ({ D with armed := -1, down := q == 15 }, q) := by
 unfold DS.step
 rw [h.1, if_pos rfl, h.2.1]
variable {D : DS H} {f h : ByteArray → Option Int} {g : Int → List UInt8 × Int} {L a q : Int}
theorem dv_step (v : DV D f h g L) {D' : DS H} (e1 : D'.files = D.files) (e2 : D'.names = D.names) (e3 : D'.kept = D.kept) (e4 : D'.last = D.last) : DV D' f h g L :=
 ⟨by rw [e2]; exact v.n, by rw [e3]; exact v.k, by rw [e1]; exact v.m, by rw [e1]; exact v.g, e4.trans v.l, v.b, v.c⟩
theorem may1 {s : ByteArray} (hs : nameB s = true) : mayE [s] false = 0 := by simp [mayE, hs]
theorem may2 {s x : ByteArray} (hs : nameB s = true) (hx : nameB x = true) : mayE [s, x] false = 0 := by simp [mayE, hs, hx]
theorem ar_fault {D' : DS H} (e : D' = { D with armed := -1, down := q == 15 }) (hq : D.fault = q) (v : DV D f h g L) : DV D' f h g L ∧ D'.armed = -1 ∧ D'.fault = q ∧ D'.down = (q == 15) := by
 subst e
 exact ⟨dv_step v rfl rfl rfl rfl, rfl, hq, rfl⟩
theorem create_go (v : DV D f h g L) (hA : Ar D a q) (h0 : a ≠ 0) {s : ByteArray} (hs : nameB s = true) :
  (D.create s).2 = 0 ∧ DV (D.create s).1 (upd f s (some (L + 1))) h (upd g (L + 1) ([], 0)) (L + 1) ∧ Ar (D.create s).1 (max (-1) (a - 1)) q := by
 have e : D.create s = ({ D.step.1 with last := D.last + 1, files := D.files.put (.int .i64 (D.last + 1)) (.agg [.lit (.string []), .lit (.int .i64 0)]), names := D.names.put (.string s.data.toList) (.lit (.int .i64 (D.last + 1))), cap := D.cap + 2 }, 0) := by
  unfold DS.create
  rw [hA.2.2, may1 hs, if_neg (by simp), if_neg (by rw [step_go hA h0]; simp)]
 rw [e, step_go hA h0]
 refine ⟨rfl, ⟨?_, v.k, v.m.put _ _, fun k => ?_, by show D.last + 1 = _; rw [v.l], fun t k hk => ?_, fun t k hk => ?_⟩, rfl, hA.2.1, hA.2.2⟩
 ·have := v.n.put s (L + 1)
  rw [← v.l] at this ⊢
  exact this
 ·show fileOf (D.files.put (.int .i64 (D.last + 1)) _) k = _
  rw [fileOf_put v.m, v.l, v.g]
  rfl
 ·unfold upd at hk
  split at hk
  ·injection hk with hk; omega
  ·have := v.b t k hk; omega
 ·have := v.c t k hk; omega
theorem change_go (v : DV D f h g L) (hA : Ar D a q) (h0 : a ≠ 0) {s : ByteArray} (hs : nameB s = true) {k : Int} (hk : f s = some k) (G : List UInt8 × Int → List UInt8 × Int) :
  (D.change s G).2 = 0 ∧ DV (D.change s G).1 f h (upd g k (G (g k))) L ∧ Ar (D.change s G).1 (max (-1) (a - 1)) q := by
 obtain ⟨h1, h2⟩ := v.n.has hk
 have e : D.change s G = ({ D.step.1 with files := D.files.put (.int .i64 (numOf D.names s)) (.agg [.lit (.string (G (fileOf D.files (numOf D.names s))).1), .lit (.int .i64 (G (fileOf D.files (numOf D.names s))).2)]), cap := D.cap + 1 }, 0) := by
  unfold DS.change
  rw [hA.2.2, may1 hs, if_neg (by simp), if_neg (by rw [h1]; simp), if_neg (by rw [step_go hA h0]; simp)]
 rw [e, step_go hA h0, h2, v.g]
 refine ⟨rfl, ⟨v.n, v.k, v.m.put _ _, fun j => ?_, v.l, v.b, v.c⟩, rfl, hA.2.1, hA.2.2⟩
 show fileOf (D.files.put (.int .i64 k) _) j = _
 rw [fileOf_put v.m, v.g]
 rfl
theorem rename_go (v : DV D f h g L) (hA : Ar D a q) (h0 : a ≠ 0) {s x : ByteArray} (hs : nameB s = true) (hx : nameB x = true) {k : Int} (hk : f s = some k) :
  (D.rename s x).2 = 0 ∧ DV (D.rename s x).1 (upd (upd f s none) x (some k)) h g L ∧ Ar (D.rename s x).1 (max (-1) (a - 1)) q := by
 obtain ⟨h1, h2⟩ := v.n.has hk
 have e : D.rename s x = ({ D.step.1 with names := (D.names.del (keyS s)).put (keyS x) (.lit (.int .i64 (numOf D.names s))), cap := D.cap + 2 }, 0) := by
  unfold DS.rename
  rw [hA.2.2, may2 hs hx, if_neg (by simp), if_neg (by rw [h1]; simp), if_neg (by rw [step_go hA h0]; simp)]
 rw [e, step_go hA h0, h2]
 refine ⟨rfl, ⟨(v.n.del s).put x k, v.k, v.m, v.g, v.l, fun t j hj => ?_, v.c⟩, rfl, hA.2.1, hA.2.2⟩
 unfold upd at hj
 split at hj
 ·injection hj with hj; have := v.b s k hk; omega
 ·split at hj
  ·cases hj
  ·exact v.b t j hj
theorem syncDir_go (v : DV D f h g L) (hA : Ar D a q) (h0 : a ≠ 0) :
  D.syncDir.2 = 0 ∧ DV D.syncDir.1 f f g L ∧ Ar D.syncDir.1 (max (-1) (a - 1)) q := by
 have e : D.syncDir = ({ D.step.1 with kept := D.names }, 0) := by
  unfold DS.syncDir
  rw [hA.2.2, if_neg (by simp), if_neg (by rw [step_go hA h0]; simp)]
 rw [e, step_go hA h0]
 exact ⟨rfl, ⟨v.n, v.n, v.m, v.g, v.l, v.b, v.b⟩, rfl, hA.2.1, hA.2.2⟩
theorem create_no (hA : Ar D 0 q) (hq : q ≠ 0) {s : ByteArray} (hs : nameB s = true) : D.create s = D.step := by
 unfold DS.create
 rw [hA.2.2, may1 hs, if_neg (by simp), if_pos (by rw [step_no hA]; exact hq)]
theorem change_no (v : DV D f h g L) (hA : Ar D 0 q) (hq : q ≠ 0) {s : ByteArray} (hs : nameB s = true) {k : Int} (hk : f s = some k) (G : List UInt8 × Int → List UInt8 × Int) : D.change s G = D.step := by
 unfold DS.change
 rw [hA.2.2, may1 hs, if_neg (by simp), if_neg (by rw [(v.n.has hk).1]; simp), if_pos (by rw [step_no hA]; exact hq)]
theorem rename_no (v : DV D f h g L) (hA : Ar D 0 q) (hq : q ≠ 0) {s x : ByteArray} (hs : nameB s = true) (hx : nameB x = true) {k : Int} (hk : f s = some k) : D.rename s x = D.step := by
 unfold DS.rename
 rw [hA.2.2, may2 hs hx, if_neg (by simp), if_neg (by rw [(v.n.has hk).1]; simp), if_pos (by rw [step_no hA]; exact hq)]
theorem syncDir_no (hA : Ar D 0 q) (hq : q ≠ 0) : D.syncDir = D.step := by
 unfold DS.syncDir
 rw [hA.2.2, if_neg (by simp), if_pos (by rw [step_no hA]; exact hq)]
theorem read_dv (v : DV D f h g L) (hd : D.down = false) {s : ByteArray} (hs : nameB s = true) : (∀ k, f s = some k → readE D s = 0 ∧ readS D s = bs (g k).1) ∧ (f s = none → readE D s = 11 ∧ readS D s = bs []) := by
 refine ⟨fun k hk => ?_, fun hk => ?_⟩
 ·obtain ⟨h1, h2⟩ := v.n.has hk
  unfold readE readS
  rw [hd, may1 hs, if_neg (by simp), if_neg (by rw [h1]; simp), if_neg (by simp), if_neg (by rw [h1]; simp), h2, v.g]
  exact ⟨rfl, rfl⟩
 ·have h1 := v.n.none hk
  unfold readE readS
  rw [hd, may1 hs, if_neg (by simp), if_pos h1, if_neg (by simp), if_pos h1]
  exact ⟨rfl, rfl⟩
end
end Go.Proofs.YtkhemhiifhggmaaGreatDoor
namespace Go.Proofs.YtkhemhiifhggmaaGreatDoor
open Go.RowKit Go.Sort
def sortS (zs : List (List UInt8)) : List (List UInt8) := zs.mergeSort fun x y => decide (x ≤ y)
theorem sortS_mem (zs : List (List UInt8)) (x : List UInt8) : x ∈ sortS zs ↔ x ∈ zs := List.mem_mergeSort
theorem sortS_len (zs : List (List UInt8)) : (sortS zs).length = zs.length := List.length_mergeSort _
theorem sortS_le (zs : List (List UInt8)) : (sortS zs).Pairwise fun x y => x ≤ y := by
 have h := List.pairwise_mergeSort (le := fun x y : List UInt8 => decide (x ≤ y)) (fun a b c h1 h2 => decide_eq_true (List.le_trans (of_decide_eq_true h1) (of_decide_eq_true h2))) (fun a b => by
  rcases List.le_total a b with h | h
  ·simp [h]
  ·simp [h]) zs
 exact h.imp fun h => by simpa using h
theorem sle_lt {a b : List UInt8} (h : a ≤ b) (hn : a ≠ b) : a < b := Classical.byContradiction fun h2 => hn (List.le_antisymm h h2)
theorem slt_ne {a b : List UInt8} (h : a < b) : a ≠ b := fun e => by subst e; exact List.lt_irrefl a h
theorem slt_ext : ∀ {l m : List (List UInt8)}, l.Pairwise (fun x y => x < y) → m.Pairwise (fun x y => x < y) → (∀ x, x ∈ l ↔ x ∈ m) → l = m
 | [], [], _, _, _ => rfl
 | [], y :: m, _, _, h => absurd ((h y).2 (List.mem_cons_self ..)) List.not_mem_nil
 | x :: l, [], _, _, h => absurd ((h x).1 (List.mem_cons_self ..)) List.not_mem_nil
 |
  x :: l, y :: m, h1, h2, h => by
  obtain ⟨a1, a2⟩ := List.pairwise_cons.1 h1
  obtain ⟨b1, b2⟩ := List.pairwise_cons.1 h2
  have hxy : x = y := by
   have hx := (h x).1 (List.mem_cons_self ..)
   have hy := (h y).2 (List.mem_cons_self ..)
   rcases List.mem_cons.1 hx with e | hx
   ·exact e
   ·rcases List.mem_cons.1 hy with e | hy
    ·exact e.symm
    ·exact absurd (List.lt_trans (b1 x hx) (a1 y hy)) (List.lt_irrefl _)
  subst hxy
  rw [slt_ext a2 b2 fun z => ?_]
  constructor
  ·intro hz
   rcases List.mem_cons.1 ((h z).1 (List.mem_cons_of_mem _ hz)) with e | hz'
   ·exact absurd e.symm (slt_ne (a1 z hz))
   ·exact hz'
  ·intro hz
   rcases List.mem_cons.1 ((h z).2 (List.mem_cons_of_mem _ hz)) with e | hz'
   ·exact absurd e.symm (slt_ne (b1 z hz))
   ·exact hz'
theorem compactS_upto {d : Array (List UInt8)} (hs : ∀ j, j + 1 < d.size → d[j]! ≤ d[j + 1]!) : ∀ m, m ≤ d.size → (Lib.compactUpTo d m).Pairwise (fun x y => x < y) ∧ (∀ x ∈ Lib.compactUpTo d m, (∃ j, j < m ∧ d[j]! = x) ∧ (0 < m → x ≤ d[m - 1]!)) ∧ ∀ j, j < m → d[j]! ∈ Lib.compactUpTo d m
 |
  0, _ => by
  have : Lib.compactUpTo d 0 = [] := rfl
  rw [this]
  exact ⟨List.Pairwise.nil, fun x hx => absurd hx List.not_mem_nil, fun j hj => absurd hj (Nat.not_lt_zero _)⟩
 |
  m + 1, hm => by
  obtain ⟨i1, i2, i3⟩ := compactS_upto hs m (by omega)
  rw [Lib.compactUpTo_succ]
  have hprev : 0 < m → d[m - 1]! ≤ d[m]! := fun h0 => by
   have := hs (m - 1) (by omega)
   rwa [show m - 1 + 1 = m by omega] at this
  have hle : ∀ x ∈ Lib.compactUpTo d m, x ≤ d[m]! := fun x hx => by
   obtain ⟨⟨j, hj, _⟩, h2⟩ := i2 x hx
   exact List.le_trans (h2 (by omega)) (hprev (by omega))
  by_cases hk : Lib.keeps d m = true
  ·rw [if_pos hk]
   refine ⟨List.pairwise_append.2 ⟨i1, List.pairwise_singleton _ _, fun x hx y hy => ?_⟩, fun x hx => ?_, fun j hj => ?_⟩
   ·rw [List.mem_singleton.1 hy]
    obtain ⟨⟨j, hj, _⟩, h2⟩ := i2 x hx
    have h3 := h2 (by omega)
    have h4 := hprev (by omega)
    have h5 : d[m - 1]! ≠ d[m]! := by
     intro e
     rw [Lib.keeps_neg (by omega) e.symm] at hk
     cases hk
    exact List.lt_of_le_of_lt h3 (sle_lt h4 h5)
   ·rw [Nat.add_sub_cancel]
    rcases List.mem_append.1 hx with hx | hx
    ·obtain ⟨⟨j, hj, h1⟩, _⟩ := i2 x hx
     exact ⟨⟨j, by omega, h1⟩, fun _ => hle x hx⟩
    ·rw [List.mem_singleton.1 hx]
     exact ⟨⟨m, by omega, rfl⟩, fun _ => List.le_refl _⟩
   ·by_cases e : j = m
    ·rw [e]; exact List.mem_append_right _ (List.mem_singleton.2 rfl)
    ·exact List.mem_append_left _ (i3 j (by omega))
  ·rw [if_neg hk, List.append_nil]
   have hm0 : 0 < m := by
    rcases Nat.eq_zero_or_pos m with h0 | h0
    ·subst h0; exact absurd (Lib.keeps_lt_one d 0 (by omega)) hk
    ·exact h0
   have he : d[m]! = d[m - 1]! := by
    apply Classical.byContradiction
    intro hne
    exact hk (Lib.keeps_pos hne)
   refine ⟨i1, fun x hx => ?_, fun j hj => ?_⟩
   ·rw [Nat.add_sub_cancel]
    obtain ⟨⟨j, hj, h1⟩, _⟩ := i2 x hx
    exact ⟨⟨j, by omega, h1⟩, fun _ => hle x hx⟩
   ·by_cases e : j = m
    ·rw [e, he]; exact i3 (m - 1) (by omega)
    ·exact i3 j (by omega)
theorem compactS_sorted {zs : List (List UInt8)} (h : zs.Pairwise fun x y => x ≤ y) : (Lib.compact zs).Pairwise (fun x y => x < y) ∧ ∀ x, x ∈ Lib.compact zs ↔ x ∈ zs := by
 have hget : ∀ j, j < zs.length → zs.toArray[j]! = zs[j]?.getD [] := fun j hj => by
  rw [getElem!_pos _ j (by simpa using hj), List.getElem?_eq_getElem hj]
  rfl
 have hs : ∀ j, j + 1 < zs.toArray.size → zs.toArray[j]! ≤ zs.toArray[j + 1]! := fun j hj => by
  have hj' : j + 1 < zs.length := by simpa using hj
  rw [hget j (by omega), hget (j + 1) hj', List.getElem?_eq_getElem (by omega), List.getElem?_eq_getElem hj']
  exact List.pairwise_iff_getElem.1 h j (j + 1) (by omega) hj' (by omega)
 obtain ⟨h1, h2, h3⟩ := compactS_upto hs zs.length (by simp)
 refine ⟨h1, fun x => ⟨fun hx => ?_, fun hx => ?_⟩⟩
 ·obtain ⟨⟨j, hj, e⟩, _⟩ := h2 x hx
  rw [hget j hj, List.getElem?_eq_getElem hj] at e
  rw [← e]
  exact List.getElem_mem hj
 ·obtain ⟨j, hj⟩ := List.mem_iff_getElem?.1 hx
  have hjl := (List.getElem?_eq_some_iff.1 hj).1
  have := h3 j hjl
  rw [hget j hjl, hj] at this
  exact this
theorem sortS_own {W : World} {base n c : Nat} {A : Option Addr} {zs : List (List UInt8)} (h : W.ownsRow base 9 1 (.slice A n c) n (zs.map encStr)) (hn : n < 4611686018427387904) :
  Calls Tryz.prog 38 #[.slice A n c] W fun e w' => e = .returned (.tuple #[]) ∧ w'.ownsRow base 9 1 (.slice A n c) n ((sortS zs).map encStr) ∧ W.grownBy w' (Value.slice A n c).ownBlock := by
 have hl : zs.length = n := by simpa using h.1
 by_cases h0 : n = 0
 ·subst h0
  have hz : zs = [] := List.eq_nil_of_length_eq_zero hl
  subst hz
  refine (Tryz.slices_Sort_string_none A c W).mono ?_
  rintro e w' ⟨rfl, rfl⟩
  exact ⟨rfl, by simpa [sortS] using h, World.grownBy.refl _ _⟩
 ·obtain ⟨g, rfl, hb, hg⟩ := own_head h (by omega)
  obtain ⟨g', cap, hv, _, _, _, _, _, hH⟩ := Lib.holds_of_ownsRow h (by simp)
  injection hv with hv1 _ hv3
  injection hv1 with hv1
  injection hv1 with hv1 _ _
  subst hv1 hv3
  have hS := Tryz.slices_Sort_string g 0 c zs W hH hg (by omega)
  rw [hl] at hS
  refine hS.mono ?_
  rintro e w' ⟨rfl, q, os, rfl⟩
  obtain ⟨cap, cur, hv, h1, h2, h3, h4, h5⟩ : ∃ cap cur, c = cap ∧ W.heap[g]? = some (.cells cur 9 (0, 0)) ∧ n ≤ cap ∧ cap ≤ maxLen ∧ cur.size = cap * 1 ∧ base ≤ g := by
   rcases h.2 with ⟨hx, _⟩ | ⟨g2, cap, cur, hx, hb2, hg2, h1, h2, h3, _⟩
   ·cases hx
   ·injection hx with hx1 _ hx3
    injection hx1 with hx1
    injection hx1 with hx1 _ _
    subst hx1
    exact ⟨cap, cur, hx3, hg2, h1, h2, h3, hb2⟩
  subst hv
  have := ownsRow_sorted (n := q) (os := os) (ss := zs) (ts := sortS zs) (sortS_len zs) h5 h1 (by omega) h3 h4
  rw [hl] at this
  exact ⟨rfl, this, grownBy_sorted _⟩
theorem compactS_own {W : World} {base n c : Nat} {A : Option Addr} {zs : List (List UInt8)} (h : W.ownsRow base 9 1 (.slice A n c) n (zs.map encStr)) (hn : n < 4611686018427387904) (h0 : 0 < n) :
  Calls Tryz.prog 39 #[.slice A n c] W fun e w' => e = .returned (.slice A (Lib.compact zs).length c) ∧ w'.ownsRow base 9 1 (.slice A (Lib.compact zs).length c) (Lib.compact zs).length ((Lib.compact zs).map encStr) ∧ W.grownBy w' (Value.slice A n c).ownBlock := by
 have hl : zs.length = n := by simpa using h.1
 obtain ⟨g, rfl, hb, hg⟩ := own_head h (by omega)
 obtain ⟨g', cap, hv, _, _, hnc, _, _, hH⟩ := Lib.holds_of_ownsRow h (by simp)
 injection hv with hv1 _ hv3
 injection hv1 with hv1
 injection hv1 with hv1 _ _
 subst hv1 hv3
 have hS := Tryz.slices_Compact_string g 0 c zs W hH (by omega) (by omega)
 rw [hl] at hS
 refine hS.mono ?_
 rintro e w' ⟨rfl, q, rfl⟩
 have hle := Lib.compact_length_le zs
 have := Lib.ownsRow_putRow (q := q) (k := (Lib.compact zs).length) (ys := Lib.compact zs ++ List.replicate (n - (Lib.compact zs).length) []) h (by rw [List.length_append, List.length_replicate]; omega) (by omega)
 rw [List.take_left' rfl] at this
 refine ⟨rfl, this, ?_⟩
 have := grownBy_sorted (w := W) (g := g) (n := q) (os := #[]) (Lib.compact zs ++ List.replicate (n - (Lib.compact zs).length) []).toArray
 rw [grow_empty] at this
 exact this
end Go.Proofs.YtkhemhiifhggmaaGreatDoor
namespace Go.Proofs.YtkhemhiifhggmaaGreatDoor
open Go.Sort
set_option linter.unusedVariables false
def digs : Nat → Nat → List UInt8
 | 0, _ => []
 | k + 1, u => digs k (u / 10) ++ [UInt8.ofNat (48 + u % 10)]
theorem digs_len : ∀ k u, (digs k u).length = k
 | 0, _ => rfl
 |
  k + 1, u => by
  unfold digs
  rw [List.length_append, digs_len k]
  rfl
theorem digs_zero : ∀ k, digs k 0 = List.replicate k 48
 | 0 => rfl
 |
  k + 1 => by
  unfold digs
  rw [show 0 / 10 = 0 from rfl, digs_zero k, List.replicate_succ']
  rfl
theorem digs_ch : ∀ k u, ∀ c ∈ digs k u, 48 ≤ c.toNat ∧ c.toNat ≤ 57
 | 0, _, c, hc => absurd hc List.not_mem_nil
 |
  k + 1, u, c, hc => by
  unfold digs at hc
  rcases List.mem_append.1 hc with hc | hc
  ·exact digs_ch k _ c hc
  ·rw [List.mem_singleton.1 hc]
   have : (UInt8.ofNat (48 + u % 10)).toNat = 48 + u % 10 := by
    rw [UInt8.toNat_ofNat']
    omega
   omega
theorem pad_digs : ∀ k u, u < 10 ^ (k + 1) → List.replicate (k + 1 - (Lib.decDigits u).length) 48 ++ Lib.decDigits u = digs (k + 1) u
 |
  k, u, h => by
  by_cases h10 : u < 10
  ·rw [Lib.decDigits, dif_pos h10]
   unfold digs
   rw [show u / 10 = 0 by omega, digs_zero, show u % 10 = u by omega]
   rfl
  ·rw [Lib.decDigits, dif_neg h10]
   unfold digs
   match k, h with
   | 0, h => omega
   |
    k + 1, h =>
    rw [← pad_digs k (u / 10) (by rw [Nat.pow_succ] at h; omega), List.length_append, List.append_assoc, List.length_singleton, Nat.add_sub_add_right]
theorem parse_app (b : List UInt8) : ∀ (a : List UInt8) (acc v : Nat), Lib.parseUint10 acc a = .ok v → Lib.parseUint10 acc (a ++ b) = Lib.parseUint10 v b
 |
  [], acc, v, h => by
  unfold Lib.parseUint10 at h
  injection h with h
  rw [h]
  rfl
 |
  c :: r, acc, v, h => by
  rw [List.cons_append]
  unfold Lib.parseUint10 at h
  conv => lhs; unfold Lib.parseUint10
  split at h
  ·rename_i hc
   rw [if_pos hc]
   split at h
   ·cases h
   ·rename_i h1
    rw [if_neg h1]
    split at h
    ·cases h
    ·rename_i h2
     rw [if_neg h2]
     exact parse_app b r _ v h
  ·cases h
theorem parse_digs : ∀ k u, k ≤ 18 → u < 10 ^ k → Lib.parseUint10 0 (digs k u) = .ok u
 |
  0, u, _, h => by
  have : u = 0 := by simpa using h
  subst this
  rfl
 |
  k + 1, u, hk, h => by
  have h2 : u / 10 < 10 ^ k := by rw [Nat.pow_succ] at h; omega
  have h3 : (10 : Nat) ^ k ≤ 10 ^ 17 := Nat.pow_le_pow_right (by decide) (by omega)
  have h4 : (10 : Nat) ^ 17 = 100000000000000000 := by decide
  have h5 : (UInt8.ofNat (48 + u % 10)).toNat = 48 + u % 10 := by
   rw [UInt8.toNat_ofNat']
   omega
  unfold digs
  rw [parse_app _ _ _ _ (parse_digs k (u / 10) (by omega) h2)]
  unfold Lib.parseUint10 Lib.parseUint10
  rw [h5, if_pos (by omega), if_neg (by omega), if_neg (by omega)]
  congr 1
  omega
theorem lt_app {c d : List UInt8} : ∀ {a b : List UInt8}, a.length = b.length → a < b → a ++ c < b ++ d
 | [], [], _, h => absurd h (List.lt_irrefl _)
 | [], _ :: _, h, _ => by cases h
 | _ :: _, [], h, _ => by cases h
 |
  x :: a, y :: b, hl, h => by
  rw [List.cons_append, List.cons_append]
  rw [List.cons_lt_cons_iff] at h ⊢
  rcases h with h | ⟨h1, h2⟩
  ·exact .inl h
  ·exact .inr ⟨h1, lt_app (by simpa using hl) h2⟩
theorem lt_pre (a : List UInt8) {c d : List UInt8} (h : c < d) : a ++ c < a ++ d := by
 induction a with
 | nil => exact h
 | cons x r ih => rw [List.cons_append, List.cons_append, List.cons_lt_cons_iff]; exact .inr ⟨rfl, ih⟩
theorem digs_lt : ∀ k u v, v < 10 ^ k → u < v → digs k u < digs k v
 |
  0, u, v, h, h2 => by
  have : v = 0 := by simpa using h
  omega
 |
  k + 1, u, v, h, h2 => by
  unfold digs
  by_cases hd : u / 10 = v / 10
  ·rw [hd]
   refine lt_pre _ ?_
   rw [List.cons_lt_cons_iff]
   left
   rw [UInt8.lt_iff_toNat_lt, UInt8.toNat_ofNat', UInt8.toNat_ofNat']
   omega
  ·exact lt_app (by rw [digs_len, digs_len]) (digs_lt k (u / 10) (v / 10) (by rw [Nat.pow_succ] at h; omega) (by omega))
theorem name_form {c : UInt8} {n : Int} (hn : 1 ≤ n ∧ n ≤ 999999999) (hc : 97 ≤ c.toNat ∧ c.toNat ≤ 122) : nameP c n = c :: 95 :: digs 9 n.toNat := by
 unfold nameP
 rw [if_pos ⟨hn, hc⟩]
 unfold pad9 Lib.itoa
 rw [if_neg (by omega), pad_digs 8 n.toNat (by
                        have : (10 : Nat) ^ (8 + 1) = 1000000000 := by decide
                        omega)]
 rfl
theorem name_len {c : UInt8} {n : Int} (hn : 1 ≤ n ∧ n ≤ 999999999) (hc : 97 ≤ c.toNat ∧ c.toNat ≤ 122) : (nameP c n).length = 11 := by
 rw [name_form hn hc]
 simp [digs_len]
theorem name_le (c : UInt8) (n : Int) : (nameP c n).length ≤ 11 := by
 by_cases h : (1 ≤ n ∧ n ≤ 999999999) ∧ 97 ≤ c.toNat ∧ c.toNat ≤ 122
 ·rw [name_len h.1 h.2]; omega
 ·unfold nameP; rw [if_neg h]; simp
theorem name_lt {c : UInt8} {n m : Int} (hn : 1 ≤ n) (hm : m ≤ 999999999) (hc : 97 ≤ c.toNat ∧ c.toNat ≤ 122) (h : n < m) : nameP c n < nameP c m := by
 rw [name_form ⟨hn, by omega⟩ hc, name_form ⟨by omega, hm⟩ hc]
 have := digs_lt 9 n.toNat m.toNat (by
                    have : (10 : Nat) ^ 9 = 1000000000 := by decide
                    omega) (by omega)
 exact lt_pre [c, 95] this
theorem name_ok {n : Int} (hn : 1 ≤ n ∧ n ≤ 999999999) : okName (nameP 112 n) = some n := by
 have hf := name_form (c := 112) hn (by decide)
 have hd : (nameP 112 n).drop (min 2 (nameP 112 n).length) = digs 9 n.toNat := by
  rw [hf]
  simp [digs_len]
 have hlt : n.toNat < 10 ^ 9 := by
  have : (10 : Nat) ^ 9 = 1000000000 := by decide
  omega
 have hp := parse_digs 9 n.toNat (by decide) hlt
 have hnum : numT (digs 9 n.toNat) = some n := by
  have hch := digs_ch 9 n.toNat
  have hlen := digs_len 9 n.toNat
  generalize digs 9 n.toNat = t at hp hch hlen
  match t, hlen with
  |
   c :: r, _ =>
   have h1 := hch c (List.mem_cons_self ..)
   unfold numT
   rw [Lib.atoiAll_plain c r (by omega) (by omega)]
   unfold Lib.parseMag
   rw [if_neg (by simp), hp]
   unfold Lib.signless
   simp only
   rw [if_neg (by omega)]
   simp only
   congr 1
   omega
 unfold okName
 rw [hd, hnum, Option.bind_some, if_pos rfl]
theorem new_none : okName [110, 101, 119] = none := by decide +kernel
theorem new_ne (n : Int) : nameP 112 n ≠ [110, 101, 119] := by
 by_cases h : (1 ≤ n ∧ n ≤ 999999999) ∧ (97 ≤ (112 : UInt8).toNat ∧ (112 : UInt8).toNat ≤ 122)
 ·rw [name_form h.1 h.2]
  intro e
  injection e with e
  cases e
 ·unfold nameP
  rw [if_neg h]
  simp
theorem name_good {c : UInt8} {n : Int} (hn : 1 ≤ n ∧ n ≤ 999999999) (hc : 97 ≤ c.toNat ∧ c.toNat ≤ 122) : nameB (bs (nameP c n)) = true := by
 unfold nameB
 have h1 : (bs (nameP c n)).size = 11 := by rw [bs_size, name_len hn hc]
 have h2 : (bs (nameP c n)).data.toList = nameP c n := by simp [bs]
 rw [h1, h2, name_form hn hc]
 simp only [List.all_cons, Bool.and_eq_true, decide_eq_true_eq]
 refine ⟨by omega, ?_, by decide, ?_⟩
 ·unfold nameC
  exact decide_eq_true (.inl ⟨by omega, by omega⟩)
 ·rw [List.all_eq_true]
  intro x hx
  have := digs_ch _ _ x hx
  unfold nameC
  exact decide_eq_true (.inr (.inl ⟨by omega, by omega⟩))
end Go.Proofs.YtkhemhiifhggmaaGreatDoor
namespace Go.Proofs.YtkhemhiifhggmaaGreatDoor
set_option linter.unusedVariables false
theorem cntR_enc (z : Int) (hz : 0 ≤ z ∧ z ≤ 9223372036854775807) (r : List UInt8) : cntR (by8 (numI z) ++ r) = some (z, r) := by
 unfold cntR
 rw [readCnt_enc hz r]
 rfl
theorem segB_eq (s : Sg) : segB s = by8 (numI s.id) ++ (by8 (numI s.docs) ++ (by8 (numI s.gen) ++ by8 (numI s.gone))) := by
 unfold segB Sg.nums numsI
 simp [by8]
theorem segR_enc (s : Sg) (h : ∀ z ∈ s.nums, 0 ≤ z ∧ z ≤ 9223372036854775807) (r : List UInt8) : segR (segB s ++ r) = some (s, r) := by
 have h1 := h s.id (by simp [Sg.nums])
 have h2 := h s.docs (by simp [Sg.nums])
 have h3 := h s.gen (by simp [Sg.nums])
 have h4 := h s.gone (by simp [Sg.nums])
 unfold segR
 rw [segB_eq]
 simp only [List.append_assoc]
 rw [cntR_enc _ h1]
 simp only [Option.bind_some]
 rw [cntR_enc _ h2]
 simp only [Option.bind_some]
 rw [cntR_enc _ h3]
 simp only [Option.bind_some]
 rw [cntR_enc _ h4]
 rfl
theorem segsR_enc : ∀ (l : List Sg) (h : ∀ s ∈ l, ∀ z ∈ s.nums, 0 ≤ z ∧ z ≤ 9223372036854775807) (r : List UInt8), segsR l.length (l.flatMap segB ++ r) = some (l, r)
 | [], _, _ => rfl
 |
  s :: l, h, r => by
  rw [List.flatMap_cons, List.append_assoc, List.length_cons]
  unfold segsR
  rw [segR_enc s (h s (List.mem_cons_self ..))]
  simp only [Option.bind_some]
  rw [segsR_enc l (fun s' hs => h s' (List.mem_cons_of_mem _ hs)) r]
  rfl
theorem readBlk_enc (t : List UInt8) (ht : t.length ≤ 4611686018427387000) (r : List UInt8) : readBlk (blockB t ++ r) = (t, 0, r) := by
 unfold blockB readBlk
 rw [List.append_assoc, readCnt_enc (z := (t.length : Int)) ⟨by omega, by omega⟩]
 simp
 omega
theorem open_seal (k : Nat) (t : List UInt8) (ht : t.length ≤ 4611686018427387000) : openB k (sealB k t) = (t, 0) := by
 have hs : sealB k t = wantB k ++ (blockB t ++ four (sumZ (bodyB k t))) := by
  unfold sealB bodyB wantB
  simp
 have hd : (sealB k t).drop 4 = blockB t ++ four (sumZ (bodyB k t)) := by
  rw [hs]
  exact List.drop_left' rfl
 have h4 : (four (sumZ (bodyB k t))).length = 4 := by simp [four, by8]
 unfold openB
 rw [hd, readBlk_enc t ht]
 simp only [h4]
 rw [if_pos (by rw [hs]; exact headE_ok _ _ (List.take_left' rfl))]
 simp
theorem textP_len {next : Int} {l : List Sg} (h : PtOk next l) (hl : l.length ≤ 1099511627776) : (textP next l).length ≤ 36 * l.length + 18 := by
 have hp := segsOk_pos h.2.1 (Int.le_refl 0) h.2.2
 have h1 : (by8 (numsI [next, (l.length : Int)])).length ≤ 18 := by
  rw [by8_length]
  have := numsI_len4 (zs := [next, (l.length : Int)]) (by
   intro z hz
   simp only [List.mem_cons, List.not_mem_nil, or_false] at hz
   rcases hz with e | e <;> subst e <;> have := h.1 <;> have := h.2.1 <;> exact ⟨by omega, by omega⟩)
  simp at this
  omega
 have h2 : ∀ l : List Sg, (∀ s ∈ l, ∀ z ∈ s.nums, 0 ≤ z ∧ z ≤ 9223372036854775807) → (l.flatMap segB).length ≤ 36 * l.length := by
  intro l
  induction l with
  | nil => intro _; simp
  |
   cons s r ih =>
   intro hp
   have h3 := ih fun s' hs => hp s' (List.mem_cons_of_mem _ hs)
   have h4 := numsI_len4 (zs := s.nums) (hp s (List.mem_cons_self ..))
   have h5 : (segB s).length ≤ 36 := by unfold segB; rw [by8_length]; simp [Sg.nums] at h4 ⊢; omega
   simp only [List.flatMap_cons, List.length_append, List.length_cons]
   omega
 have h3 := h2 l hp
 unfold textP
 rw [List.length_append]
 omega
theorem read_seal {next : Int} {l : List Sg} (h : PtOk next l) (hl : l.length ≤ 1099511627776) : readP (sealB 2 (textP next l)) = some (next, l) := by
 have hp := segsOk_pos h.2.1 (Int.le_refl 0) h.2.2
 unfold readP
 rw [open_seal _ _ (by have := textP_len h hl; omega), if_pos rfl]
 have ht : textP next l = by8 (numI next) ++ (by8 (numI (l.length : Int)) ++ (l.flatMap segB ++ [])) := by
  unfold textP numsI
  simp [by8]
 simp only
 rw [ht, cntR_enc _ ⟨by have := h.1; omega, by have := h.2.1; omega⟩]
 simp only [Option.bind_some]
 rw [cntR_enc _ ⟨by omega, by omega⟩]
 simp only [Option.bind_some, Int.toNat_natCast]
 rw [segsR_enc l hp]
 simp only [Option.bind_some]
 rw [if_pos ⟨trivial, h⟩]
end Go.Proofs.YtkhemhiifhggmaaGreatDoor
namespace Go.Proofs.YtkhemhiifhggmaaGreatDoor
open Go.RowKit Go.Maps Go.Sort
set_option linter.unusedVariables false
section
variable {H : Type} {D : DS H} {f h : ByteArray → Option Int} {g : Int → List UInt8 × Int} {L a q : Int}
structure Aft (f : ByteArray → Option Int) (g : Int → List UInt8 × Int) (L : Int) (S nm : ByteArray) (f' : ByteArray → Option Int) (g' : Int → List UInt8 × Int) : Prop where
 o : ∀ s, s ≠ newN → s ≠ nm → f' s = f s
 y : f' nm = f nm ∨ (f' nm = some (L + 1) ∧ g' (L + 1) = (S.data.toList, (S.data.toList.length : Int)))
 g : ∀ k, k ≤ L → g' k = g k
def SaveEnd (R : DS H × Int) (f h : ByteArray → Option Int) (g : Int → List UInt8 × Int) (L a q : Int) (S nm : ByteArray) : Prop :=
 (R.2 = 0 ∧ (a = -1 ∨ 5 ≤ a) ∧ Ar R.1 (max (-1) (a - 5)) q ∧ ∃ f' g' L', DV R.1 f' f' g' L' ∧ Aft f g L S nm f' g' ∧ f' nm = some (L + 1) ∧ g' (L + 1) = (S.data.toList, (S.data.toList.length : Int)) ∧ f' newN = none) ∨
 (R.2 = q ∧ 0 ≤ a ∧ a ≤ 4 ∧ R.1.armed = -1 ∧ R.1.down = (q == 15) ∧ ∃ f' g' L', DV R.1 f' h g' L' ∧ Aft f g L S nm f' g')
theorem saveEnd_no {E : DS H} {R : DS H × Int} {S nm : ByteArray} {f' : ByteArray → Option Int} {g' : Int → List UInt8 × Int} {L' : Int} (e : R = E.step) (hA : Ar E 0 q) (v : DV E f' h g' L') (haft : Aft f g L S nm f' g') (h0 : 0 ≤ a) (h4 : a ≤ 4) : SaveEnd R f h g L a q S nm := by
 rw [step_no hA] at e
 subst e
 obtain ⟨v1, x1, x2, x3⟩ := ar_fault (D := E) rfl hA.2.1 v
 exact .inr ⟨rfl, h0, h4, x1, x3, f', g', L', v1, haft⟩
theorem newN_ok : nameB newN = true := by decide +kernel
theorem upd_le {β : Type} (g : Int → β) {L k : Int} (b : β) (h : k ≤ L) : upd g (L + 1) b k = g k := upd_other _ _ (by omega)
theorem save_run (v : DV D f h g L) (hA : Ar D a q) (ha : -1 ≤ a) (hq : 0 ≤ a → q ≠ 0) (S : ByteArray) {nm : ByteArray} (hnm : nameB nm = true) (hne : nm ≠ newN) : SaveEnd (runS (acts S nm) D) f h g L a q S nm := by
 unfold acts
 by_cases h0 : a = 0
 ·subst h0
  have e := create_no hA (hq (by omega)) newN_ok
  have h1 : (D.create newN).2 ≠ 0 := by rw [e, step_no hA]; exact hq (by omega)
  rw [runS_no h1]
  exact saveEnd_no e hA v ⟨fun _ _ _ => rfl, .inl rfl, fun _ _ => rfl⟩ (Int.le_refl _) (by omega)
 obtain ⟨e1, v1, A1⟩ := create_go v hA h0 newN_ok
 rw [runS_ok (f := fun D => D.create ⟨#[110, 101, 119]⟩) e1]
 have hf1 : upd f newN (some (L + 1)) newN = some (L + 1) := upd_same _ _ _
 have ho1 : ∀ s, s ≠ newN → s ≠ nm → upd f newN (some (L + 1)) s = f s := fun s h1 _ => upd_other _ _ h1
 have hy1 : upd f newN (some (L + 1)) nm = f nm := upd_other _ _ hne
 generalize hE1 : (D.create ⟨#[110, 101, 119]⟩).1 = E1
 have hE1' : (D.create newN).1 = E1 := hE1
 rw [hE1'] at v1 A1
 by_cases h1 : max (-1) (a - 1) = 0
 ·rw [h1] at A1
  have e := change_no v1 A1 (hq (by omega)) newN_ok hf1 (fun f => (f.1 ++ S.data.toList, f.2))
  have hn : (E1.append newN S).2 ≠ 0 := by unfold DS.append; rw [e, step_no A1]; exact hq (by omega)
  rw [runS_no (f := fun D => D.append ⟨#[110, 101, 119]⟩ S) hn]
  exact saveEnd_no e A1 v1 ⟨ho1, .inl hy1, fun k hk => upd_le _ _ hk⟩ (by omega) (by omega)
 obtain ⟨e2, v2, A2⟩ := change_go v1 A1 h1 newN_ok hf1 (fun f => (f.1 ++ S.data.toList, f.2))
 rw [runS_ok (f := fun D => D.append ⟨#[110, 101, 119]⟩ S) (by exact e2)]
 generalize hE2 : (E1.append ⟨#[110, 101, 119]⟩ S).1 = E2
 have hE2' : (E1.change newN (fun f => (f.1 ++ S.data.toList, f.2))).1 = E2 := hE2
 rw [hE2'] at v2 A2
 by_cases h2 : max (-1) (max (-1) (a - 1) - 1) = 0
 ·rw [h2] at A2
  have e := change_no v2 A2 (hq (by omega)) newN_ok hf1 (fun f => (f.1, (f.1.length : Int)))
  have hn : (E2.sync newN).2 ≠ 0 := by unfold DS.sync; rw [e, step_no A2]; exact hq (by omega)
  rw [runS_no (f := fun D => D.sync ⟨#[110, 101, 119]⟩) hn]
  exact saveEnd_no e A2 v2 ⟨ho1, .inl hy1, fun k hk => by rw [upd_le _ _ hk, upd_le _ _ hk]⟩ (by omega) (by omega)
 obtain ⟨e3, v3, A3⟩ := change_go v2 A2 h2 newN_ok hf1 (fun f => (f.1, (f.1.length : Int)))
 rw [runS_ok (f := fun D => D.sync ⟨#[110, 101, 119]⟩) (by exact e3)]
 generalize hE3 : (E2.sync ⟨#[110, 101, 119]⟩).1 = E3
 have hE3' : (E2.change newN (fun f => (f.1, (f.1.length : Int)))).1 = E3 := hE3
 rw [hE3'] at v3 A3
 have hg3 : ∀ k, k ≤ L → upd (upd (upd g (L + 1) ([], 0)) (L + 1) ((upd g (L + 1) ([], 0) (L + 1)).1 ++ S.data.toList, (upd g (L + 1) ([], 0) (L + 1)).2)) (L + 1) ((upd (upd g (L + 1) ([], 0)) (L + 1) ((upd g (L + 1) ([], 0) (L + 1)).1 ++ S.data.toList, (upd g (L + 1) ([], 0) (L + 1)).2) (L + 1)).1, (((upd (upd g (L + 1) ([], 0)) (L + 1) ((upd g (L + 1) ([], 0) (L + 1)).1 ++ S.data.toList, (upd g (L + 1) ([], 0) (L + 1)).2) (L + 1)).1.length : Nat) : Int)) k = g k := fun k hk => by rw [upd_le _ _ hk, upd_le _ _ hk, upd_le _ _ hk]
 have hs3 : upd (upd (upd g (L + 1) ([], 0)) (L + 1) ((upd g (L + 1) ([], 0) (L + 1)).1 ++ S.data.toList, (upd g (L + 1) ([], 0) (L + 1)).2)) (L + 1) ((upd (upd g (L + 1) ([], 0)) (L + 1) ((upd g (L + 1) ([], 0) (L + 1)).1 ++ S.data.toList, (upd g (L + 1) ([], 0) (L + 1)).2) (L + 1)).1, (((upd (upd g (L + 1) ([], 0)) (L + 1) ((upd g (L + 1) ([], 0) (L + 1)).1 ++ S.data.toList, (upd g (L + 1) ([], 0) (L + 1)).2) (L + 1)).1.length : Nat) : Int)) (L + 1) = (S.data.toList, (S.data.toList.length : Int)) := by
  rw [upd_same, upd_same, upd_same]
  rfl
 by_cases h3 : max (-1) (max (-1) (max (-1) (a - 1) - 1) - 1) = 0
 ·rw [h3] at A3
  have e := rename_no v3 A3 (hq (by omega)) newN_ok hnm hf1
  have hn : (E3.rename newN nm).2 ≠ 0 := by rw [e, step_no A3]; exact hq (by omega)
  rw [runS_no (f := fun D => D.rename ⟨#[110, 101, 119]⟩ nm) hn]
  exact saveEnd_no e A3 v3 ⟨ho1, .inl hy1, hg3⟩ (by omega) (by omega)
 obtain ⟨e4, v4, A4⟩ := rename_go v3 A3 h3 newN_ok hnm hf1
 rw [runS_ok (f := fun D => D.rename ⟨#[110, 101, 119]⟩ nm) (by exact e4)]
 generalize hE4 : (E3.rename ⟨#[110, 101, 119]⟩ nm).1 = E4
 have hE4' : (E3.rename newN nm).1 = E4 := hE4
 rw [hE4'] at v4 A4
 have ho4 : ∀ s, s ≠ newN → s ≠ nm → upd (upd (upd f newN (some (L + 1))) newN none) nm (some (L + 1)) s = f s := fun s h1 h2 => by rw [upd_other _ _ h2, upd_other _ _ h1, upd_other _ _ h1]
 have hy4 : upd (upd (upd f newN (some (L + 1))) newN none) nm (some (L + 1)) nm = some (L + 1) := upd_same _ _ _
 by_cases h4 : max (-1) (max (-1) (max (-1) (max (-1) (a - 1) - 1) - 1) - 1) = 0
 ·rw [h4] at A4
  have e := syncDir_no A4 (hq (by omega))
  have hn : (E4.syncDir).2 ≠ 0 := by rw [e, step_no A4]; exact hq (by omega)
  rw [runS_no (f := fun D => D.syncDir) hn]
  exact saveEnd_no e A4 v4 ⟨ho4, .inr ⟨hy4, hs3⟩, hg3⟩ (by omega) (by omega)
 obtain ⟨e5, v5, A5⟩ := syncDir_go v4 A4 h4
 rw [runS_ok (f := fun D => D.syncDir) e5]
 left
 refine ⟨rfl, by omega, ?_, _, _, _, v5, ⟨ho4, .inr ⟨hy4, hs3⟩, hg3⟩, hy4, hs3, ?_⟩
 ·have : max (-1) (max (-1) (max (-1) (max (-1) (max (-1) (a - 1) - 1) - 1) - 1) - 1) = max (-1) (a - 5) := by omega
  rw [this] at A5
  exact A5
 ·rw [upd_other _ _ (fun e => hne e.symm), upd_same]
def StrK (M : DataW H) : Prop := ∃ es, M = .map es ∧ ∀ p ∈ es, ∃ t, p.1 = .string t
theorem StrK.mem {M : DataW H} (h : StrK M) (t : List UInt8) : t ∈ strKeys M ↔ Maps.has M (keyS (bs t)) = true := by
 obtain ⟨es, rfl, hk⟩ := h
 have hks : keyS (bs t) = .string t := by simp [keyS, bs]
 rw [hks, has_eq, List.any_eq_true]
 show t ∈ es.map (fun p => strOf p.1) ↔ _
 rw [List.mem_map]
 constructor
 ·rintro ⟨p, hp, e⟩
  obtain ⟨u, hu⟩ := hk p hp
  refine ⟨p, hp, ?_⟩
  rw [hu] at e ⊢
  have : u = t := e
  rw [this]
  exact Go.WideAt.sameKey_self (by simp [Go.WideAt.IsKeyLit])
 ·rintro ⟨p, hp, e⟩
  have := Go.WideAt.sameKey_eq e
  exact ⟨p, hp, by rw [this]; rfl⟩
theorem lateF_best {F : List UInt8 → List UInt8} {y0 : List UInt8} {m : Int} {p : Int × List Sg} (hy : okName y0 = some m) (hr : readP (F y0) = some p) : ∀ l : List (List UInt8), l.Pairwise (fun x y => y ≤ x) → y0 ∈ l → (∀ s ∈ l, y0 < s → okName s = none) → lateF F l = some (m, p.1, p.2)
 | [], _, h, _ => absurd h List.not_mem_nil
 |
  s :: r, hp, hm, hn => by
  by_cases e : y0 = s
  ·subst e
   unfold lateF
   rw [hy, Option.bind_some, hr]
   rfl
  ·have hmr : y0 ∈ r := (List.mem_cons.1 hm).resolve_left e
   obtain ⟨h1, h2⟩ := List.pairwise_cons.1 hp
   rw [lateF_skip (hn s (List.mem_cons_self ..) (sle_lt (h1 y0 hmr) e))]
   exact lateF_best hy hr r h2 hmr (fun s hs => hn s (List.mem_cons_of_mem _ hs))
theorem bs_inj {s t : List UInt8} (h : bs s = bs t) : s = t := by
 unfold bs at h
 injection h with h
 injection h
theorem bs_data (s : List UInt8) : (bs s).data.toList = s := by simp [bs]
theorem latest_at (v : DV D f h g L) (hd : D.down = false) (hK : StrK D.names) {ss : List (List UInt8)} (hss : ss.Perm (strKeys D.names)) {m : Int} (hm : 1 ≤ m ∧ m ≤ 999999999) {k : Int} (hk : f (bs (nameP 112 m)) = some k) {p : Int × List Sg} (hr : readP (g k).1 = some p)
  (hon : ∀ s k', f s = some k' → s = newN ∨ ∃ m', (1 ≤ m' ∧ m' ≤ m) ∧ s = bs (nameP 112 m')) : latestD D ss = some (m, p.1, p.2) := by
 have hmem : ∀ s, s ∈ (sortedN ss).reverse ↔ (f (bs s)).isSome = true := fun s => by
  rw [List.mem_reverse]
  show s ∈ sortS ss ↔ _
  rw [sortS_mem, hss.mem_iff, hK.mem, (v.n.2 _).1]
 have hng := name_good (c := 112) hm (by decide)
 have hrd := (read_dv v hd hng).1 k hk
 unfold latestD
 refine lateF_best (name_ok hm) ?_ _ ?_ ((hmem _).2 (by rw [hk]; rfl)) ?_
 ·show readP (readS D (bs (nameP 112 m))).data.toList = _
  rw [hrd.2, bs_data]
  exact hr
 ·rw [List.pairwise_reverse]
  exact sortS_le ss
 ·intro s hs hlt
  obtain ⟨k', hk'⟩ := Option.isSome_iff_exists.1 ((hmem s).1 hs)
  rcases hon _ _ hk' with e | ⟨m', hm', e⟩
  ·have : s = [110, 101, 119] := bs_inj e
   rw [this]
   exact new_none
  ·have e := bs_inj e
   subst e
   rcases Int.lt_or_lt_of_ne (a := m') (b := m) (by
    intro e
    subst e
    exact List.lt_irrefl _ hlt) with h1 | h1
   ·exact absurd (List.lt_trans (name_lt hm'.1 hm.2 (by decide) h1) hlt) (List.lt_irrefl _)
   ·omega
theorem acts_small (S nm : ByteArray) : ∀ F ∈ (acts S nm : List (DS H → DS H × Int)), ∀ (D : DS H) (n : Nat), D.small n → (F D).1.small (n + 1) := by
 intro F hF D n hd
 simp only [acts, List.mem_cons, List.not_mem_nil, or_false] at hF
 rcases hF with e | e | e | e | e <;> subst e
 ·exact hd.create _
 ·exact hd.append _ _
 ·exact hd.sync _
 ·exact hd.rename _ _
 ·exact hd.syncDir
theorem acts_good (S nm : ByteArray) : ∀ F ∈ (acts S nm : List (DS H → DS H × Int)), ∀ (D : DS H) (n : Nat), D.good n → (F D).1.good (n + S.size) := by
 intro F hF D n hd
 simp only [acts, List.mem_cons, List.not_mem_nil, or_false] at hF
 rcases hF with e | e | e | e | e <;> subst e
 ·exact (hd.create _).more (by omega)
 ·exact hd.append _ _
 ·exact (hd.sync _).more (by omega)
 ·exact (hd.rename _ _).more (by omega)
 ·exact hd.syncDir.more (by omega)
theorem runS_small : ∀ (l : List (DS H → DS H × Int)) (D : DS H) (n : Nat), (∀ F ∈ l, ∀ (D : DS H) (n : Nat), D.small n → (F D).1.small (n + 1)) → D.small n → (runS l D).1.small (n + l.length)
 | [], D, n, _, h => h
 |
  F :: r, D, n, hl, h => by
  have h1 := hl F (List.mem_cons_self ..) D n h
  rw [List.length_cons]
  by_cases e : (F D).2 = 0
  ·rw [runS_ok e]
   exact (runS_small r _ _ (fun F hF => hl F (List.mem_cons_of_mem _ hF)) h1).more (by omega)
  ·rw [runS_no e]
   exact h1.more (by omega)
theorem runS_good (c : Nat) : ∀ (l : List (DS H → DS H × Int)) (D : DS H) (n : Nat), (∀ F ∈ l, ∀ (D : DS H) (n : Nat), D.good n → (F D).1.good (n + c)) → D.good n → (runS l D).1.good (n + l.length * c)
 | [], D, n, _, h => h.more (by omega)
 |
  F :: r, D, n, hl, h => by
  have h1 := hl F (List.mem_cons_self ..) D n h
  rw [List.length_cons, Nat.succ_mul]
  by_cases e : (F D).2 = 0
  ·rw [runS_ok e]
   exact (runS_good c r _ _ (fun F hF => hl F (List.mem_cons_of_mem _ hF)) h1).more (by omega)
  ·rw [runS_no e]
   exact h1.more (by omega)
theorem saveD_eq {n nx : Int} {l : List Sg} (hn : 1 ≤ n ∧ n ≤ 999999999) (hp : PtOk nx l) (D : DS H) : saveD D n nx l = runS (acts (bs (sealB 2 (textP nx l))) (bs (nameP 112 n))) D := by
 have h1 : packP nx l = (sealB 2 (textP nx l), 0) := if_pos hp
 have h2 : nameP 112 n ≠ [] := by
  rw [name_form hn (by decide)]
  simp
 unfold saveD
 rw [h1, if_pos ⟨rfl, h2⟩]
 rfl
theorem segsOk_len {next : Int} : ∀ {l : List Sg} {x : Int}, x < next → segsOk next x l → x + (l.length : Int) < next
 | [], x, h, _ => by simpa using h
 |
  s :: r, x, h, hs => by
  obtain ⟨⟨h1, h2, _⟩, h3⟩ := hs
  have := segsOk_len h2 h3
  rw [List.length_cons]
  omega
theorem ptOk_len {next : Int} {l : List Sg} (h : PtOk next l) : l.length ≤ 999999998 := by
 have := segsOk_len (by have := h.1; omega) h.2.2
 have := h.2.1
 omega
theorem seal_size {next : Int} {l : List Sg} (h : PtOk next l) : (sealB 2 (textP next l)).length ≤ 36000000000 := by
 have h1 := ptOk_len h
 have h2 := textP_len h (by omega)
 rw [sealB_len]
 have := blockB_len (textP next l) (by omega)
 omega
theorem saveD_small {n nx : Int} {l : List Sg} (hn : 1 ≤ n ∧ n ≤ 999999999) (hp : PtOk nx l) {D : DS H} {k : Nat} (h : D.small k) : (saveD D n nx l).1.small (k + 5) := by
 rw [saveD_eq hn hp]
 exact runS_small _ _ _ (acts_small _ _) h
theorem saveD_good {n nx : Int} {l : List Sg} (hn : 1 ≤ n ∧ n ≤ 999999999) (hp : PtOk nx l) {D : DS H} {k : Nat} (h : D.good k) : (saveD D n nx l).1.good (k + 180000000000) := by
 rw [saveD_eq hn hp]
 refine (runS_good _ _ _ _ (acts_good _ _) h).more ?_
 have := seal_size hp
 rw [bs_size]
 show k + 5 * _ ≤ _
 omega
theorem save_first (H : Type) {n nx : Int} {l : List Sg} (hn : 1 ≤ n ∧ n ≤ 999999999) (hp : PtOk nx l) :
  (saveD (DS.new H) n nx l).2 = 0 ∧ Ar (saveD (DS.new H) n nx l).1 (-1) 0 ∧ ∃ f g L, DV (saveD (DS.new H) n nx l).1 f f g L ∧ f (bs (nameP 112 n)) = some 1 ∧ g 1 = (sealB 2 (textP nx l), ((sealB 2 (textP nx l)).length : Int)) ∧ ∀ s k, f s = some k → s = bs (nameP 112 n) := by
 rw [saveD_eq hn hp]
 rcases save_run (H := H) (a := -1) (q := 0) dv_new ⟨rfl, rfl, rfl⟩ (Int.le_refl _) (fun h => by omega) (bs (sealB 2 (textP nx l))) (name_good (c := 112) hn (by decide)) (fun e => new_ne n (bs_inj e)) with ⟨h1, _, h3, f', g', L', v, ha, hy, hg, hnw⟩ | ⟨_, h, _⟩
 ·rw [bs_data] at hg
  refine ⟨h1, h3, f', g', L', v, hy, hg, fun s k hk => ?_⟩
  apply Classical.byContradiction
  intro hs
  by_cases e : s = newN
  ·rw [e, hnw] at hk
   cases hk
  ·rw [ha.o s e hs] at hk
   cases hk
 ·omega
end
theorem own_strk {H : Type} {w W : World} {p : Nat} {D : DS H} (h : Own w W p D) : StrK D.names := by
 obtain ⟨F, _, hd, _⟩ := h
 obtain ⟨n, _, hm⟩ := hd.nam
 obtain ⟨es, e, hk⟩ := hm.keysOf
 refine ⟨es, e, fun p hp => ?_⟩
 obtain ⟨v, hv⟩ := hk p hp
 obtain ⟨x, _, hx, _⟩ := Maps.keyOf_str Tryz.underlying9 hv
 exact ⟨x, hx⟩
end Go.Proofs.YtkhemhiifhggmaaGreatDoor
namespace Go.Proofs.YtkhemhiifhggmaaGreatDoor
open Go.RowKit
set_option linter.unusedVariables false
def allF : Nat → List UInt8 → Option (List Int)
 | 0, t => if t = [] then some [] else none
 | k + 1, t => if t = [] then some [] else (cntR t).bind fun a => (allF k a.2).map (a.1 :: ·)
def allR (t : List UInt8) : Option (List Int) := allF t.length t
theorem cntR_lt {t : List UInt8} {a : Int × List UInt8} (h : cntR t = some a) : a.2.length < t.length := by
 unfold cntR at h
 by_cases h1 : (readCnt t).2.1 = 0
 ·rw [if_pos h1] at h
  injection h with h
  rw [← h]
  show (readCnt t).2.2.length < _
  unfold readCnt at h1 ⊢
  split
  ·rename_i hc
   rw [if_pos hc] at h1
   cases h1
  ·rename_i hc
   rw [if_neg hc] at h1
   unfold readNum at h1 ⊢
   by_cases he : (numR t).2.2 = 0
   ·rw [if_pos he]
    obtain ⟨k, hk, k1, k2⟩ := numR_k t he
    show (t.drop (numR t).2.1.toNat).length < _
    rw [hk, Int.toNat_natCast, List.length_drop]
    omega
   ·rw [if_neg he] at h1
    exact absurd h1 he
 ·rw [if_neg h1] at h
  cases h
theorem cntR_nil : cntR [] = none := by decide +kernel
theorem allF_fuel : ∀ (k : Nat) (t : List UInt8), t.length ≤ k → allF k t = allR t
 |
  0, t, h => by
  have : t = [] := List.eq_nil_of_length_eq_zero (by omega)
  subst this
  rfl
 | k + 1, [], h => rfl
 |
  k + 1, x :: t, h => by
  show allF (k + 1) (x :: t) = allF (t.length + 1) (x :: t)
  unfold allF
  rw [if_neg (by simp), if_neg (by simp)]
  cases e : cntR (x :: t) with
  | none => rfl
  |
   some a =>
   have h1 := cntR_lt e
   rw [List.length_cons] at h h1
   rw [Option.bind_some, Option.bind_some, allF_fuel k a.2 (by omega), allF_fuel t.length a.2 (by omega)]
theorem allR_nil : allR [] = some [] := rfl
theorem allR_cons {t : List UInt8} (h : t ≠ []) : allR t = (cntR t).bind fun a => (allR a.2).map (a.1 :: ·) := by
 match t, h with
 |
  x :: t, _ =>
  show allF (t.length + 1) (x :: t) = _
  unfold allF
  rw [if_neg (by simp)]
  cases e : cntR (x :: t) with
  | none => rfl
  |
   some a =>
   have h1 := cntR_lt e
   rw [List.length_cons] at h1
   rw [Option.bind_some, Option.bind_some, allF_fuel t.length a.2 (by omega)]
theorem allR_step {t : List UInt8} {a : Int × List UInt8} (h : cntR t = some a) : allR t = (allR a.2).map (a.1 :: ·) := by
 have : t ≠ [] := fun e => by rw [e, cntR_nil] at h; cases h
 rw [allR_cons this, h, Option.bind_some]
theorem allR_stop {t : List UInt8} (h : cntR t = none) : allR t = none ∨ t = [] := by
 by_cases e : t = []
 ·exact .inr e
 ·left
  rw [allR_cons e, h]
  rfl
theorem allR_some_nil {t : List UInt8} {m : List Int} (h : allR t = some m) (h0 : m = []) : t = [] := by
 apply Classical.byContradiction
 intro e
 rw [allR_cons e] at h
 cases hc : cntR t with
 | none => rw [hc] at h; cases h
 |
  some a =>
  rw [hc, Option.bind_some] at h
  cases ha : allR a.2 with
  | none => rw [ha] at h; cases h
  | some x => rw [ha, h0] at h; cases h
def quads : List Int → List Sg
 | a :: b :: c :: d :: r => ⟨a, b, c, d⟩ :: quads r
 | _ => []
theorem segsR_all : ∀ (N : Nat) (t : List UInt8), ((segsR N t).bind fun r => if r.2 = [] then some r.1 else none) = (allR t).bind fun m => if m.length = 4 * N then some (quads m) else none
 |
  0, t => by
  show (if t = [] then some [] else none) = _
  by_cases e : t = []
  ·subst e
   rfl
  ·rw [if_neg e]
   cases ha : allR t with
   | none => rfl
   |
    some m =>
    rw [Option.bind_some, if_neg]
    intro h
    exact e (allR_some_nil ha (List.eq_nil_of_length_eq_zero (by omega)))
 |
  N + 1, t => by
  have short : ∀ m : List Int, m.length < 4 → (if m.length = 4 * (N + 1) then some (quads m) else none) = none := fun m hm => if_neg (by omega)
  have stop : ∀ (u : List UInt8) (f : List Int → List Int), cntR u = none → (∀ m, (f m).length ≤ m.length + 3) → (((allR u).map f).bind fun m => if m.length = 4 * (N + 1) then some (quads m) else none) = none := fun u f hu hf => by
   rcases allR_stop hu with e | e
   ·rw [e]; rfl
   ·rw [e, allR_nil]
    refine short _ ?_
    have := hf []
    simp only [List.length_nil] at this
    omega
  have leave : ∀ u : List UInt8, segR u = none → ((segsR (N + 1) u).bind fun r => if r.2 = [] then some r.1 else none) = none := fun u hu => by
   show (((segR u).bind _).bind _) = none
   rw [hu]
   rfl
  cases h1 : cntR t with
  |
   none =>
   rw [leave t (by unfold segR; rw [h1]; rfl)]
   have := stop t id h1 (fun m => by show m.length ≤ _; omega)
   rw [Option.map_id] at this
   exact this.symm
  |
   some a =>
   rw [allR_step h1]
   cases h2 : cntR a.2 with
   |
    none =>
    rw [leave t (by unfold segR; rw [h1, Option.bind_some, h2]; rfl)]
    exact (stop a.2 _ h2 (fun m => by simp)).symm
   |
    some b =>
    rw [allR_step h2]
    cases h3 : cntR b.2 with
    |
     none =>
     rw [leave t (by unfold segR; rw [h1, Option.bind_some, h2, Option.bind_some, h3]; rfl), Option.map_map]
     exact (stop b.2 _ h3 (fun m => by simp)).symm
    |
     some c =>
     rw [allR_step h3]
     cases h4 : cntR c.2 with
     |
      none =>
      rw [leave t (by unfold segR; rw [h1, Option.bind_some, h2, Option.bind_some, h3, Option.bind_some, h4]; rfl), Option.map_map, Option.map_map]
      exact (stop c.2 _ h4 (fun m => by simp)).symm
     |
      some d =>
      rw [allR_step h4]
      have hs : segR t = some (⟨a.1, b.1, c.1, d.1⟩, d.2) := by unfold segR; rw [h1, Option.bind_some, h2, Option.bind_some, h3, Option.bind_some, h4]; rfl
      have ih := segsR_all N d.2
      show (((segR t).bind fun s => (segsR N s.2).bind fun r => some (s.1 :: r.1, r.2)).bind _) = _
      rw [hs, Option.bind_some]
      cases hq : segsR N d.2 with
      |
       none =>
       rw [hq] at ih
       cases ha : allR d.2 with
       | none => rfl
       |
        some m =>
        rw [ha] at ih
        simp only [Option.bind_some, Option.bind_none, Option.map_some] at ih ⊢
        split at ih
        ·cases ih
        ·rename_i hm
         rw [if_neg (show ¬ (a.1 :: b.1 :: c.1 :: d.1 :: m).length = 4 * (N + 1) by simp only [List.length_cons]; omega)]
      |
       some r =>
       rw [hq] at ih
       cases ha : allR d.2 with
       |
        none =>
        rw [ha] at ih
        simp only [Option.bind_some, Option.bind_none, Option.map_none] at ih ⊢
        split at ih
        ·cases ih
        ·rename_i hm
         rw [if_neg hm]
       |
        some m =>
        rw [ha] at ih
        simp only [Option.bind_some, Option.map_some] at ih ⊢
        by_cases hm : m.length = 4 * N
        ·rw [if_pos hm] at ih
         rw [if_pos (show (a.1 :: b.1 :: c.1 :: d.1 :: m).length = 4 * (N + 1) by simp only [List.length_cons]; omega)]
         split at ih
         ·rename_i hr
          rw [if_pos hr]
          injection ih with ih
          rw [ih]
          rfl
         ·cases ih
        ·rw [if_neg hm] at ih
         rw [if_neg (show ¬ (a.1 :: b.1 :: c.1 :: d.1 :: m).length = 4 * (N + 1) by simp only [List.length_cons]; omega)]
         split at ih
         ·cases ih
         ·rename_i hr
          rw [if_neg hr]
def shapeR (l : List Int) : Option (Int × List Sg) :=
 match l with
 | a :: b :: m => if m.length % 4 = 0 ∧ b = ((m.length / 4 : Nat) : Int) then some (a, quads m) else none
 | _ => none
theorem readP_eq (s : List UInt8) : readP s = if (openB 2 s).2 = 0 then (allR (openB 2 s).1).bind fun l => (shapeR l).bind fun p => if PtOk p.1 p.2 then some p else none else none := by
 unfold readP
 split
 rotate_left
 ·rfl
 generalize (openB 2 s).1 = c
 cases h1 : cntR c with
 |
  none =>
  rcases allR_stop h1 with e | e
  ·rw [e]; rfl
  ·rw [e]; rfl
 |
  some a =>
  rw [allR_step h1, Option.bind_some]
  cases h2 : cntR a.2 with
  |
   none =>
   rcases allR_stop h2 with e | e
   ·rw [e]; rfl
   ·rw [e]; rfl
  |
   some b =>
   rw [allR_step h2, Option.bind_some]
   have hb0 : 0 ≤ b.1 := by
    unfold cntR at h2
    split at h2
    ·rename_i hz
     injection h2 with h2
     rw [← h2]
     exact readCnt_pos _ hz
    ·cases h2
   obtain ⟨N, hN⟩ := Int.eq_ofNat_of_zero_le hb0
   rw [hN, Int.toNat_natCast]
   have ih := segsR_all N b.2
   cases hq : segsR N b.2 with
   |
    none =>
    rw [hq] at ih
    cases ha : allR b.2 with
    | none => rfl
    |
     some m =>
     rw [ha] at ih
     simp only [Option.bind_some, Option.bind_none, Option.map_some] at ih ⊢
     split at ih
     ·cases ih
     ·rename_i hm
      unfold shapeR
      dsimp only
      rw [if_neg (by omega)]
      rfl
   |
    some r =>
    rw [hq] at ih
    cases ha : allR b.2 with
    |
     none =>
     rw [ha] at ih
     simp only [Option.bind_some, Option.bind_none, Option.map_none] at ih ⊢
     split at ih
     ·cases ih
     ·rename_i hm
      rw [if_neg fun h => hm h.1]
    |
     some m =>
     rw [ha] at ih
     simp only [Option.bind_some, Option.map_some] at ih ⊢
     unfold shapeR
     dsimp only
     by_cases hm : m.length = 4 * N
     ·rw [if_pos hm] at ih
      rw [if_pos (show m.length % 4 = 0 ∧ (N : Int) = ((m.length / 4 : Nat) : Int) by omega)]
      split at ih
      ·rename_i hr
       injection ih with ih
       rw [ih, Option.bind_some]
       by_cases hp : PtOk a.1 (quads m)
       ·rw [if_pos ⟨hr, hp⟩, if_pos hp]
       ·rw [if_neg fun h => hp h.2, if_neg hp]
      ·cases ih
     ·rw [if_neg hm] at ih
      rw [if_neg (show ¬ (m.length % 4 = 0 ∧ (N : Int) = ((m.length / 4 : Nat) : Int)) by omega)]
      split at ih
      ·cases ih
      ·rename_i hr
       rw [if_neg fun h => hr h.1]
       rfl
end Go.Proofs.YtkhemhiifhggmaaGreatDoor
