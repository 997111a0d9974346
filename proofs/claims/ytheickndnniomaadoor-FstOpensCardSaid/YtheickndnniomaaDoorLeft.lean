/- What stands behind nodes (plain Lean). -/
import Derived.Test.YtheickndnniomaaDoorSgn
import Derived.Test.YtheickndnniomaaDoorDict
import Derived.Test.YtheickndnniomaaDoorPlan
namespace Go.Proofs.YtheickndnniomaaDoor
open Go.RowKit

def preE (x : Int × Int × Int) (e : Ent) : Ent := (UInt8.ofNat x.1.toNat :: e.1, x.2.1 + e.2)
def ndE (L : Nat → List Ent) (d : Nd) : List Ent := (if d.fin then [([], d.out)] else []) ++ d.ways.flatMap fun x => (L x.2.2.toNat).map (preE x)
def leftN (ds : List Nd) : Nat → Nat → List Ent
  | 0, _ => []
  | f + 1, i => match ds[i]? with
    | some d => ndE (leftN ds f) d
    | none => []
/-- The terms behind a node. -/
def left (ds : List Nd) (i : Nat) : List Ent := leftN ds (i + 1) i
theorem flatMap_congr' {α β : Type} {f g : α → List β} {l : List α} (h : ∀ x ∈ l, f x = g x) : l.flatMap f = l.flatMap g := by
  induction l with
  | nil => rfl
  | cons x r ih => rw [List.flatMap_cons, List.flatMap_cons, h x (List.mem_cons_self ..), ih fun y hy => h y (List.mem_cons_of_mem _ hy)]
theorem ndE_congr {L M : Nat → List Ent} {d : Nd} (h : ∀ x ∈ d.ways, L x.2.2.toNat = M x.2.2.toNat) : ndE L d = ndE M d := by
  unfold ndE
  congr 1
  exact flatMap_congr' fun x hx => by rw [h x hx]
theorem leftN_s {ds : List Nd} {i : Nat} {d : Nd} (h : ds[i]? = some d) (f : Nat) : leftN ds (f + 1) i = ndE (leftN ds f) d := by rw [leftN, h]
theorem leftN_fuel {ds : List Nd} (hf : Fine ds) : ∀ (f g i : Nat), i < f → i < g → leftN ds f i = leftN ds g i
  | 0, _, _, h, _ => absurd h (by omega)
  | _ + 1, 0, _, _, h => absurd h (by omega)
  | f + 1, g + 1, i, hi, hg => by
    cases hd : ds[i]? with
    | none => rw [leftN, leftN, hd]
    | some d =>
      rw [leftN_s hd, leftN_s hd]
      refine ndE_congr fun x hx => ?_
      have := ((hf i d hd).2 x hx).2.2
      exact leftN_fuel hf f g _ (by omega) (by omega)
theorem left_eq {ds : List Nd} (hf : Fine ds) {i : Nat} {d : Nd} (h : ds[i]? = some d) : left ds i = ndE (left ds) d := by
  unfold left
  rw [leftN_s h]
  refine ndE_congr fun x hx => ?_
  have := ((hf i d h).2 x hx).2.2
  exact leftN_fuel hf _ _ _ (by omega) (by omega)
theorem leftN_app {ds : List Nd} (hf : Fine ds) (es : List Nd) : ∀ (f i : Nat), i < ds.length → leftN (ds ++ es) f i = leftN ds f i
  | 0, _, _ => rfl
  | f + 1, i, hi => by
    have hd : ds[i]? = some (ds[i]'hi) := List.getElem?_eq_getElem _
    have hd2 : (ds ++ es)[i]? = some (ds[i]'hi) := by rw [List.getElem?_append_left hi, hd]
    rw [leftN_s hd, leftN_s hd2]
    refine ndE_congr fun x hx => ?_
    have := ((hf i _ hd).2 x hx).2.2
    exact leftN_app hf es f _ (by omega)
theorem left_app {ds : List Nd} (hf : Fine ds) (es : List Nd) {i : Nat} (hi : i < ds.length) : left (ds ++ es) i = left ds i := leftN_app hf es _ i hi
/-- A node in order. -/
structure Can (L : Nat → List Ent) (d : Nd) : Prop where
  asc : d.ways.Pairwise fun a b => a.1 < b.1
  fz : d.fin = false → d.out = 0
  mn : ∃ e ∈ ndE L d, e.2 = 0
  ge : ∀ e ∈ ndE L d, 0 ≤ e.2
  len : (ndE L d).length ≤ 65536
  deep : ∀ e ∈ ndE L d, e.1.length ≤ 64
/-- Nodes in order. -/
structure Inv (ds : List Nd) : Prop where
  fine : Fine ds
  nodup : ds.Nodup
  can : ∀ (i : Nat) d, ds[i]? = some d → Can (left ds) d
def WayI (n : Nat) (x : Int × Int × Int) : Prop := (0 ≤ x.1 ∧ x.1 ≤ 255) ∧ pos63 x.2.1 ∧ 0 ≤ x.2.2 ∧ x.2.2 < (n : Int)
theorem snoc_cases {α : Type} {l : List α} {a x : α} {i : Nat} (h : (l ++ [a])[i]? = some x) : (l[i]? = some x ∧ i < l.length) ∨ (i = l.length ∧ x = a) := by
  rcases Nat.lt_trichotomy i l.length with hi | hi | hi
  · rw [List.getElem?_append_left hi] at h
    exact .inl ⟨h, hi⟩
  · subst hi
    rw [List.getElem?_append_right (Nat.le_refl _)] at h
    simp at h
    exact .inr ⟨rfl, h.symm⟩
  · rw [List.getElem?_eq_none (by simp; omega)] at h
    cases h
theorem Inv.nil : Inv [] := ⟨fun i d h => by simp at h, List.nodup_nil, fun i d h => by simp at h⟩
theorem Inv.snoc {ds : List Nd} (h : Inv ds) {d : Nd} (hn : d ∉ ds) (hp : pos63 d.out) (hw : ∀ x ∈ d.ways, WayI ds.length x) (hc : Can (left ds) d) : Inv (ds ++ [d]) := by
  have hcong : ∀ e : Nd, (∀ x ∈ e.ways, 0 ≤ x.2.2 ∧ x.2.2 < (ds.length : Int)) → ndE (left (ds ++ [d])) e = ndE (left ds) e := fun e he => ndE_congr fun x hx => left_app h.fine _ (by have := he x hx; omega)
  refine ⟨?_, ?_, ?_⟩
  · intro i e he
    rcases snoc_cases he with ⟨he, _⟩ | ⟨rfl, rfl⟩
    · exact h.fine i e he
    · exact ⟨hp, hw⟩
  · rw [List.nodup_append]
    refine ⟨h.nodup, by simp, ?_⟩
    intro a ha b hb e
    rw [List.mem_singleton.1 hb] at e
    subst e
    exact hn ha
  · intro i e he
    rcases snoc_cases he with ⟨he, hi⟩ | ⟨rfl, rfl⟩
    · have hx := (h.fine i e he).2
      have e1 := hcong e fun x hxm => ⟨(hx x hxm).2.2.1, by have := (hx x hxm).2.2.2; omega⟩
      obtain ⟨c1, c2, c3, c4, c5, c6⟩ := h.can i e he
      exact ⟨c1, c2, by rw [e1]; exact c3, by rw [e1]; exact c4, by rw [e1]; exact c5, by rw [e1]; exact c6⟩
    · have e1 := hcong e fun x hxm => ⟨(hw x hxm).2.2.1, (hw x hxm).2.2.2⟩
      obtain ⟨c1, c2, c3, c4, c5, c6⟩ := hc
      exact ⟨c1, c2, by rw [e1]; exact c3, by rw [e1]; exact c4, by rw [e1]; exact c5, by rw [e1]; exact c6⟩
/-- Terms behind a place, numbers less one. -/
def subE (at_ : Nat) (told : Int) (l : List Ent) : List Ent := l.map fun e => (e.1.drop at_, e.2 - told)
theorem append_lt (p a b : List UInt8) : p ++ a < p ++ b ↔ a < b := by
  induction p with
  | nil => rfl
  | cons x p ih =>
    rw [List.cons_append, List.cons_append, List.cons_lt_cons_iff, ih]
    constructor
    · rintro (h | ⟨_, h⟩)
      · exact absurd h (UInt8.lt_irrefl _)
      · exact h
    · exact fun h => .inr ⟨rfl, h⟩
theorem Okr.bytes {at_ : Nat} {told : Int} {e : Ent} {r : List Ent} (h : Okr at_ told (e :: r)) : ∀ x ∈ r, byteAt e.1 at_ ≤ byteAt x.1 at_ := by
  obtain ⟨p, hp, hq⟩ := h.pre
  intro x hx
  obtain ⟨c, q, e1⟩ := hq e (List.mem_cons_self ..)
  obtain ⟨c', q', e2⟩ := hq x (List.mem_cons_of_mem _ hx)
  have hlt := (List.pairwise_cons.1 h.srt).1 x hx
  rw [e1, e2, append_lt, List.cons_lt_cons_iff] at hlt
  rw [e1, e2, ← hp, byteAt_pre, byteAt_pre]
  rcases hlt with hlt | ⟨rfl, _⟩
  · have := UInt8.lt_iff_toNat_lt.1 hlt
    omega
  · omega
theorem Okr.later {at_ : Nat} {told : Int} {e : Ent} {r : List Ent} (h : Okr at_ told (e :: r)) : ∀ x ∈ (e :: r).drop (grpN at_ (e :: r)), byteAt e.1 at_ < byteAt x.1 at_ := by
  intro x hx
  have hlt : grpN at_ (e :: r) < (e :: r).length := by
    rcases Nat.lt_or_ge (grpN at_ (e :: r)) (e :: r).length with h1 | h1
    · exact h1
    · rw [List.drop_eq_nil_of_le h1] at hx
      cases hx
  obtain ⟨y, hy, hne⟩ := grp_out hlt
  obtain ⟨hl, hy2⟩ := List.getElem?_eq_some_iff.1 hy
  have hd := List.drop_eq_getElem_cons hl
  have h2 := h.drop (grpN at_ (e :: r))
  rw [hd, hy2] at h2 hx
  have hy3 : y ∈ r := by
    have hp := (grpN_pos at_ e r).1
    obtain ⟨k, hk⟩ : ∃ k, grpN at_ (e :: r) = k + 1 := ⟨grpN at_ (e :: r) - 1, by omega⟩
    rw [hk, List.getElem?_cons_succ] at hy
    exact List.mem_of_getElem? hy
  have h3 := h.bytes y hy3
  rcases List.mem_cons.1 hx with rfl | hx
  · omega
  · have := h2.bytes x hx
    omega
theorem grp_same {at_ : Nat} {e : Ent} {r : List Ent} : ∀ x ∈ (e :: r).take (grpN at_ (e :: r)), byteAt x.1 at_ = byteAt e.1 at_ := by
  intro x hx
  rw [grp_take] at hx
  rcases List.mem_cons.1 hx with rfl | hx
  · rfl
  · have hb := List.all_takeWhile (p := fun x : Ent => decide (byteAt x.1 at_ = byteAt e.1 at_)) (l := r)
    simpa using List.all_eq_true.1 hb x hx
theorem byteAt_255 (t : List UInt8) (i : Nat) : 0 ≤ byteAt t i ∧ byteAt t i ≤ 255 := by
  unfold byteAt
  have := (t.getD i 0).toNat_lt
  omega
theorem pre_sub {at_ : Nat} {told m c : Int} {q : Int} {g : List Ent} (hc : ∀ x ∈ g, byteAt x.1 at_ = c) (hl : ∀ x ∈ g, at_ < x.1.length) : (subE (at_ + 1) m g).map (preE (c, m - told, q)) = subE at_ told g := by
  unfold subE
  rw [List.map_map]
  apply List.map_congr_left
  intro x hx
  have h1 := hc x hx
  have h2 := hl x hx
  show (UInt8.ofNat c.toNat :: x.1.drop (at_ + 1), m - told + (x.2 - m)) = (x.1.drop at_, x.2 - told)
  rw [List.drop_eq_getElem_cons h2]
  congr 1
  · congr 1
    rw [← h1]
    unfold byteAt
    rw [List.getD_eq_getElem?_getD, List.getElem?_eq_getElem h2]
    simp
  · omega
theorem least_mem {l : List Ent} (hl : l ≠ []) : ∃ e ∈ l, e.2 = leastO l := by
  have key : ∀ (r : List Ent) (m : Int), r.foldl (fun m e => min m e.2) m = m ∨ ∃ e ∈ r, e.2 = r.foldl (fun m e => min m e.2) m := by
    intro r
    induction r with
    | nil => exact fun m => .inl rfl
    | cons x r ih =>
      intro m
      rw [List.foldl_cons]
      rcases ih (min m x.2) with h | ⟨e, he, h⟩
      · rw [h]
        by_cases hm : m ≤ x.2
        · exact .inl (by omega)
        · exact .inr ⟨x, List.mem_cons_self .., by omega⟩
      · exact .inr ⟨e, List.mem_cons_of_mem _ he, h⟩
  cases l with
  | nil => exact absurd rfl hl
  | cons x r =>
    rcases key (x :: r) (headO (x :: r)) with h | h
    · exact ⟨x, List.mem_cons_self .., h.symm⟩
    · exact h
/-- No terms longer than so. -/
def Upto (ds : List Nd) (K : Nat) : Prop := ∀ i, i < ds.length → ∀ e ∈ left ds i, e.1.length ≤ K
/-- What a builder of nodes answers. -/
def Good (at_ : Nat) (m : Int) (g : List Ent) (ds : List Nd) (q : Nat × List Nd) : Prop := Inv q.2 ∧ (∃ es, q.2 = ds ++ es) ∧ q.1 < q.2.length ∧ left q.2 q.1 = subE at_ m g ∧ ∀ K, Upto ds K → (∀ e ∈ g, e.1.length ≤ K + at_) → Upto q.2 K
theorem waysL_left {rec_ : List Nd → List Ent → Int → Nat × List Nd} {at_ : Nat} {told : Int} (hr : ∀ ds g m, Inv ds → Okl (at_ + 1) m g → g.length ≤ 65536 → leastO g = m → Good (at_ + 1) m g ds (rec_ ds g m)) :
    ∀ (n : Nat) (ds : List Nd) (ws : List (Int × Int × Int)) (l : List Ent), l.length ≤ n → Inv ds → Okr at_ told l → l.length ≤ 65536 →
      ∃ es more, waysL rec_ at_ told n ds ws l = (ds ++ es, ws ++ more) ∧ Inv (ds ++ es) ∧ (more.flatMap fun x => (left (ds ++ es) x.2.2.toNat).map (preE x)) = subE at_ told l ∧ more.Pairwise (fun a b => a.1 < b.1) ∧ (∀ x ∈ more, WayI (ds ++ es).length x ∧ ∃ e ∈ l, byteAt e.1 at_ = x.1) ∧ ∀ K, Upto ds K → (∀ e ∈ l, e.1.length ≤ K + (at_ + 1)) → Upto (ds ++ es) K
  | n, ds, ws, [], _, hi, _, _ => by
    have e : waysL rec_ at_ told n ds ws [] = (ds, ws) := by cases n <;> rfl
    exact ⟨[], [], by rw [e]; simp, by simpa using hi, rfl, List.Pairwise.nil, by simp, fun K h _ => by simpa using h⟩
  | 0, ds, ws, e :: r, h, _, _, _ => absurd h (by simp)
  | n + 1, ds, ws, e :: r, hn, hi, ho, hl => by
    rw [waysL_next]
    have hgp := grpN_pos at_ e r
    have hgl : ((e :: r).take (grpN at_ (e :: r))).length ≤ 65536 := by rw [List.length_take]; omega
    obtain ⟨g1, ⟨es1, g2⟩, g3, g4, g5⟩ := hr ds _ _ hi ho.group hgl rfl
    have hsame := grp_same (at_ := at_) (e := e) (r := r)
    have hlong : ∀ x ∈ (e :: r).take (grpN at_ (e :: r)), at_ < x.1.length := fun x hx => ho.long x (List.mem_of_mem_take hx)
    have hlater := ho.later
    have hgr := ho.group
    have ho2 := ho.drop (grpN at_ (e :: r))
    have hout := ho.out
    have ht0 := ho.t0
    have hsplit : (e :: r).take (grpN at_ (e :: r)) ++ (e :: r).drop (grpN at_ (e :: r)) = e :: r := List.take_append_drop ..
    have hmem : e ∈ (e :: r).take (grpN at_ (e :: r)) := by rw [grp_take]; exact List.mem_cons_self ..
    have hlen2 : ((e :: r).drop (grpN at_ (e :: r))).length ≤ n := by rw [List.length_drop]; simp only [List.length_cons] at hn hgp ⊢; omega
    have hsub : ∀ x ∈ (e :: r).take (grpN at_ (e :: r)), x ∈ e :: r := fun x hx => List.mem_of_mem_take hx
    have hsub2 : ∀ x ∈ (e :: r).drop (grpN at_ (e :: r)), x ∈ e :: r := fun x hx => List.mem_of_mem_drop hx
    have hl2 : ((e :: r).drop (grpN at_ (e :: r))).length ≤ 65536 := by rw [List.length_drop]; omega
    generalize (e :: r).take (grpN at_ (e :: r)) = g at *
    generalize (e :: r).drop (grpN at_ (e :: r)) = r2 at *
    obtain ⟨m, hm⟩ : ∃ m, leastO g = m := ⟨_, rfl⟩
    rw [hm] at g1 g2 g3 g4 g5 hgr ⊢
    obtain ⟨⟨i, ds1⟩, hq⟩ : ∃ q, rec_ ds g m = q := ⟨_, rfl⟩
    rw [hq] at g1 g2 g3 g4 g5 ⊢
    simp only at g1 g2 g3 g4 g5 ⊢
    subst g2
    obtain ⟨es, more, k1, k2, k3, k4, k5, k6⟩ := waysL_left hr n (ds ++ es1) (ws ++ [(byteAt e.1 at_, m - told, (i : Int))]) r2 hlen2 g1 ho2 hl2
    refine ⟨es1 ++ es, (byteAt e.1 at_, m - told, (i : Int)) :: more, ?_, ?_, ?_, ?_, ?_, ?_⟩
    · rw [k1, List.append_assoc, List.append_assoc]
      rfl
    · rw [← List.append_assoc]
      exact k2
    · rw [← List.append_assoc, List.flatMap_cons, k3]
      have e1 : left (ds ++ es1 ++ es) ((i : Int)).toNat = subE (at_ + 1) m g := by
        rw [Int.toNat_natCast, left_app g1.fine es g3, g4]
      show (left (ds ++ es1 ++ es) ((i : Int)).toNat).map (preE (byteAt e.1 at_, m - told, (i : Int))) ++ _ = _
      rw [e1, pre_sub hsame hlong, ← hsplit]
      unfold subE
      rw [List.map_append]
    · refine List.pairwise_cons.2 ⟨fun x hx => ?_, k4⟩
      obtain ⟨_, y, hy, hyx⟩ := k5 x hx
      have := hlater y hy
      show byteAt e.1 at_ < x.1
      omega
    · intro x hx
      rw [← List.append_assoc]
      rcases List.mem_cons.1 hx with rfl | hx
      · refine ⟨⟨byteAt_255 _ _, ?_, ?_, ?_⟩, e, hsub e hmem, rfl⟩
        · obtain ⟨y, hy, hym⟩ := least_mem hgr.ne
          have := hout y (hsub y hy)
          show 0 ≤ m - told ∧ m - told ≤ 9223372036854775807
          omega
        · show (0 : Int) ≤ (i : Int)
          omega
        · show (i : Int) < _
          rw [List.length_append]
          omega
      · obtain ⟨h1, y, hy, hyx⟩ := k5 x hx
        exact ⟨h1, y, hsub2 y hy, hyx⟩
    · intro K hK hl
      rw [← List.append_assoc]
      exact k6 K (g5 K hK fun x hx => hl x (hsub x hx)) fun x hx => hl x (hsub2 x hx)
theorem upto_snoc {ds : List Nd} (hf : Fine ds) {d : Nd} {K : Nat} (h : Upto ds K) (hd : ∀ e ∈ left (ds ++ [d]) ds.length, e.1.length ≤ K) : Upto (ds ++ [d]) K := by
  intro i hi e he
  rw [List.length_append, List.length_singleton] at hi
  by_cases h1 : i < ds.length
  · rw [left_app hf [d] h1] at he
    exact h i h1 e he
  · obtain rfl : i = ds.length := by omega
    exact hd e he
theorem idx_none {ss : List (List UInt8)} {s : List UInt8} (h : idx ss s = none) : s ∉ ss := by
  induction ss with
  | nil => simp
  | cons y r ih =>
    rw [idx] at h
    split at h
    · cases h
    · rename_i hne
      intro hm
      rcases List.mem_cons.1 hm with e | hm
      · exact hne e.symm
      · exact ih (by simpa using h) hm
theorem Okl.at64 {at_ : Nat} {told : Int} {l : List Ent} (h : Okl at_ told l) : at_ ≤ 64 := by
  obtain ⟨p, hp, hq⟩ := h.pre
  cases hl : l with
  | nil => exact absurd hl h.ne
  | cons e r =>
    have he : e ∈ l := by rw [hl]; exact List.mem_cons_self ..
    obtain ⟨q, e1⟩ := hq e he
    have h64 := h.len e he
    rw [e1, List.length_append] at h64
    omega
theorem nodeF_left : ∀ (f : Nat) (ds : List Nd) (l : List Ent) (at_ : Nat) (told : Int), 65 ≤ at_ + f → Inv ds → Okl at_ told l → l.length ≤ 65536 → leastO l = told → Good at_ told l ds (nodeF f ds l at_ told)
  | 0, ds, l, at_, told, hf, _, ho, _, _ => absurd ho.at64 (by omega)
  | f + 1, ds, l, at_, told, hf, hi, ho, hl, hm => by
    have hrl : (restL at_ l).length ≤ l.length := by
      unfold restL
      split
      · rw [List.length_tail]; omega
      · exact Nat.le_refl _
    have hrs : ∀ e ∈ restL at_ l, e ∈ l := by
      intro e he
      unfold restL at he
      split at he
      · exact List.mem_of_mem_tail he
      · exact he
    obtain ⟨es, more, k1, k2, k3, k4, k5, k6⟩ := waysL_left (told := told) (fun ds g m h1 h2 h3 h4 => nodeF_left f ds g (at_ + 1) m (by omega) h1 h2 h3 h4) (restL at_ l).length ds [] (restL at_ l) (Nat.le_refl _) hi ho.rest (by omega)
    rw [nodeF]
    simp only [k1, List.nil_append]
    have hne := ho.ne
    have hE : ∀ L : Nat → List Ent, L = left (ds ++ es) → ndE L ⟨isFin at_ l, if headL l = at_ then headO l - told else 0, more⟩ = subE at_ told l := by
      rintro L rfl
      unfold ndE
      simp only
      rw [k3]
      unfold isFin restL
      by_cases hh : headL l = at_
      · rw [if_pos hh, if_pos hh, if_pos (by simpa using hh)]
        cases l with
        | nil => exact absurd rfl hne
        | cons e r =>
          have hd : e.1.drop at_ = [] := List.drop_eq_nil_of_le (by have : e.1.length = at_ := hh; omega)
          show [([], e.2 - told)] ++ subE at_ told r = (e.1.drop at_, e.2 - told) :: subE at_ told r
          rw [hd]
          rfl
      · rw [if_neg (by simpa using hh), if_neg hh]
        rfl
    have hpos : pos63 (if headL l = at_ then headO l - told else 0) := by
      split
      · cases l with
        | nil => exact absurd rfl hne
        | cons e r =>
          have := ho.out e (List.mem_cons_self ..)
          have := ho.t0
          show 0 ≤ e.2 - told ∧ e.2 - told ≤ 9223372036854775807
          omega
      · exact ⟨by omega, by omega⟩
    have hfz : isFin at_ l = false → (if headL l = at_ then headO l - told else 0) = 0 := by
      intro h
      rw [if_neg (by simpa [isFin] using h)]
    obtain ⟨d, hd⟩ : ∃ d : Nd, (⟨isFin at_ l, if headL l = at_ then headO l - told else 0, more⟩ : Nd) = d := ⟨_, rfl⟩
    have hdo : d.out = if headL l = at_ then headO l - told else 0 := by rw [← hd]
    have hdf : d.fin = isFin at_ l := by rw [← hd]
    have hdw : d.ways = more := by rw [← hd]
    rw [hd] at hE ⊢
    unfold addN
    cases hx : idx ((ds ++ es).map sgn) (sgn d) with
    | some i =>
      obtain ⟨h1, h2⟩ := idx_lt hx
      rw [List.length_map] at h1
      rw [List.getElem?_map] at h2
      obtain ⟨d', hd', he⟩ := Option.map_eq_some_iff.1 h2
      have := sgn_inj he
      subst this
      exact ⟨k2, ⟨es, rfl⟩, h1, by rw [left_eq k2.fine hd']; exact hE _ rfl, fun K hK hl => k6 K hK fun e he => by have := hl e (hrs e he); omega⟩
    | none =>
      have hnd : d ∉ ds ++ es := fun hm => idx_none hx (List.mem_map_of_mem hm)
      have hcan : Can (left (ds ++ es)) d := by
        have hE' := hE _ rfl
        refine ⟨by rw [hdw]; exact k4, by rw [hdf, hdo]; exact hfz, ?_, ?_, ?_, ?_⟩
        · obtain ⟨e, he, hem⟩ := least_mem hne
          rw [hE']
          exact ⟨(e.1.drop at_, e.2 - told), List.mem_map_of_mem he, by show e.2 - told = 0; omega⟩
        · rw [hE']
          intro x hx
          obtain ⟨e, he, rfl⟩ := List.mem_map.1 hx
          have := ho.out e he
          show 0 ≤ e.2 - told
          omega
        · rw [hE']
          unfold subE
          rw [List.length_map]
          exact hl
        · rw [hE']
          intro x hx
          obtain ⟨e, he, rfl⟩ := List.mem_map.1 hx
          have := ho.len e he
          show (e.1.drop at_).length ≤ 64
          rw [List.length_drop]
          omega
      have hinv := k2.snoc hnd (by rw [hdo]; exact hpos) (fun x hx => by rw [hdw] at hx; exact (k5 x hx).1) hcan
      have hlast : left (ds ++ es ++ [d]) (ds ++ es).length = subE at_ told l := by
        rw [left_eq hinv.fine (d := d) (by rw [List.getElem?_append_right (Nat.le_refl _), Nat.sub_self]; rfl), ← hE _ rfl]
        refine ndE_congr fun x hx => left_app k2.fine _ ?_
        rw [hdw] at hx
        have := (k5 x hx).1.2.2
        omega
      refine ⟨hinv, ⟨es ++ [d], by rw [List.append_assoc]⟩, by rw [List.length_append]; simp, hlast, fun K hK hl => upto_snoc k2.fine (k6 K hK fun e he => by have := hl e (hrs e he); omega) ?_⟩
      rw [hlast]
      intro x hx
      obtain ⟨e, he, rfl⟩ := List.mem_map.1 hx
      have := hl e he
      show (e.1.drop at_).length ≤ K
      rw [List.length_drop]
      omega
/-- The node of all terms is the last. -/
theorem root_last {l : List Ent} {told : Int} (ho : Okl 0 told l) (hl : l.length ≤ 65536) (hm : leastO l = told) (hne : ∀ e ∈ l, e.1 ≠ []) : (nodeF 65 [] l 0 told).1 + 1 = (nodeF 65 [] l 0 told).2.length := by
  have hG := nodeF_left 65 [] l 0 told (by omega) Inv.nil ho hl hm
  obtain ⟨M, hM, hMx⟩ : ∃ M, (∀ e ∈ l, e.1.length ≤ M + 1) ∧ ∃ e ∈ l, e.1.length = M + 1 := by
    have key : ∀ r : List Ent, r ≠ [] → ∃ e ∈ r, ∀ x ∈ r, x.1.length ≤ e.1.length := by
      intro r
      induction r with
      | nil => exact fun h => absurd rfl h
      | cons y r ih =>
        intro _
        by_cases h : r = []
        · subst h
          exact ⟨y, by simp, fun x hx => by rw [List.mem_singleton.1 hx]; exact Nat.le_refl _⟩
        · obtain ⟨e, he, hx⟩ := ih h
          by_cases hc : y.1.length ≤ e.1.length
          · exact ⟨e, List.mem_cons_of_mem _ he, fun x hx' => by
              rcases List.mem_cons.1 hx' with rfl | hx'
              · exact hc
              · exact hx x hx'⟩
          · exact ⟨y, List.mem_cons_self .., fun x hx' => by
              rcases List.mem_cons.1 hx' with rfl | hx'
              · exact Nat.le_refl _
              · have := hx x hx'; omega⟩
    obtain ⟨e, he, hx⟩ := key l ho.ne
    have h1 := List.length_pos_iff.2 (hne e he)
    exact ⟨e.1.length - 1, fun x hxm => by have := hx x hxm; omega, e, he, by omega⟩
  have hrs : ∀ e ∈ restL 0 l, e ∈ l := by
    intro e he
    unfold restL at he
    split at he
    · exact List.mem_of_mem_tail he
    · exact he
  have hrl : (restL 0 l).length ≤ l.length := by
    unfold restL
    split
    · rw [List.length_tail]; omega
    · exact Nat.le_refl _
  obtain ⟨es, more, k1, k2, k3, k4, k5, k6⟩ := waysL_left (told := told) (fun ds g m h1 h2 h3 h4 => nodeF_left 64 ds g (0 + 1) m (by omega) h1 h2 h3 h4) (restL 0 l).length [] [] (restL 0 l) (Nat.le_refl _) Inv.nil ho.rest (by omega)
  have hup := k6 M (fun i hi => absurd hi (by simp)) fun e he => by have := hM e (hrs e he); omega
  rw [nodeF] at hG ⊢
  simp only [k1, List.nil_append] at hG hup k2 ⊢
  generalize (⟨isFin 0 l, if headL l = 0 then headO l - told else 0, more⟩ : Nd) = d at *
  unfold addN at hG ⊢
  cases hx : idx (es.map sgn) (sgn d) with
  | none => simp
  | some i =>
    rw [hx] at hG
    obtain ⟨e, he, hel⟩ := hMx
    have h1 := hG.2.2.2.1
    have h2 := hup i hG.2.2.1 (e.1.drop 0, e.2 - told) (by
      show _ ∈ left es i
      have h1' : left es i = subE 0 told l := h1
      rw [h1']
      exact List.mem_map_of_mem he)
    simp only [List.drop_zero] at h2
    omega
end Go.Proofs.YtheickndnniomaaDoor
