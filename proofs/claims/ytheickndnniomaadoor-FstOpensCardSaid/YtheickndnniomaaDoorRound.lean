/- What is built is opened (plain Lean). -/
import Derived.Test.YtheickndnniomaaDoorParse
import Derived.Test.YtheickndnniomaaDoorLeft
namespace Go.Proofs.YtheickndnniomaaDoor
open Go.RowKit Go.Maps

theorem wrap_wrap (a b : Int) : IntKind.i64.wrap (IntKind.i64.wrap a + b) = IntKind.i64.wrap (a + b) := by
  rw [IntKind.wrap_i64, IntKind.wrap_i64, IntKind.wrap_i64]
  omega
theorem gath_left {ds : List Nd} (hf : Fine ds) : ∀ (f i : Nat) (t : List UInt8) (z : Int), i < f → gath ds f i t z = (left ds i).map fun e => (t ++ e.1, IntKind.i64.wrap (z + e.2))
  | 0, _, _, _, h => absurd h (by omega)
  | f + 1, i, t, z, h => by
    cases hd : ds[i]? with
    | none =>
      have : left ds i = [] := by unfold left; rw [leftN, hd]
      rw [this, gath, hd]
      rfl
    | some d =>
      rw [gath_s hd, left_eq hf hd]
      unfold ndE
      rw [List.map_append, List.map_flatMap]
      congr 1
      · split
        · simp
        · rfl
      · refine flatMap_congr' fun x hx => ?_
        have := ((hf i d hd).2 x hx).2.2
        rw [gath_left hf f _ _ _ (by omega), List.map_map]
        apply List.map_congr_left
        intro e _
        show (t ++ [UInt8.ofNat x.1.toNat] ++ e.1, IntKind.i64.wrap (IntKind.i64.wrap (z + x.2.1) + e.2)) = (t ++ (UInt8.ofNat x.1.toNat :: e.1), IntKind.i64.wrap (z + (x.2.1 + e.2)))
        rw [wrap_wrap, List.append_assoc, Int.add_assoc]
        rfl
def szL (ds : List Nd) : List Int := (List.range ds.length).map fun i => ((left ds i).length : Int)
def tlen (m : Int) (l : List Ent) : Int := l.foldl (fun m e => max m (e.1.length : Int)) m
def dpL (ds : List Nd) : List Int := (List.range ds.length).map fun i => tlen 0 (left ds i)
theorem rangeMap_snoc {α : Type} (f g : Nat → α) (n : Nat) (h : ∀ i, i < n → f i = g i) : (List.range (n + 1)).map f = (List.range n).map g ++ [f n] := by
  rw [List.range_succ, List.map_append]
  congr 1
  exact List.map_congr_left fun i hi => h i (List.mem_range.1 hi)
theorem szL_snoc {ds : List Nd} (hf : Fine ds) (d : Nd) : szL (ds ++ [d]) = szL ds ++ [((left (ds ++ [d]) ds.length).length : Int)] := by
  unfold szL
  rw [List.length_append, List.length_singleton]
  exact rangeMap_snoc _ _ _ fun i hi => by rw [left_app hf [d] hi]
theorem dpL_snoc {ds : List Nd} (hf : Fine ds) (d : Nd) : dpL (ds ++ [d]) = dpL ds ++ [tlen 0 (left (ds ++ [d]) ds.length)] := by
  unfold dpL
  rw [List.length_append, List.length_singleton]
  exact rangeMap_snoc _ _ _ fun i hi => by rw [left_app hf [d] hi]
theorem range_getD (f : Nat → Int) {n i : Nat} (hi : i < n) : ((List.range n).map f).getD i 0 = f i := by
  rw [List.getD_eq_getElem?_getD, List.getElem?_map, List.getElem?_range hi]
  rfl
theorem szL_get {ds : List Nd} {i : Nat} (hi : i < ds.length) : (szL ds).getD i 0 = ((left ds i).length : Int) := range_getD _ hi
theorem dpL_get {ds : List Nd} {i : Nat} (hi : i < ds.length) : (dpL ds).getD i 0 = tlen 0 (left ds i) := range_getD _ hi
theorem ndE_len (L : Nat → List Ent) (d : Nd) : ((ndE L d).length : Int) = finN d.fin + (d.ways.map fun x => ((L x.2.2.toNat).length : Int)).sum := by
  unfold ndE
  rw [List.length_append, Int.natCast_add]
  congr 1
  · unfold finN
    split <;> rfl
  · induction d.ways with
    | nil => rfl
    | cons x r ih => rw [List.flatMap_cons, List.length_append, List.length_map, Int.natCast_add, List.map_cons, List.sum_cons, ih]
theorem tlen_append (m : Int) (a b : List Ent) : tlen m (a ++ b) = tlen (tlen m a) b := List.foldl_append ..
theorem tlen_max (l : List Ent) : ∀ m : Int, 0 ≤ m → tlen m l = max m (tlen 0 l) := by
  induction l with
  | nil => intro m h; show m = max m 0; omega
  | cons e r ih =>
    intro m h
    show tlen (max m (e.1.length : Int)) r = max m (tlen (max 0 (e.1.length : Int)) r)
    rw [ih _ (by omega), ih (max 0 (e.1.length : Int)) (by omega)]
    omega
theorem tlen_pre (x : Int × Int × Int) (l : List Ent) : ∀ m : Int, 0 ≤ m → tlen m (l.map (preE x)) = if l = [] then m else max m (tlen 0 l + 1) := by
  induction l with
  | nil => intro m _; rfl
  | cons e r ih =>
    intro m h
    rw [if_neg (by simp)]
    show tlen (max m ((UInt8.ofNat x.1.toNat :: e.1).length : Int)) (r.map (preE x)) = max m (tlen (max 0 (e.1.length : Int)) r + 1)
    rw [ih _ (by omega), tlen_max r (max 0 (e.1.length : Int)) (by omega), List.length_cons]
    by_cases hr : r = []
    · subst hr
      rw [if_pos rfl]
      show max m _ = max m (max (max 0 _) 0 + 1)
      omega
    · rw [if_neg hr]
      omega
theorem tlen_nonneg (l : List Ent) (m : Int) (h : 0 ≤ m) : 0 ≤ tlen m l := by
  rw [tlen_max l m h]; omega
theorem tlen_le {l : List Ent} {K : Nat} (h : ∀ e ∈ l, e.1.length ≤ K) : tlen 0 l ≤ (K : Int) := by
  have key : ∀ (r : List Ent) (m : Int), m ≤ (K : Int) → (∀ e ∈ r, e.1.length ≤ K) → tlen m r ≤ (K : Int) := by
    intro r
    induction r with
    | nil => exact fun m h _ => h
    | cons e r ih =>
      intro m hm hr
      have := hr e (List.mem_cons_self ..)
      show tlen (max m (e.1.length : Int)) r ≤ (K : Int)
      exact ih _ (by omega) fun x hx => hr x (List.mem_cons_of_mem _ hx)
  exact key l 0 (by omega) h
theorem ndE_tlen {L : Nat → List Ent} {sz dp : List Int} {d : Nd} (h : ∀ x ∈ d.ways, sz.getD x.2.2.toNat 0 = ((L x.2.2.toNat).length : Int) ∧ dp.getD x.2.2.toNat 0 = tlen 0 (L x.2.2.toNat)) : tlen 0 (ndE L d) = d.ways.foldl (deepOf sz dp) 0 := by
  unfold ndE
  rw [tlen_append]
  have h0 : tlen 0 (if d.fin then [([], d.out)] else []) = 0 := by
    split <;> rfl
  rw [h0]
  have key : ∀ (ws : List (Int × Int × Int)) (m : Int), 0 ≤ m → (∀ x ∈ ws, sz.getD x.2.2.toNat 0 = ((L x.2.2.toNat).length : Int) ∧ dp.getD x.2.2.toNat 0 = tlen 0 (L x.2.2.toNat)) →
      tlen m (ws.flatMap fun x => (L x.2.2.toNat).map (preE x)) = ws.foldl (deepOf sz dp) m := by
    intro ws
    induction ws with
    | nil => intro m _ _; rfl
    | cons x r ih =>
      intro m hm hh
      obtain ⟨e1, e2⟩ := hh x (List.mem_cons_self ..)
      have e3 : tlen m ((L x.2.2.toNat).map (preE x)) = deepOf sz dp m x := by
        rw [tlen_pre x _ m hm]
        unfold deepOf
        rw [e1, e2]
        by_cases hL : L x.2.2.toNat = []
        · rw [if_pos hL, if_neg (by rw [hL]; simp)]
        · have := List.length_pos_iff.2 hL
          rw [if_neg hL, if_pos (by omega)]
      rw [List.flatMap_cons, tlen_append, e3, List.foldl_cons]
      refine ih _ ?_ fun y hy => hh y (List.mem_cons_of_mem _ hy)
      rw [← e3]
      exact tlen_nonneg _ _ hm
  exact key d.ways 0 (Int.le_refl 0) h
theorem asc_few : ∀ (l : List (Int × Int × Int)) (lo : Int), l.Pairwise (fun a b => a.1 < b.1) → (∀ x ∈ l, lo ≤ x.1 ∧ x.1 ≤ 255) → lo ≤ 256 → (l.length : Int) ≤ 256 - lo
  | [], lo, _, _, h => by show (0 : Int) ≤ _; omega
  | x :: r, lo, hp, hb, h => by
    obtain ⟨h1, h2⟩ := List.pairwise_cons.1 hp
    have hx := hb x (List.mem_cons_self ..)
    have := asc_few r (x.1 + 1) h2 (fun y hy => ⟨by have := h1 y hy; omega, (hb y (List.mem_cons_of_mem _ hy)).2⟩) (by omega)
    rw [List.length_cons]
    omega
theorem Inv.pre {ds es : List Nd} (h : Inv (ds ++ es)) : Inv ds := by
  have hf : Fine ds := fun i d hd => h.fine i d (by rw [List.getElem?_append_left (List.getElem?_eq_some_iff.1 hd).1]; exact hd)
  refine ⟨hf, (List.nodup_append.1 h.nodup).1, fun i d hd => ?_⟩
  have hi := (List.getElem?_eq_some_iff.1 hd).1
  have e1 : ndE (left (ds ++ es)) d = ndE (left ds) d := ndE_congr fun x hx => left_app hf es (by have := ((hf i d hd).2 x hx).2.2; omega)
  obtain ⟨c1, c2, c3, c4, c5, c6⟩ := h.can i d (by rw [List.getElem?_append_left hi]; exact hd)
  rw [e1] at c3 c4 c5 c6
  exact ⟨c1, c2, c3, c4, c5, c6⟩
theorem rdAll_enc : ∀ (es ds : List Nd) (r : List UInt8), Inv (ds ++ es) → (ds ++ es).length ≤ 1125899906842624 → rdAll es.length ds (szL ds) (dpL ds) (by8 (es.flatMap writeZ) ++ r) = (0, ds ++ es, szL (ds ++ es), r)
  | [], ds, r, _, _ => by simp [rdAll, by8]
  | d :: es, ds, r, h, hl => by
    have e0 : ds ++ d :: es = (ds ++ [d]) ++ es := by simp
    have hi := h.pre
    have h1 : Inv (ds ++ [d]) := by rw [e0] at h; exact h.pre
    have hd : (ds ++ [d])[ds.length]? = some d := by rw [List.getElem?_append_right (Nat.le_refl _), Nat.sub_self]; rfl
    obtain ⟨p1, p2⟩ := h1.fine _ _ hd
    obtain ⟨c1, c2, c3, c4, c5, c6⟩ := h1.can _ _ hd
    have hL := left_eq h1.fine hd
    have hLn : ndE (left (ds ++ [d])) d = ndE (left ds) d := ndE_congr fun x hx => left_app hi.fine [d] (by have := (p2 x hx).2.2; omega)
    rw [hLn] at c5 c6 hL
    have hsz : finN d.fin + (d.ways.map (sizeOf (szL ds))).sum = ((ndE (left ds) d).length : Int) := by
      rw [ndE_len]
      congr 2
      apply List.map_congr_left
      intro x hx
      exact szL_get (by have := (p2 x hx).2.2; omega)
    have hdp : d.ways.foldl (deepOf (szL ds) (dpL ds)) 0 = tlen 0 (ndE (left ds) d) := (ndE_tlen fun x hx => ⟨szL_get (by have := (p2 x hx).2.2; omega), dpL_get (by have := (p2 x hx).2.2; omega)⟩).symm
    have hfew := asc_few d.ways 0 c1 (fun x hx => (p2 x hx).1) (by omega)
    have hle : ds.length ≤ 1125899906842624 := by rw [List.length_append] at hl; omega
    have e1 : by8 ((d :: es).flatMap writeZ) ++ r = by8 (writeZ d) ++ (by8 (es.flatMap writeZ) ++ r) := by
      rw [List.flatMap_cons, by8_append, List.append_assoc]
    have hrd := rdNode_enc (n := ds.length) (sz := szL ds) (dp := dpL ds) (d := d) hle p1 c2 p2 (by omega) (by rw [hsz]; omega) (by rw [hdp]; exact tlen_le c6) (by8 (es.flatMap writeZ) ++ r)
    rw [e1, List.length_cons, rdAll_go hrd, hsz, hdp, ← hL, ← szL_snoc hi.fine, ← dpL_snoc hi.fine, rdAll_enc es (ds ++ [d]) r (by rw [← e0]; exact h) (by rw [← e0]; exact hl), ← e0]
/-- All about what Build makes. -/
structure Built (l : List Ent) (ds : List Nd) (base : Int) : Prop where
  inv : Inv ds
  len : ds.length ≤ 4194305
  pos : ds ≠ [] ↔ l ≠ []
  root : l ≠ [] → left ds (ds.length - 1) = subE 0 base l
  bas : pos63 base
  ok : l = [] → ds = [] ∧ base = 0
theorem built_of {l : List Ent} (hr : rightE l = 0) (hfit : ∀ e ∈ l, fits64 e.2) : Built l (buildDs l) (baseOf l) := by
  by_cases hne : l = []
  · subst hne
    exact ⟨Inv.nil, by simp [buildDs], by simp [buildDs], fun h => absurd rfl h, ⟨by simp [baseOf], by simp [baseOf]⟩, fun _ => ⟨rfl, rfl⟩⟩
  · obtain ⟨ho, hl⟩ := okl_of hr hne hfit
    have hds : buildDs l = (nodeF 65 [] l 0 (leastO l)).2 := if_neg hne
    have hb : baseOf l = leastO l := if_neg hne
    have hG := nodeF_left 65 [] l 0 (leastO l) (by omega) Inv.nil ho hl rfl
    have hnn : ∀ e ∈ l, e.1 ≠ [] := by
      intro e he
      unfold rightE at hr
      split at hr
      · omega
      · exact ((rightL_ok l [] hr).1 e he).1
    have hrl := root_last ho hl rfl hnn
    have hc := nodeF_len 65 [] l 0 (leastO l) ho
    have hc2 := cost_le l ho.len
    rw [hds, hb]
    obtain ⟨g1, _, g3, g4, _⟩ := hG
    generalize (nodeF 65 [] l 0 (leastO l)) = q at *
    refine ⟨g1, by simp at hc; omega, ⟨fun _ => hne, fun _ e => by rw [e] at g3; simp at g3⟩, fun _ => ?_, ?_, fun h => absurd h hne⟩
    · rw [show q.2.length - 1 = q.1 by omega]
      exact g4
    · obtain ⟨e, he, hem⟩ := least_mem hne
      have := ho.out e he
      have := ho.t0
      exact ⟨this, by omega⟩
theorem all_built {l : List Ent} {ds : List Nd} {base : Int} (h : Built l ds base) (hfit : ∀ e ∈ l, fits64 e.2) : allE ds base = l := by
  by_cases hne : l = []
  · obtain ⟨h1, _⟩ := h.ok hne
    subst h1
    rw [hne]
    rfl
  · have hds := h.pos.2 hne
    have := List.length_pos_iff.2 hds
    unfold allE
    rw [if_neg hds, gath_left h.inv.fine _ _ _ _ (by omega), h.root hne]
    unfold subE
    rw [List.map_map]
    conv => rhs; rw [← List.map_id l]
    apply List.map_congr_left
    intro e he
    obtain ⟨f0, f1⟩ := hfit e he
    show ([] ++ e.1.drop 0, IntKind.i64.wrap (base + (e.2 - base))) = e
    rw [List.drop_zero, List.nil_append, show base + (e.2 - base) = e.2 by omega, IntWalk.i64_in _ (by omega)]
theorem open_build {l : List Ent} (hr : rightE l = 0) (hfit : ∀ e ∈ l, fits64 e.2) : openF (by8 (buildZ l)) = (0, buildDs l, baseOf l, (l.length : Int)) := by
  have hB := built_of hr hfit
  have hall := all_built hB hfit
  have hbs : buildS l = ⟨(by8 (buildZ l)).toArray⟩ := by
    unfold buildS
    rw [if_pos hr]
    rfl
  have hlen := hB.len
  have e1 : by8 (buildZ l) = by8 (numI ((buildDs l).length : Int)) ++ (by8 (numI (baseOf l)) ++ (by8 ((buildDs l).flatMap writeZ) ++ [])) := by
    unfold buildZ
    have : numsI [((buildDs l).length : Int), baseOf l] = numI ((buildDs l).length : Int) ++ numI (baseOf l) := by simp [numsI]
    rw [this, by8_append, by8_append, List.append_assoc, List.append_nil]
  have r1 := readCnt_enc (z := ((buildDs l).length : Int)) ⟨by omega, by omega⟩ (by8 (numI (baseOf l)) ++ (by8 ((buildDs l).flatMap writeZ) ++ []))
  have r2 := readCnt_enc hB.bas (by8 ((buildDs l).flatMap writeZ) ++ [])
  have r3 := rdAll_enc (buildDs l) [] [] (by rw [List.nil_append]; exact hB.inv) (by rw [List.nil_append]; omega)
  rw [List.nil_append] at r3
  have s0 : szL [] = [] := rfl
  have d0 : dpL [] = [] := rfl
  rw [s0, d0] at r3
  rw [← e1] at r1
  unfold openF
  rw [r1]
  simp only [r2, Int.toNat_natCast, r3]
  rw [if_neg (by simp), if_neg (by simp)]
  rw [openG_4 (by rw [hall, hbs, hr]; simp)]
  refine Prod.ext rfl (Prod.ext rfl (Prod.ext rfl ?_))
  show (if 0 < ((buildDs l).length : Int) then (szL (buildDs l)).getD (((buildDs l).length : Int).toNat - 1) 0 else 0) = (l.length : Int)
  by_cases hne : l = []
  · obtain ⟨h1, _⟩ := hB.ok hne
    rw [h1, hne]
    rfl
  · have := List.length_pos_iff.2 (hB.pos.2 hne)
    rw [if_pos (by omega), Int.toNat_natCast, szL_get (by omega), hB.root hne]
    unfold subE
    rw [List.length_map]
end Go.Proofs.YtheickndnniomaaDoor
