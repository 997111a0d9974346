/- The reference's way of building comes to the same nodes (plain Lean). -/
import Derived.Test.YtheickndnniomaaDoorKeep
namespace Go.Proofs.YtheickndnniomaaDoor
open Go.RowKit Go.Maps

/-- Nothing new is longer than so. -/
def NewUpto (n : Nat) (ds : List Nd) (K : Nat) : Prop := ∀ i, n ≤ i → i < ds.length → ∀ e ∈ left ds i, e.1.length ≤ K
theorem waysL_new {rec_ : List Nd → List Ent → Int → Nat × List Nd} {at_ : Nat} {told : Int} (hr : ∀ ds g m, Inv ds → Okl (at_ + 1) m g → g.length ≤ 65536 → leastO g = m → Good (at_ + 1) m g ds (rec_ ds g m) ∧ ∀ K, (∀ e ∈ g, e.1.length ≤ K + (at_ + 1)) → NewUpto ds.length (rec_ ds g m).2 K) :
    ∀ (n : Nat) (ds : List Nd) (ws : List (Int × Int × Int)) (l : List Ent), l.length ≤ n → Inv ds → Okr at_ told l → l.length ≤ 65536 → ∀ K, (∀ e ∈ l, e.1.length ≤ K + (at_ + 1)) → NewUpto ds.length (waysL rec_ at_ told n ds ws l).1 K
  | n, ds, ws, [], _, hi, _, _, K, _ => by
    have e : waysL rec_ at_ told n ds ws [] = (ds, ws) := by cases n <;> rfl
    rw [e]
    intro i h1 h2
    simp only at h2
    omega
  | 0, ds, ws, e :: r, h, _, _, _, _, _ => absurd h (by simp)
  | n + 1, ds, ws, e :: r, hn, hi, ho, hl, K, hK => by
    rw [waysL_next]
    have hgp := grpN_pos at_ e r
    have hgl : ((e :: r).take (grpN at_ (e :: r))).length ≤ 65536 := by rw [List.length_take]; omega
    have hlen2 : ((e :: r).drop (grpN at_ (e :: r))).length ≤ n := by rw [List.length_drop]; simp only [List.length_cons] at hn hgp ⊢; omega
    have hl2 : ((e :: r).drop (grpN at_ (e :: r))).length ≤ 65536 := by rw [List.length_drop]; omega
    obtain ⟨⟨g1, ⟨es1, g2⟩, g3, g4, g5⟩, g6⟩ := hr ds _ _ hi ho.group hgl rfl
    have h1 := g6 K fun x hx => hK x (List.mem_of_mem_take hx)
    obtain ⟨es, more, k1, k2, _⟩ := waysL_left (fun ds g m a b c d => (hr ds g m a b c d).1) n (rec_ ds ((e :: r).take (grpN at_ (e :: r))) (leastO ((e :: r).take (grpN at_ (e :: r))))).2 (ws ++ [(byteAt e.1 at_, leastO ((e :: r).take (grpN at_ (e :: r))) - told, ((rec_ ds ((e :: r).take (grpN at_ (e :: r))) (leastO ((e :: r).take (grpN at_ (e :: r))))).1 : Int))]) ((e :: r).drop (grpN at_ (e :: r))) hlen2 g1 (ho.drop _) hl2
    have h2 := waysL_new hr n (rec_ ds ((e :: r).take (grpN at_ (e :: r))) (leastO ((e :: r).take (grpN at_ (e :: r))))).2 (ws ++ [(byteAt e.1 at_, leastO ((e :: r).take (grpN at_ (e :: r))) - told, ((rec_ ds ((e :: r).take (grpN at_ (e :: r))) (leastO ((e :: r).take (grpN at_ (e :: r))))).1 : Int))]) ((e :: r).drop (grpN at_ (e :: r))) hlen2 g1 (ho.drop _) hl2 K fun x hx => hK x (List.mem_of_mem_drop hx)
    intro i hi1 hi2 y hy
    by_cases hc : i < (rec_ ds ((e :: r).take (grpN at_ (e :: r))) (leastO ((e :: r).take (grpN at_ (e :: r))))).2.length
    · refine h1 i hi1 hc y ?_
      rw [k1] at hy
      rw [left_app g1.fine es hc] at hy
      exact hy
    · exact h2 i (by omega) hi2 y hy
theorem restL_sub (at_ : Nat) (l : List Ent) : (∀ e ∈ restL at_ l, e ∈ l) ∧ (restL at_ l).length ≤ l.length := by
  unfold restL
  split
  · exact ⟨fun e he => List.mem_of_mem_tail he, by rw [List.length_tail]; omega⟩
  · exact ⟨fun e he => he, Nat.le_refl _⟩
theorem nodeF_new : ∀ (f : Nat) (ds : List Nd) (l : List Ent) (at_ : Nat) (told : Int), 65 ≤ at_ + f → Inv ds → Okl at_ told l → l.length ≤ 65536 → leastO l = told → Good at_ told l ds (nodeF f ds l at_ told) ∧ ∀ K, (∀ e ∈ l, e.1.length ≤ K + at_) → NewUpto ds.length (nodeF f ds l at_ told).2 K
  | 0, ds, l, at_, told, hf, _, ho, _, _ => absurd ho.at64 (by omega)
  | f + 1, ds, l, at_, told, hf, hi, ho, hl, hm => by
    have hG := nodeF_left (f + 1) ds l at_ told hf hi ho hl hm
    refine ⟨hG, fun K hK => ?_⟩
    obtain ⟨hrs, hrl⟩ := restL_sub at_ l
    have hw := waysL_new (told := told) (fun ds g m a b c d => nodeF_new f ds g (at_ + 1) m (by omega) a b c d) (restL at_ l).length ds [] (restL at_ l) (Nat.le_refl _) hi ho.rest (by omega) K fun e he => by have := hK e (hrs e he); omega
    obtain ⟨es, more, k1, k2, _⟩ := waysL_left (told := told) (fun ds g m h1 h2 h3 h4 => nodeF_left f ds g (at_ + 1) m (by omega) h1 h2 h3 h4) (restL at_ l).length ds [] (restL at_ l) (Nat.le_refl _) hi ho.rest (by omega)
    obtain ⟨g1, _, g3, g4, _⟩ := hG
    rw [nodeF] at g1 g3 g4 ⊢
    simp only [k1, List.nil_append] at g1 g3 g4 hw ⊢
    generalize (⟨isFin at_ l, if headL l = at_ then headO l - told else 0, more⟩ : Nd) = d at *
    unfold addN at g1 g3 g4 ⊢
    cases hx : idx ((ds ++ es).map sgn) (sgn d) with
    | some i => exact hw
    | none =>
      rw [hx] at g1 g3 g4
      simp only at g1 g3 g4 ⊢
      intro i h1 h2 y hy
      by_cases hc : i < (ds ++ es).length
      · refine hw i h1 hc y ?_
        rw [left_app k2.fine _ hc] at hy
        exact hy
      · have hie : i = (ds ++ es).length := by
          have h3 : (ds ++ es ++ [d]).length = (ds ++ es).length + 1 := List.length_append ..
          omega
        rw [hie, g4] at hy
        obtain ⟨e, he, rfl⟩ := List.mem_map.1 hy
        have := hK e he
        show (e.1.drop at_).length ≤ K
        rw [List.length_drop]
        omega
/-- What is left of terms behind a byte. -/
def rawE (c : Nat) (l : List Ent) : List Ent := l.filterMap fun e => match e.1 with
  | [] => none
  | b :: t => if b.toNat = c then some (t, e.2) else none
def lessE (m : Int) (l : List Ent) : List Ent := l.map fun e => (e.1, e.2 - m)
structure St where
  ls : List (List Ent)
  ds : List Nd
def idxE : List (List Ent) → List Ent → Option Nat
  | [], _ => none
  | x :: r, l => if x = l then some 0 else (idxE r l).map (· + 1)
def refC (rec_ : St → List Ent → Nat × St) (l : List Ent) : Nat → St → Ways → St × Ways
  | 0, st, ws => (st, ws)
  | k + 1, st, ws => if rawE (255 - k) l = [] then refC rec_ l k st ws else
    refC rec_ l k (rec_ st (lessE (leastO (rawE (255 - k) l)) (rawE (255 - k) l))).2 (ws ++ [(((255 - k : Nat) : Int), leastO (rawE (255 - k) l), ((rec_ st (lessE (leastO (rawE (255 - k) l)) (rawE (255 - k) l))).1 : Int))])
def refN : Nat → St → List Ent → Nat × St
  | 0, st, _ => (0, st)
  | f + 1, st, l => match idxE st.ls l with
    | some i => (i, st)
    | none =>
      let q := refC (refN f) l 256 st []
      (q.1.ls.length, ⟨q.1.ls ++ [l], q.1.ds ++ [⟨decide (headL l = 0), if headL l = 0 then headO l else 0, q.2⟩]⟩)
/-- What is left behind each node. -/
def lefts (ds : List Nd) : List (List Ent) := (List.range ds.length).map (left ds)
def stOf (ds : List Nd) : St := ⟨lefts ds, ds⟩
theorem lefts_get {ds : List Nd} {i : Nat} (h : i < ds.length) : (lefts ds)[i]? = some (left ds i) := by
  unfold lefts
  rw [List.getElem?_map, List.getElem?_range h]
  rfl
theorem lefts_len (ds : List Nd) : (lefts ds).length = ds.length := by simp [lefts]
theorem lefts_snoc {ds : List Nd} (hf : Fine ds) (d : Nd) : lefts (ds ++ [d]) = lefts ds ++ [left (ds ++ [d]) ds.length] := by
  unfold lefts
  rw [List.length_append, List.length_singleton]
  exact rangeMap_snoc _ _ _ fun i hi => left_app hf [d] hi
theorem idxE_some : ∀ {ls : List (List Ent)} {l : List Ent} {i : Nat}, idxE ls l = some i → ls[i]? = some l
  | x :: r, l, i, h => by
    rw [idxE] at h
    split at h
    · rename_i e
      injection h with h
      subst h
      simp [e]
    · obtain ⟨j, hj, rfl⟩ := Option.map_eq_some_iff.1 h
      rw [List.getElem?_cons_succ]
      exact idxE_some hj
theorem idxE_none : ∀ {ls : List (List Ent)} {l : List Ent}, idxE ls l = none → l ∉ ls
  | [], _, _ => by simp
  | x :: r, l, h => by
    rw [idxE] at h
    split at h
    · cases h
    · rename_i hne
      intro hm
      rcases List.mem_cons.1 hm with e | hm
      · exact hne e.symm
      · exact idxE_none (by simpa using h) hm
theorem rawE_append (c : Nat) (a b : List Ent) : rawE c (a ++ b) = rawE c a ++ rawE c b := List.filterMap_append ..
theorem rawE_none {c : Nat} {l : List Ent} (h : ∀ e ∈ l, fb e ≠ (c : Int)) : rawE c l = [] := by
  unfold rawE
  rw [List.filterMap_eq_nil_iff]
  intro e he
  have hf := h e he
  obtain ⟨t, o⟩ := e
  cases t with
  | nil => rfl
  | cons b t =>
    simp only
    rw [if_neg]
    intro hb
    exact hf (by show ((b.toNat : Nat) : Int) = _; rw [hb])
theorem filterMap_congr' {α β : Type} {f g : α → Option β} {l : List α} (h : ∀ x ∈ l, f x = g x) : l.filterMap f = l.filterMap g := by
  induction l with
  | nil => rfl
  | cons x r ih => rw [List.filterMap_cons, List.filterMap_cons, h x (List.mem_cons_self ..), ih fun y hy => h y (List.mem_cons_of_mem _ hy)]
theorem rawE_sub {at_ c : Nat} {told : Int} {g : List Ent} (hc : ∀ e ∈ g, byteAt e.1 at_ = (c : Int)) (hl : ∀ e ∈ g, at_ < e.1.length) : rawE c (subE at_ told g) = subE (at_ + 1) told g := by
  unfold rawE subE
  rw [List.filterMap_map]
  have : (g.filterMap ((fun e : Ent => match e.1 with
      | [] => none
      | b :: t => if b.toNat = c then some (t, e.2) else none) ∘ fun e => (e.1.drop at_, e.2 - told))) = g.filterMap (some ∘ fun e : Ent => (e.1.drop (at_ + 1), e.2 - told)) := by
    apply filterMap_congr'
    intro e he
    have h1 := hl e he
    have h2 := hc e he
    show (match e.1.drop at_ with
      | [] => none
      | b :: t => if b.toNat = c then some (t, e.2 - told) else none) = some (e.1.drop (at_ + 1), e.2 - told)
    rw [List.drop_eq_getElem_cons h1]
    unfold byteAt at h2
    rw [List.getD_eq_getElem?_getD, List.getElem?_eq_getElem h1] at h2
    simp only [Option.getD_some] at h2
    exact if_pos (by omega)
  rw [this, List.filterMap_eq_map]
theorem least_sub {at_ : Nat} {told : Int} {g : List Ent} : leastO (subE at_ told g) = if g = [] then 0 else leastO g - told := by
  by_cases hg : g = []
  · subst hg; rfl
  · rw [if_neg hg]
    have h1 : subE at_ told g ≠ [] := by
      unfold subE
      simpa using hg
    obtain ⟨e, he, h2⟩ := least_mem h1
    obtain ⟨v, hv, rfl⟩ := List.mem_map.1 he
    obtain ⟨u, hu, h3⟩ := least_mem hg
    have h4 := leastO_le (l := subE at_ told g) (e := (u.1.drop at_, u.2 - told)) (List.mem_map_of_mem (f := fun e : Ent => (e.1.drop at_, e.2 - told)) hu)
    have h5 := leastO_le hv
    simp only at h2 h4
    omega
theorem less_sub (at_ : Nat) (told m : Int) (g : List Ent) : lessE (m - told) (subE at_ told g) = subE at_ m g := by
  unfold lessE subE
  rw [List.map_map]
  apply List.map_congr_left
  intro e _
  show (e.1.drop at_, e.2 - told - (m - told)) = (e.1.drop at_, e.2 - m)
  congr 1
  omega
theorem refC_step {rec_ : List Nd → List Ent → Int → Nat × List Nd} {rr : St → List Ent → Nat × St} {at_ : Nat} {told : Int}
    (hr : ∀ ds g m, Inv ds → Okl (at_ + 1) m g → g.length ≤ 65536 → leastO g = m → Inv (rec_ ds g m).2 ∧ rr (stOf ds) (subE (at_ + 1) m g) = ((rec_ ds g m).1, stOf (rec_ ds g m).2)) (S : List Ent) :
    ∀ (k : Nat), k ≤ 256 → ∀ (n : Nat) (ds : List Nd) (ws : Ways) (r : List Ent), r.length ≤ n → Inv ds → Okr at_ told r → r.length ≤ 65536 → (∀ c, 256 - k ≤ c → rawE c S = rawE c (subE at_ told r)) → (∀ e ∈ r, ((256 - k : Nat) : Int) ≤ byteAt e.1 at_) →
      refC rr S k (stOf ds) ws = (stOf (waysL rec_ at_ told n ds ws r).1, (waysL rec_ at_ told n ds ws r).2)
  | 0, _, n, ds, ws, r, _, _, _, _, _, hb => by
    have hr0 : r = [] := by
      cases r with
      | nil => rfl
      | cons e r =>
        have h1 := hb e (List.mem_cons_self ..)
        have h2 := (byteAt_255 e.1 at_).2
        omega
    subst hr0
    have e : waysL rec_ at_ told n ds ws [] = (ds, ws) := by cases n <;> rfl
    rw [e]
    rfl
  | k + 1, hk, n, ds, ws, r, hn, hi, ho, hl, hS, hb => by
    have hc : 256 - (k + 1) = 255 - k := by omega
    rw [hc] at hS hb
    rw [refC, hS (255 - k) (Nat.le_refl _)]
    by_cases hhead : ∃ e r', r = e :: r' ∧ byteAt e.1 at_ = ((255 - k : Nat) : Int)
    · obtain ⟨e, r', rfl, hbe⟩ := hhead
      obtain ⟨n, rfl⟩ : ∃ n', n = n' + 1 := ⟨n - 1, by simp only [List.length_cons] at hn; omega⟩
      rw [waysL_next]
      have hgp := grpN_pos at_ e r'
      have hgl : ((e :: r').take (grpN at_ (e :: r'))).length ≤ 65536 := by rw [List.length_take]; omega
      have hsame := grp_same (at_ := at_) (e := e) (r := r')
      have hlong := ho.long
      have hlater := ho.later
      have hgr := ho.group
      have ho2 := ho.drop (grpN at_ (e :: r'))
      have hsplit : (e :: r').take (grpN at_ (e :: r')) ++ (e :: r').drop (grpN at_ (e :: r')) = e :: r' := List.take_append_drop ..
      have hlen2 : ((e :: r').drop (grpN at_ (e :: r'))).length ≤ n := by rw [List.length_drop]; simp only [List.length_cons] at hn hgp ⊢; omega
      have hsub : ∀ x ∈ (e :: r').take (grpN at_ (e :: r')), x ∈ e :: r' := fun x hx => List.mem_of_mem_take hx
      have hsub2 : ∀ x ∈ (e :: r').drop (grpN at_ (e :: r')), x ∈ e :: r' := fun x hx => List.mem_of_mem_drop hx
      have hl2 : ((e :: r').drop (grpN at_ (e :: r'))).length ≤ 65536 := by rw [List.length_drop]; omega
      generalize (e :: r').take (grpN at_ (e :: r')) = g at *
      generalize (e :: r').drop (grpN at_ (e :: r')) = r2 at *
      have hsap : subE at_ told (e :: r') = subE at_ told g ++ subE at_ told r2 := by
        rw [← hsplit]
        unfold subE
        rw [List.map_append]
      have hg1 : rawE (255 - k) (subE at_ told g) = subE (at_ + 1) told g := rawE_sub (fun x hx => by rw [hsame x hx, hbe]) (fun x hx => hlong x (hsub x hx))
      have hg2 : rawE (255 - k) (subE at_ told r2) = [] := rawE_none fun y hy => by
        obtain ⟨z, hz, hzb⟩ := fb_sub (fun z hz => hlong z (hsub2 z hz)) y hy
        have := hlater z hz
        rw [hzb]
        omega
      have hraw : rawE (255 - k) (subE at_ told (e :: r')) = subE (at_ + 1) told g := by rw [hsap, rawE_append, hg1, hg2, List.append_nil]
      have hne : subE (at_ + 1) told g ≠ [] := by
        unfold subE
        simpa using hgr.ne
      obtain ⟨q1, q2⟩ := hr ds g (leastO g) hi hgr hgl rfl
      rw [hraw, if_neg hne, least_sub, if_neg hgr.ne, less_sub, q2]
      simp only
      rw [hbe]
      refine refC_step hr S k (by omega) n _ _ r2 hlen2 q1 ho2 hl2 (fun c hcc => ?_) (fun x hx => ?_)
      · rw [hS c (by omega), hsap, rawE_append]
        have : rawE c (subE at_ told g) = [] := rawE_none fun y hy => by
          obtain ⟨z, hz, hzb⟩ := fb_sub (fun z hz => hlong z (hsub z hz)) y hy
          rw [hzb, hsame z hz, hbe]
          omega
        rw [this, List.nil_append]
      · have := hlater x hx
        omega
    · have hlow : ∀ e ∈ r, ((255 - k : Nat) : Int) < byteAt e.1 at_ := by
        intro e he
        have h1 := hb e he
        cases r with
        | nil => cases he
        | cons e0 r' =>
          have h0 := hb e0 (List.mem_cons_self ..)
          have hne : byteAt e0.1 at_ ≠ ((255 - k : Nat) : Int) := fun h => hhead ⟨e0, r', rfl, h⟩
          rcases List.mem_cons.1 he with rfl | he
          · omega
          · have := ho.bytes e he
            omega
      have hraw : rawE (255 - k) (subE at_ told r) = [] := rawE_none fun y hy => by
        obtain ⟨z, hz, hzb⟩ := fb_sub ho.long y hy
        have := hlow z hz
        rw [hzb]
        omega
      rw [hraw, if_pos rfl]
      exact refC_step hr S k (by omega) n ds ws r hn hi ho hl (fun c hcc => hS c (by omega)) (fun e he => by have := hlow e he; omega)
theorem headL_sub {at_ : Nat} {told : Int} {l : List Ent} (h : Okl at_ told l) : (headL (subE at_ told l) = 0 ↔ headL l = at_) ∧ headO (subE at_ told l) = headO l - told := by
  cases l with
  | nil => exact absurd rfl h.ne
  | cons e r =>
    obtain ⟨p, hp, hq⟩ := h.pre
    obtain ⟨q, hq⟩ := hq e (List.mem_cons_self ..)
    have h1 : at_ ≤ e.1.length := by rw [hq, List.length_append]; omega
    refine ⟨?_, rfl⟩
    show (e.1.drop at_).length = 0 ↔ e.1.length = at_
    rw [List.length_drop]
    omega
/-- The two ways come to one. -/
theorem refN_step : ∀ (f : Nat) (ds : List Nd) (l : List Ent) (at_ : Nat) (told : Int), 65 ≤ at_ + f → Inv ds → Okl at_ told l → l.length ≤ 65536 → leastO l = told → refN f (stOf ds) (subE at_ told l) = ((nodeF f ds l at_ told).1, stOf (nodeF f ds l at_ told).2)
  | 0, ds, l, at_, told, hf, _, ho, _, _ => absurd ho.at64 (by omega)
  | f + 1, ds, l, at_, told, hf, hi, ho, hl, hm => by
    rw [refN]
    cases hx : idxE (stOf ds).ls (subE at_ told l) with
    | some i =>
      have h1 := idxE_some hx
      have hil : i < ds.length := by
        have := (List.getElem?_eq_some_iff.1 h1).1
        rwa [show (stOf ds).ls = lefts ds from rfl, lefts_len] at this
      have h2 : left ds i = subE at_ told l := by
        have := lefts_get hil
        rw [show (stOf ds).ls = lefts ds from rfl, this] at h1
        injection h1
      rw [nodeF_keep (f + 1) ds l at_ told i hf hi ho hm hl hil h2]
    | none =>
      have hno := idxE_none hx
      obtain ⟨hrs, hrl⟩ := restL_sub at_ l
      have hC := refC_step (told := told) (rec_ := fun ds g m => nodeF f ds g (at_ + 1) m) (rr := refN f) (fun ds g m a b c d => ⟨(nodeF_left f ds g (at_ + 1) m (by omega) a b c d).1, refN_step f ds g (at_ + 1) m (by omega) a b c d⟩) (subE at_ told l) 256 (Nat.le_refl _) (restL at_ l).length ds [] (restL at_ l) (Nat.le_refl _) hi ho.rest (by omega)
        (fun c _ => by
          cases l with
          | nil => exact absurd rfl ho.ne
          | cons e r =>
            by_cases hh : e.1.length = at_
            · have h2 : restL at_ (e :: r) = r := if_pos hh
              rw [h2, subE_head hh]
              unfold rawE
              rw [List.filterMap_cons]
            · have h2 : restL at_ (e :: r) = e :: r := if_neg hh
              rw [h2])
        (fun e _ => by have := (byteAt_255 e.1 at_).1; omega)
      have hnew := waysL_new (told := told) (fun ds g m a b c d => nodeF_new f ds g (at_ + 1) m (by omega) a b c d) (restL at_ l).length ds [] (restL at_ l) (Nat.le_refl _) hi ho.rest (by omega)
      obtain ⟨es, more, k1, k2, k3, _⟩ := waysL_left (told := told) (fun ds g m h1 h2 h3 h4 => nodeF_left f ds g (at_ + 1) m (by omega) h1 h2 h3 h4) (restL at_ l).length ds [] (restL at_ l) (Nat.le_refl _) hi ho.rest (by omega)
      obtain ⟨h1, h2⟩ := headL_sub ho
      have hG := (nodeF_left (f + 1) ds l at_ told hf hi ho hl hm)
      obtain ⟨g1, _, g3, g4, _⟩ := hG
      rw [nodeF] at g1 g3 g4 ⊢
      simp only [k1, List.nil_append] at g1 g3 g4 hC hnew ⊢
      have hd : (⟨decide (headL (subE at_ told l) = 0), if headL (subE at_ told l) = 0 then headO (subE at_ told l) else 0, more⟩ : Nd) = ⟨isFin at_ l, if headL l = at_ then headO l - told else 0, more⟩ := by
        unfold isFin
        by_cases hh : headL l = at_
        · rw [if_pos hh, if_pos (h1.2 hh), h2, decide_eq_true hh, decide_eq_true (h1.2 hh)]
        · rw [if_neg hh, if_neg (fun e => hh (h1.1 e)), decide_eq_false hh, decide_eq_false (fun e => hh (h1.1 e))]
      rw [hC]
      simp only
      rw [hd]
      generalize (⟨isFin at_ l, if headL l = at_ then headO l - told else 0, more⟩ : Nd) = d at *
      unfold addN at g1 g3 g4 ⊢
      cases hy : idx ((ds ++ es).map sgn) (sgn d) with
      | some i =>
        exfalso
        rw [hy] at g3 g4
        simp only at g3 g4
        by_cases hc : i < ds.length
        · rw [left_app hi.fine es hc] at g4
          refine hno ?_
          rw [← g4]
          exact List.mem_of_getElem? (lefts_get hc)
        · by_cases hnil : ∃ e ∈ l, at_ < e.1.length
          · obtain ⟨M, hM, e, he, hel⟩ : ∃ M, (∀ e ∈ l, e.1.length ≤ M + (at_ + 1)) ∧ ∃ e ∈ l, e.1.length = M + (at_ + 1) := by
              have key : ∀ r : List Ent, (∃ e ∈ r, at_ < e.1.length) → ∃ e ∈ r, at_ < e.1.length ∧ ∀ x ∈ r, x.1.length ≤ e.1.length := by
                intro r
                induction r with
                | nil => rintro ⟨e, he, _⟩; cases he
                | cons y r ih =>
                  rintro ⟨e, he, hae⟩
                  by_cases hr : ∃ e ∈ r, at_ < e.1.length
                  · obtain ⟨e', he', ha', hx'⟩ := ih hr
                    by_cases hc : y.1.length ≤ e'.1.length
                    · exact ⟨e', List.mem_cons_of_mem _ he', ha', fun x hx => by
                        rcases List.mem_cons.1 hx with rfl | hx
                        · exact hc
                        · exact hx' x hx⟩
                    · exact ⟨y, List.mem_cons_self .., by omega, fun x hx => by
                        rcases List.mem_cons.1 hx with rfl | hx
                        · exact Nat.le_refl _
                        · have := hx' x hx; omega⟩
                  · rcases List.mem_cons.1 he with rfl | he
                    · exact ⟨e, List.mem_cons_self .., hae, fun x hx => by
                        rcases List.mem_cons.1 hx with rfl | hx
                        · exact Nat.le_refl _
                        · by_cases hxa : at_ < x.1.length
                          · exact absurd ⟨x, hx, hxa⟩ hr
                          · omega⟩
                    · exact absurd ⟨e, he, hae⟩ hr
              obtain ⟨e, he, ha, hx⟩ := key l hnil
              exact ⟨e.1.length - (at_ + 1), fun x hxm => by have := hx x hxm; omega, e, he, by omega⟩
            have h5 := hnew M (fun x hx => hM x (hrs x hx)) i (by omega) g3 (e.1.drop at_, e.2 - told) (by rw [g4]; exact List.mem_map_of_mem (f := fun e : Ent => (e.1.drop at_, e.2 - told)) he)
            simp only [List.length_drop] at h5
            omega
          · have hr0 : restL at_ l = [] := by
              cases hrr : restL at_ l with
              | nil => rfl
              | cons e r =>
                have hm : e ∈ restL at_ l := by rw [hrr]; exact List.mem_cons_self ..
                exact absurd ⟨e, hrs e hm, ho.rest.long e hm⟩ hnil
            rw [hr0] at k1
            have k1' : (ds, ([] : Ways)) = (ds ++ es, [] ++ more) := k1
            injection k1' with k4 _
            rw [← k4] at g3
            exact hc g3
      | none =>
        rw [hy] at g1 g3 g4
        simp only at g1 g3 g4 ⊢
        refine Prod.ext ?_ ?_
        · exact lefts_len _
        · show (⟨lefts (ds ++ es) ++ [subE at_ told l], ds ++ es ++ [d]⟩ : St) = ⟨lefts (ds ++ es ++ [d]), ds ++ es ++ [d]⟩
          rw [lefts_snoc k2.fine, g4]
end Go.Proofs.YtheickndnniomaaDoor
