/- Nodes that are there already are found; the reference's way of building comes to the same nodes (plain Lean). -/
import Derived.Test.YtheickndnniomaaDoorLook
namespace Go.Proofs.YtheickndnniomaaDoor
open Go.RowKit Go.Maps

/-- Two parted lists, parted by a test. -/
theorem cut_eq {α : Type} (p : α → Bool) {a b c d : List α} (h : a ++ b = c ++ d) (ha : ∀ x ∈ a, p x = true) (hb : ∀ x ∈ b, p x = false) (hc : ∀ x ∈ c, p x = true) (hd : ∀ x ∈ d, p x = false) : a = c ∧ b = d := by
  have f1 : ∀ {u v : List α}, (∀ x ∈ u, p x = true) → (∀ x ∈ v, p x = false) → (u ++ v).filter p = u := by
    intro u v hu hv
    rw [List.filter_append, List.filter_eq_self.2 hu, List.filter_eq_nil_iff.2 (fun x hx => by rw [hv x hx]; simp), List.append_nil]
  have e := f1 ha hb
  rw [h, f1 hc hd] at e
  subst e
  exact ⟨rfl, List.append_cancel_left h⟩
/-- The first byte of a term. -/
def fb (e : Ent) : Int := match e.1 with
  | [] => -1
  | c :: _ => (c.toNat : Int)
theorem fb_pre {x : Int × Int × Int} (h0 : 0 ≤ x.1) (h1 : x.1 ≤ 255) (e : Ent) : fb (preE x e) = x.1 := by
  show ((UInt8.ofNat x.1.toNat).toNat : Int) = x.1
  simp
  omega
theorem byteAt_drop {t : List UInt8} {at_ : Nat} (h : at_ < t.length) (z : Int) : fb (t.drop at_, z) = byteAt t at_ := by
  rw [List.drop_eq_getElem_cons h]
  unfold byteAt
  rw [List.getD_eq_getElem?_getD, List.getElem?_eq_getElem h]
  rfl
theorem fb_sub {at_ : Nat} {told : Int} {l : List Ent} (hl : ∀ e ∈ l, at_ < e.1.length) : ∀ x ∈ subE at_ told l, ∃ e ∈ l, fb x = byteAt e.1 at_ := by
  intro x hx
  obtain ⟨e, he, rfl⟩ := List.mem_map.1 hx
  exact ⟨e, he, byteAt_drop (hl e he) _⟩
theorem preE_inj {x : Int × Int × Int} {a b : List Ent} (h : a.map (preE x) = b.map (preE x)) : a = b := by
  induction a generalizing b with
  | nil => cases b with
    | nil => rfl
    | cons _ _ => cases h
  | cons e r ih => cases b with
    | nil => cases h
    | cons e' r' =>
      rw [List.map_cons, List.map_cons] at h
      injection h with h1 h2
      injection h1 with h3 h4
      injection h3 with _ h5
      rw [ih h2]
      congr 1
      exact Prod.ext h5 (by omega)
/-- A way's terms are a group's: so are its number and what it leads to. -/
theorem way_group {L : List Ent} {x : Int × Int × Int} {at_ : Nat} {told c : Int} {g : List Ent} (hx0 : 0 ≤ x.1) (hx1 : x.1 ≤ 255) (hmn : ∃ e ∈ L, e.2 = 0) (hge : ∀ e ∈ L, 0 ≤ e.2) (hne : g ≠ []) (hc : ∀ e ∈ g, byteAt e.1 at_ = c) (hl : ∀ e ∈ g, at_ < e.1.length)
    (h : L.map (preE x) = subE at_ told g) : x.1 = c ∧ x.2.1 = leastO g - told ∧ L = subE (at_ + 1) (leastO g) g := by
  have h1 : x.1 = c := by
    obtain ⟨e, he, _⟩ := hmn
    have hm : preE x e ∈ subE at_ told g := by rw [← h]; exact List.mem_map_of_mem he
    obtain ⟨y, hy, hyb⟩ := fb_sub hl _ hm
    rw [fb_pre hx0 hx1] at hyb
    rw [hyb, hc y hy]
  have h2 : x.2.1 = leastO g - told := by
    obtain ⟨e, he, hz⟩ := hmn
    have hm : preE x e ∈ subE at_ told g := by rw [← h]; exact List.mem_map_of_mem he
    obtain ⟨y, hy, hyx⟩ := List.mem_map.1 hm
    have q1 : y.2 - told = x.2.1 + e.2 := congrArg (·.2) hyx
    have q2 := leastO_le hy
    obtain ⟨v, hv, hvm⟩ := least_mem hne
    have hm2 : (v.1.drop at_, v.2 - told) ∈ L.map (preE x) := by rw [h]; exact List.mem_map_of_mem (f := fun e : Ent => (e.1.drop at_, e.2 - told)) hv
    obtain ⟨w, hw, hwv⟩ := List.mem_map.1 hm2
    have q3 : x.2.1 + w.2 = v.2 - told := congrArg (·.2) hwv
    have q4 := hge w hw
    omega
  refine ⟨h1, h2, ?_⟩
  apply preE_inj (x := x)
  rw [h]
  obtain ⟨x0, x1, x2⟩ := x
  simp only at h1 h2
  subst h1 h2
  exact (pre_sub hc hl).symm
theorem left_can {ds : List Nd} (h : Inv ds) {i : Nat} (hi : i < ds.length) : (∃ e ∈ left ds i, e.2 = 0) ∧ ∀ e ∈ left ds i, 0 ≤ e.2 := by
  have hd : ds[i]? = some (ds[i]'hi) := List.getElem?_eq_getElem _
  have hc := h.can i _ hd
  rw [left_eq h.fine hd]
  exact ⟨hc.mn, hc.ge⟩
/-- The loop over groups whose nodes are there. -/
theorem waysL_keep {rec_ : List Nd → List Ent → Int → Nat × List Nd} {at_ : Nat} {told : Int} {ds : List Nd} (hi : Inv ds) (hr : ∀ g m i, Okl (at_ + 1) m g → leastO g = m → g.length ≤ 65536 → i < ds.length → left ds i = subE (at_ + 1) m g → rec_ ds g m = (i, ds)) :
    ∀ (n : Nat) (ws vs : List (Int × Int × Int)) (l : List Ent), l.length ≤ n → Okr at_ told l → l.length ≤ 65536 → (∀ x ∈ vs, WayI ds.length x) → vs.Pairwise (fun a b => a.1 < b.1) → (vs.flatMap fun x => (left ds x.2.2.toNat).map (preE x)) = subE at_ told l → waysL rec_ at_ told n ds ws l = (ds, ws ++ vs)
  | n, ws, vs, [], _, _, _, hv, _, he => by
    have e : waysL rec_ at_ told n ds ws [] = (ds, ws) := by cases n <;> rfl
    have hvs : vs = [] := by
      cases vs with
      | nil => rfl
      | cons x r =>
        obtain ⟨_, _, t0, t1⟩ := hv x (List.mem_cons_self ..)
        obtain ⟨⟨y, hy, _⟩, _⟩ := left_can hi (i := x.2.2.toNat) (by omega)
        rw [List.flatMap_cons] at he
        have : preE x y ∈ ([] : List Ent) := by
          have h1 : preE x y ∈ subE at_ told [] := by rw [← he]; exact List.mem_append_left _ (List.mem_map_of_mem hy)
          exact h1
        cases this
    rw [e, hvs, List.append_nil]
  | 0, _, _, e :: r, h, _, _, _, _, _ => absurd h (by simp)
  | n + 1, ws, vs, e :: r, hn, ho, hl, hv, hp, he => by
    rw [waysL_next]
    have hgp := grpN_pos at_ e r
    have hgl : ((e :: r).take (grpN at_ (e :: r))).length ≤ 65536 := by rw [List.length_take]; omega
    have hsame := grp_same (at_ := at_) (e := e) (r := r)
    have hlong := ho.long
    have hlater := ho.later
    have hgr := ho.group
    have ho2 := ho.drop (grpN at_ (e :: r))
    have hsplit : (e :: r).take (grpN at_ (e :: r)) ++ (e :: r).drop (grpN at_ (e :: r)) = e :: r := List.take_append_drop ..
    have hlen2 : ((e :: r).drop (grpN at_ (e :: r))).length ≤ n := by rw [List.length_drop]; simp only [List.length_cons] at hn hgp ⊢; omega
    have hsub : ∀ x ∈ (e :: r).take (grpN at_ (e :: r)), x ∈ e :: r := fun x hx => List.mem_of_mem_take hx
    have hsub2 : ∀ x ∈ (e :: r).drop (grpN at_ (e :: r)), x ∈ e :: r := fun x hx => List.mem_of_mem_drop hx
    have hl2 : ((e :: r).drop (grpN at_ (e :: r))).length ≤ 65536 := by rw [List.length_drop]; omega
    generalize (e :: r).take (grpN at_ (e :: r)) = g at *
    generalize (e :: r).drop (grpN at_ (e :: r)) = r2 at *
    cases vs with
    | nil =>
      rw [← hsplit] at he
      obtain ⟨y, hy, _⟩ := least_mem hgr.ne
      have : ((y.1.drop at_, y.2 - told) : Ent) ∈ ([] : List Ent) := by
        have h1 : ((y.1.drop at_, y.2 - told) : Ent) ∈ subE at_ told (g ++ r2) := List.mem_map_of_mem (f := fun e : Ent => (e.1.drop at_, e.2 - told)) (List.mem_append_left _ hy)
        rw [← he] at h1
        exact h1
      cases this
    | cons x vs =>
      obtain ⟨⟨b0, b1⟩, _, t0, t1⟩ := hv x (List.mem_cons_self ..)
      obtain ⟨hp1, hp2⟩ := List.pairwise_cons.1 hp
      have hcan := left_can hi (i := x.2.2.toNat) (by omega)
      have hvr := fun y hy => hv y (List.mem_cons_of_mem x hy)
      rw [List.flatMap_cons, ← hsplit] at he
      have hee : (left ds x.2.2.toNat).map (preE x) ++ (vs.flatMap fun x => (left ds x.2.2.toNat).map (preE x)) = subE at_ told g ++ subE at_ told r2 := by
        rw [he]
        unfold subE
        rw [List.map_append]
      have ha : ∀ y ∈ (left ds x.2.2.toNat).map (preE x), fb y = x.1 := by
        intro y hy
        obtain ⟨z, _, rfl⟩ := List.mem_map.1 hy
        exact fb_pre b0 b1 z
      have hb : ∀ y ∈ vs.flatMap fun x => (left ds x.2.2.toNat).map (preE x), x.1 < fb y := by
        intro y hy
        obtain ⟨v, hvm, hy⟩ := List.mem_flatMap.1 hy
        obtain ⟨z, _, rfl⟩ := List.mem_map.1 hy
        obtain ⟨⟨v0, v1⟩, _⟩ := hvr v hvm
        rw [fb_pre v0 v1]
        exact hp1 v hvm
      have hc : ∀ y ∈ subE at_ told g, fb y = byteAt e.1 at_ := by
        intro y hy
        obtain ⟨z, hz, hb⟩ := fb_sub (fun z hz => hlong z (hsub z hz)) y hy
        rw [hb, hsame z hz]
      have hd : ∀ y ∈ subE at_ told r2, byteAt e.1 at_ < fb y := by
        intro y hy
        obtain ⟨z, hz, hb⟩ := fb_sub (fun z hz => hlong z (hsub2 z hz)) y hy
        rw [hb]
        exact hlater z hz
      have hxe : x.1 = byteAt e.1 at_ := by
        obtain ⟨⟨y, hy, _⟩, _⟩ := hcan
        have m1 : preE x y ∈ subE at_ told g ++ subE at_ told r2 := by rw [← hee]; exact List.mem_append_left _ (List.mem_map_of_mem hy)
        have q1 : byteAt e.1 at_ ≤ x.1 := by
          rcases List.mem_append.1 m1 with m | m
          · have := hc _ m; rw [fb_pre b0 b1] at this; omega
          · have := hd _ m; rw [fb_pre b0 b1] at this; omega
        obtain ⟨v, hv2, _⟩ := least_mem hgr.ne
        have m2 : ((v.1.drop at_, v.2 - told) : Ent) ∈ subE at_ told g := List.mem_map_of_mem (f := fun e : Ent => (e.1.drop at_, e.2 - told)) hv2
        have q2 := hc _ m2
        have m3 : ((v.1.drop at_, v.2 - told) : Ent) ∈ (left ds x.2.2.toNat).map (preE x) ++ (vs.flatMap fun x => (left ds x.2.2.toNat).map (preE x)) := by rw [hee]; exact List.mem_append_left _ m2
        rcases List.mem_append.1 m3 with m | m
        · have := ha _ m; omega
        · have := hb _ m; omega
      obtain ⟨e1, e2⟩ := cut_eq (fun y => decide (fb y = x.1)) hee (fun y hy => by simpa using ha y hy) (fun y hy => by have := hb y hy; simp; omega) (fun y hy => by have := hc y hy; simp; omega) (fun y hy => by have := hd y hy; simp; omega)
      obtain ⟨w1, w2, w3⟩ := way_group b0 b1 hcan.1 hcan.2 hgr.ne hsame (fun z hz => hlong z (hsub z hz)) e1
      rw [hr g (leastO g) x.2.2.toNat hgr rfl hgl (by omega) w3]
      simp only
      rw [waysL_keep hi hr n _ vs r2 hlen2 ho2 hl2 hvr hp2 e2, List.append_assoc]
      congr 2
      show [(byteAt e.1 at_, leastO g - told, (x.2.2.toNat : Int))] ++ vs = x :: vs
      rw [← w1, ← w2, Int.toNat_of_nonneg t0]
      rfl
theorem subE_head {at_ : Nat} {told : Int} {e : Ent} {r : List Ent} (h : e.1.length = at_) : subE at_ told (e :: r) = ([], e.2 - told) :: subE at_ told r := by
  show (e.1.drop at_, e.2 - told) :: subE at_ told r = _
  rw [List.drop_eq_nil_of_le (by omega)]
/-- A node that is there is found. -/
theorem nodeF_keep : ∀ (f : Nat) (ds : List Nd) (l : List Ent) (at_ : Nat) (told : Int) (i : Nat), 65 ≤ at_ + f → Inv ds → Okl at_ told l → leastO l = told → l.length ≤ 65536 → i < ds.length → left ds i = subE at_ told l → nodeF f ds l at_ told = (i, ds)
  | 0, ds, l, at_, told, i, hf, _, ho, _, _, _, _ => absurd ho.at64 (by omega)
  | f + 1, ds, l, at_, told, i, hf, hi, ho, hm, hl, hil, he => by
    obtain ⟨d, hd⟩ : ∃ d, ds[i]? = some d := ⟨ds[i]'hil, List.getElem?_eq_getElem _⟩
    have hcan := hi.can i d hd
    have hfi := (hi.fine i d hd).2
    have hpre : ∀ y ∈ (d.ways.flatMap fun x => (left ds x.2.2.toNat).map (preE x)), y.1 ≠ [] := by
      intro y hy
      obtain ⟨v, _, hy⟩ := List.mem_flatMap.1 hy
      obtain ⟨z, _, rfl⟩ := List.mem_map.1 hy
      simp [preE]
    rw [left_eq hi.fine hd] at he
    unfold ndE at he
    have hparts : d.fin = isFin at_ l ∧ d.out = (if headL l = at_ then headO l - told else 0) ∧ (d.ways.flatMap fun x => (left ds x.2.2.toNat).map (preE x)) = subE at_ told (restL at_ l) := by
      cases l with
      | nil => exact absurd rfl ho.ne
      | cons e r =>
        by_cases hh : e.1.length = at_
        · have h1 : isFin at_ (e :: r) = true := by unfold isFin; exact decide_eq_true hh
          have h2 : restL at_ (e :: r) = r := if_pos hh
          have h3 : headL (e :: r) = at_ := hh
          rw [subE_head hh] at he
          cases hfin : d.fin with
          | true =>
            rw [hfin, if_pos rfl] at he
            injection he with he1 he2
            injection he1 with _ he3
            exact ⟨h1.symm, by rw [if_pos h3, he3]; rfl, by rw [h2]; exact he2⟩
          | false =>
            rw [hfin, if_neg (by simp), List.nil_append] at he
            have := hpre ([], e.2 - told) (by rw [he]; exact List.mem_cons_self ..)
            exact absurd rfl this
        · have h1 : isFin at_ (e :: r) = false := by unfold isFin; exact decide_eq_false hh
          have h2 : restL at_ (e :: r) = e :: r := if_neg hh
          have h3 : ¬ headL (e :: r) = at_ := hh
          cases hfin : d.fin with
          | true =>
            rw [hfin, if_pos rfl] at he
            injection he with he1 _
            have h4 : e.1.drop at_ = [] := (congrArg (·.1) he1).symm
            obtain ⟨p, hp, hq⟩ := ho.pre
            obtain ⟨q, hq⟩ := hq e (List.mem_cons_self ..)
            rw [List.drop_eq_nil_iff] at h4
            rw [hq, List.length_append] at h4 hh
            omega
          | false =>
            rw [hfin, if_neg (by simp), List.nil_append] at he
            exact ⟨h1.symm, by rw [if_neg h3]; exact hcan.fz hfin, by rw [h2]; exact he⟩
    obtain ⟨p1, p2, p3⟩ := hparts
    have hrl : (restL at_ l).length ≤ l.length := by
      unfold restL
      split
      · rw [List.length_tail]; omega
      · exact Nat.le_refl _
    have hw := waysL_keep (told := told) hi (rec_ := fun ds g m => nodeF f ds g (at_ + 1) m) (fun g m j h1 h2 h3 h4 h5 => nodeF_keep f ds g (at_ + 1) m j (by omega) hi h1 h2 h3 h4 h5) (restL at_ l).length [] d.ways (restL at_ l) (Nat.le_refl _) ho.rest (by omega)
      (fun x hx => by obtain ⟨a, b, c, e⟩ := hfi x hx; exact ⟨a, b, c, by omega⟩) hcan.asc p3
    rw [nodeF]
    simp only [hw, List.nil_append]
    have hdd : (⟨isFin at_ l, if headL l = at_ then headO l - told else 0, d.ways⟩ : Nd) = d := by
      rw [← p1, ← p2]
    rw [hdd]
    unfold addN
    cases hx : idx (ds.map sgn) (sgn d) with
    | none => exact absurd (List.mem_map_of_mem (List.mem_of_getElem? hd)) (idx_none hx)
    | some j =>
      obtain ⟨h1, h2⟩ := idx_lt hx
      rw [List.length_map] at h1
      rw [List.getElem?_map] at h2
      obtain ⟨d', hd', he'⟩ := Option.map_eq_some_iff.1 h2
      have := sgn_inj he'
      subst this
      have hji : j = i := by
        obtain ⟨l1, q1⟩ := List.getElem?_eq_some_iff.1 hd'
        obtain ⟨l2, q2⟩ := List.getElem?_eq_some_iff.1 hd
        rcases Nat.lt_trichotomy j i with h | h | h
        · exact absurd (q1.trans q2.symm) (List.pairwise_iff_getElem.1 hi.nodup j i l1 l2 h)
        · exact h
        · exact absurd (q2.trans q1.symm) (List.pairwise_iff_getElem.1 hi.nodup i j l2 l1 h)
      rw [hji]
end Go.Proofs.YtheickndnniomaaDoor
