/- A term is looked up (plain Lean). -/
import Derived.Test.YtheickndnniomaaDoorRound
namespace Go.Proofs.YtheickndnniomaaDoor
open Go.RowKit Go.Maps

/-- A term's number in a list. -/
def lookE (l : List Ent) (t : List UInt8) : Option Int := (l.find? fun e => decide (e.1 = t)).map (·.2)
theorem find_pre_ne {x : Int × Int × Int} {c : UInt8} {t : List UInt8} (h : UInt8.ofNat x.1.toNat ≠ c) (l : List Ent) : (l.map (preE x)).find? (fun e => decide (e.1 = c :: t)) = none := by
  rw [List.find?_eq_none]
  intro e he
  obtain ⟨y, _, rfl⟩ := List.mem_map.1 he
  simp only [decide_eq_true_eq]
  intro e
  injection e with e1 _
  exact h e1
theorem find_pre_eq {x : Int × Int × Int} {c : UInt8} {t : List UInt8} (h : UInt8.ofNat x.1.toNat = c) (l : List Ent) : (l.map (preE x)).find? (fun e => decide (e.1 = c :: t)) = (l.find? fun e => decide (e.1 = t)).map (preE x) := by
  induction l with
  | nil => rfl
  | cons e r ih =>
    rw [List.map_cons, List.find?_cons, List.find?_cons]
    have h1 : decide ((preE x e).1 = c :: t) = decide (e.1 = t) := by
      unfold preE
      rw [h]
      simp
    rw [h1, ih]
    cases decide (e.1 = t) <;> rfl
theorem c_of {x : Int} (h0 : 0 ≤ x) (h1 : x ≤ 255) (c : UInt8) : UInt8.ofNat x.toNat = c ↔ x = (c.toNat : Nat) := by
  constructor
  · rintro rfl
    simp
    omega
  · rintro rfl
    simp
theorem find_ways {L : Nat → List Ent} {c : UInt8} {t : List UInt8} : ∀ ws : List (Int × Int × Int), ws.Pairwise (fun a b => a.1 < b.1) → (∀ x ∈ ws, 0 ≤ x.1 ∧ x.1 ≤ 255) →
    (ws.flatMap fun x => (L x.2.2.toNat).map (preE x)).find? (fun e => decide (e.1 = c :: t)) = match wayBy ws (c.toNat : Nat) with
      | some x => ((L x.2.2.toNat).find? fun e => decide (e.1 = t)).map (preE x)
      | none => none
  | [], _, _ => rfl
  | x :: r, hp, hb => by
    obtain ⟨h1, h2⟩ := List.pairwise_cons.1 hp
    obtain ⟨b0, b1⟩ := hb x (List.mem_cons_self ..)
    have hbr := fun y hy => hb y (List.mem_cons_of_mem x hy)
    have ih := find_ways (L := L) (c := c) (t := t) r h2 hbr
    rw [List.flatMap_cons, List.find?_append]
    unfold wayBy at ih ⊢
    rw [List.find?_cons]
    by_cases hc : x.1 = ((c.toNat : Nat) : Int)
    · have hq : (x.1 == ((c.toNat : Nat) : Int)) = true := by simpa using hc
      rw [hq, find_pre_eq ((c_of b0 b1 c).2 hc)]
      have hnone : (r.flatMap fun x => (L x.2.2.toNat).map (preE x)).find? (fun e => decide (e.1 = c :: t)) = none := by
        rw [List.find?_eq_none]
        intro e he
        obtain ⟨y, hy, he⟩ := List.mem_flatMap.1 he
        obtain ⟨z, _, rfl⟩ := List.mem_map.1 he
        simp only [decide_eq_true_eq]
        intro e
        injection e with e1 _
        have := (c_of (hbr y hy).1 (hbr y hy).2 c).1 e1
        have := h1 y hy
        omega
      rw [hnone]
      show _ = ((L x.2.2.toNat).find? fun e => decide (e.1 = t)).map (preE x)
      cases ((L x.2.2.toNat).find? fun e => decide (e.1 = t)).map (preE x) <;> rfl
    · have hq : (x.1 == ((c.toNat : Nat) : Int)) = false := by simpa using hc
      rw [hq, find_pre_ne (fun e => hc ((c_of b0 b1 c).1 e)), ih]
      rfl
/-- From a node on: its terms. -/
theorem getF_left {ds : List Nd} (h : Inv ds) : ∀ (t : List UInt8) (a : Nat) (out : Int), a < ds.length → getF ds t a out = (lookE (left ds a) t).map fun z => IntKind.i64.wrap (out + z)
  | [], a, out, ha => by
    obtain ⟨d, hd⟩ : ∃ d, ds[a]? = some d := ⟨ds[a]'ha, List.getElem?_eq_getElem _⟩
    rw [getF_nil hd, left_eq h.fine hd]
    unfold lookE ndE
    rw [List.find?_append]
    cases hf : d.fin with
    | true => simp
    | false =>
      have hnone : (d.ways.flatMap fun x => (left ds x.2.2.toNat).map (preE x)).find? (fun e => decide (e.1 = [])) = none := by
        rw [List.find?_eq_none]
        intro e he
        obtain ⟨y, hy, he⟩ := List.mem_flatMap.1 he
        obtain ⟨z, _, rfl⟩ := List.mem_map.1 he
        simp [preE]
      rw [if_neg (by simp), if_neg (by simp), hnone]
      rfl
  | c :: t, a, out, ha => by
    obtain ⟨d, hd⟩ : ∃ d, ds[a]? = some d := ⟨ds[a]'ha, List.getElem?_eq_getElem _⟩
    have hfi := (h.fine a d hd).2
    rw [getF_cons hd, left_eq h.fine hd]
    unfold lookE ndE
    rw [List.find?_append]
    have hnone : (if d.fin then [(([] : List UInt8), d.out)] else []).find? (fun e => decide (e.1 = c :: t)) = none := by
      split
      · simp
      · rfl
    rw [hnone, find_ways d.ways (h.can a d hd).asc fun x hx => (hfi x hx).1]
    cases hw : wayBy d.ways (c.toNat : Nat) with
    | none => rfl
    | some x =>
      have hx : x ∈ d.ways := by
        unfold wayBy at hw
        exact List.mem_of_find?_eq_some hw
      have := (hfi x hx).2.2
      show getF ds t x.2.2.toNat (IntKind.i64.wrap (out + x.2.1)) = ((((left ds x.2.2.toNat).find? fun e => decide (e.1 = t)).map (preE x)).map (·.2)).map fun z => IntKind.i64.wrap (out + z)
      rw [getF_left h t _ _ (by omega)]
      unfold lookE
      cases (left ds x.2.2.toNat).find? fun e => decide (e.1 = t) with
      | none => rfl
      | some e =>
        show some (IntKind.i64.wrap (IntKind.i64.wrap (out + x.2.1) + e.2)) = some (IntKind.i64.wrap (out + (x.2.1 + e.2)))
        rw [wrap_wrap, Int.add_assoc]
theorem look_sub (base : Int) (t : List UInt8) (l : List Ent) : lookE (subE 0 base l) t = (lookE l t).map fun z => z - base := by
  unfold lookE subE
  induction l with
  | nil => rfl
  | cons e r ih =>
    rw [List.map_cons, List.find?_cons, List.find?_cons]
    have h1 : decide ((e.1.drop 0) = t) = decide (e.1 = t) := by rw [List.drop_zero]
    simp only at h1 ⊢
    rw [h1]
    cases decide (e.1 = t)
    · exact ih
    · rfl
theorem get_look {l : List Ent} {ds : List Nd} {base : Int} (h : Built l ds base) (hfit : ∀ e ∈ l, fits64 e.2) (t : List UInt8) : getD ds base t = lookE l t := by
  by_cases hne : l = []
  · obtain ⟨h1, _⟩ := h.ok hne
    subst h1
    rw [hne]
    rfl
  · have hds := h.pos.2 hne
    have := List.length_pos_iff.2 hds
    unfold getD
    rw [if_neg hds, getF_left h.inv _ _ _ (by omega), h.root hne, look_sub, Option.map_map]
    cases hl : lookE l t with
    | none => rfl
    | some z =>
      have hz : fits64 z := by
        unfold lookE at hl
        obtain ⟨e, he, rfl⟩ := Option.map_eq_some_iff.1 hl
        exact hfit e (List.mem_of_find?_eq_some he)
      obtain ⟨f0, f1⟩ := hz
      show some (IntKind.i64.wrap (base + (z - base))) = some z
      rw [show base + (z - base) = z by omega, IntWalk.i64_in _ (by omega)]
/-- How many bytes Build writes. -/
theorem buildZ_len {l : List Ent} {ds : List Nd} {base : Int} (h : Built l ds base) : (numsI [(ds.length : Int), base] ++ ds.flatMap writeZ).length ≤ 1099511627776 := by
  have hlen := h.len
  have hn : (numsI [(ds.length : Int), base]).length ≤ 18 := by
    have h1 := (numI_len (z := (ds.length : Int)) ⟨by omega, by omega⟩).2
    have h2 := (numI_len h.bas).2
    simp [numsI]
    omega
  have hw : (ds.flatMap writeZ).length ≤ 6930 * ds.length := by
    have key : ∀ es : List Nd, (∀ d ∈ es, (writeZ d).length ≤ 6930) → (es.flatMap writeZ).length ≤ 6930 * es.length := by
      intro es
      induction es with
      | nil => intro _; simp
      | cons d r ih =>
        intro hh
        have h1 := hh d (List.mem_cons_self ..)
        have h2 := ih fun x hx => hh x (List.mem_cons_of_mem _ hx)
        rw [List.flatMap_cons, List.length_append, List.length_cons]
        omega
    refine key ds fun d hd => ?_
    obtain ⟨i, hi⟩ := List.getElem?_of_mem hd
    obtain ⟨p1, p2⟩ := h.inv.fine i d hi
    have hil := (List.getElem?_eq_some_iff.1 hi).1
    have hfew := asc_few d.ways 0 (h.inv.can i d hi).asc (fun x hx => (p2 x hx).1) (by omega)
    have h1 := (numI_len (z := headZ d) (by unfold headZ pos63; split <;> omega)).2
    have h2 := wayZs_len (l := d.ways) fun x hx => by
      obtain ⟨a, b, c⟩ := p2 x hx
      exact ⟨⟨a.1, by omega⟩, b, c.1, by omega⟩
    have h3 : (if d.fin then numI d.out else []).length ≤ 9 := by
      split
      · exact (numI_len p1).2
      · exact Nat.zero_le _
    unfold writeZ
    rw [List.length_append, List.length_append]
    omega
  rw [List.length_append]
  omega
end Go.Proofs.YtheickndnniomaaDoor
