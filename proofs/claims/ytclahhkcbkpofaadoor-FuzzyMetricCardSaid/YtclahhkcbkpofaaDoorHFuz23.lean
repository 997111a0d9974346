/- A character's first byte tells how many bytes there are; texts that are one character behind another (plain Lean). -/
import Derived.Test.YtclahhkcbkpofaaDoorHFuz22
import Derived.Test.YtclahhkcbkpofaaDoorHFuz1
namespace Go.Proofs.YtclahhkcbkpofaaDoor.Sp

/-- A row's first range tells how long it is. -/
def VOk (r : List (Int × Int)) : Prop := (r.length = 1 ∧ ∀ p, r[0]? = some p → p.2 ≤ 127) ∨ (r.length = 2 ∧ ∀ p, r[0]? = some p → 192 ≤ p.1 ∧ p.2 ≤ 223) ∨ (r.length = 3 ∧ ∀ p, r[0]? = some p → 224 ≤ p.1 ∧ p.2 ≤ 239) ∨ (r.length = 4 ∧ ∀ p, r[0]? = some p → 240 ≤ p.1)
theorem leaf_v {lo hi : Int} (h : lo ≤ hi) (hk : Cls lo hi) : VOk (leafC lo hi) := by
  rcases leaf_case h hk with ⟨a, b, e⟩ | ⟨a, b, e⟩ | ⟨a, b, e⟩ | ⟨a, b, e⟩ <;> rw [e]
  · exact .inl ⟨rfl, fun p hp => by injection hp with hp; subst hp; simp only; omega⟩
  · exact .inr (.inl ⟨rfl, fun p hp => by injection hp with hp; subst hp; simp only; omega⟩)
  · exact .inr (.inr (.inl ⟨rfl, fun p hp => by injection hp with hp; subst hp; simp only; omega⟩))
  · exact .inr (.inr (.inr ⟨rfl, fun p hp => by injection hp with hp; subst hp; simp only; omega⟩))
theorem rows_v {lo hi : Int} (h : lo ≤ hi) (hk : Cls lo hi) : ∀ r ∈ rowsP lo hi, VOk r := by
  refine rows_ind (motive := fun lo hi => ∀ r ∈ rowsP lo hi, VOk r) ?_ ?_ lo hi h hk
  · intro lo hi c h1 hk hc h2 h3 a b r hr
    rw [rowsP_cut h1 hc, List.mem_append] at hr
    exact hr.elim (a r) (b r)
  · intro lo hi h1 hk hc r hr
    rw [rowsP_leaf hc, List.mem_singleton] at hr
    subst hr
    exact leaf_v h1 hk
theorem part_v {lo hi x y : Int} (hc : ∀ a b, x ≤ a → b ≤ y → Cls a b) : ∀ r ∈ part lo hi x y, VOk r := by
  unfold part
  split
  · intro r hr
    exact rows_v ‹_› (hc _ _ (by omega) (by omega)) r hr
  · intro r hr; cases hr
theorem all_parts0 (lo hi : Int) : allP lo hi = part (max lo 0) (min hi 1114111) 0 127 ++ (part (max lo 0) (min hi 1114111) 128 2047 ++ (part (max lo 0) (min hi 1114111) 2048 55295 ++ (part (max lo 0) (min hi 1114111) 57344 65535 ++ part (max lo 0) (min hi 1114111) 65536 1114111))) := by
  unfold allP upto
  simp
theorem all_v (lo hi : Int) : ∀ r ∈ allP lo hi, VOk r := by
  intro r hr
  rw [all_parts0] at hr
  simp only [List.mem_append] at hr
  rcases hr with h | h | h | h | h
  · exact part_v (fun a b h1 h2 => by unfold Cls; omega) r h
  · exact part_v (fun a b h1 h2 => by unfold Cls; omega) r h
  · exact part_v (fun a b h1 h2 => by unfold Cls; omega) r h
  · exact part_v (fun a b h1 h2 => by unfold Cls; omega) r h
  · exact part_v (fun a b h1 h2 => by unfold Cls; omega) r h
/-- One character's range has one row at most. -/
theorem all_one (c : Int) : (allP c c).length ≤ 1 := by
  have k : ∀ c : Int, rowsP c c = [leafC c c] := fun c => rowsP_leaf (by
    unfold cutC
    simp)
  have p : ∀ x y : Int, (part (max c 0) (min c 1114111) x y).length = if x ≤ c ∧ c ≤ y ∧ 0 ≤ c ∧ c ≤ 1114111 then 1 else 0 := fun x y => by
    unfold part
    split
    · rename_i h
      rw [show max (max c 0) x = c by omega, show min (min c 1114111) y = c by omega, k, if_pos (by omega)]
      rfl
    · rw [if_neg (by omega)]
      rfl
  rw [all_parts0]
  simp only [List.length_append, p]
  repeat' split
  all_goals omega
end Go.Proofs.YtclahhkcbkpofaaDoor.Sp
namespace Go.Proofs.YtclahhkcbkpofaaDoor
open Sp
/-- How many bytes a first byte wants. -/
def szN (b : Nat) : Nat := if b < 192 then 1 else if b < 224 then 2 else if b < 240 then 3 else 4
def Seg (u : List Nat) : Prop := ∃ b t, u = b :: t ∧ (b :: t).length = szN b
def Prt (u : List Nat) : Prop := ∃ b t, u = b :: t ∧ (b :: t).length < szN b
theorem vok_sz {r : List (Int × Int)} (h : VOk r) {p : Int × Int} {b : Nat} (hp : r[0]? = some p) (h1 : p.1 ≤ (b : Int)) (h2 : (b : Int) ≤ p.2) : r.length = szN b := by
  unfold szN
  rcases h with ⟨e, k⟩ | ⟨e, k⟩ | ⟨e, k⟩ | ⟨e, k⟩ <;> have := k p hp <;> rw [e]
  · rw [if_pos (by omega)]
  · rw [if_neg (by omega), if_pos (by omega)]
  · rw [if_neg (by omega), if_neg (by omega), if_pos (by omega)]
  · rw [if_neg (by omega), if_neg (by omega), if_neg (by omega)]
theorem fit_seg {lo hi : Int} {r : List (Int × Int)} (hr : r ∈ allP lo hi) {u : List Nat} (hf : fitN r u) : Seg u := by
  have hl := fitN_len hf
  cases r with
  | nil => exact absurd rfl (all_ne lo hi _ hr)
  | cons p r =>
    cases u with
    | nil => exact hf.elim
    | cons b t => exact ⟨b, t, rfl, by rw [← hl]; exact vok_sz (all_v lo hi _ hr) (p := p) rfl hf.1 hf.2.1⟩
theorem enc_seg {c : Int} (hw : wholeB c = true) : Seg (encN c) := by
  rcases enc_head hw with ⟨_, _, e⟩ | ⟨_, _, a, b, e, _⟩ | ⟨_, _, a, b, d, e, _⟩ | ⟨_, _, a, b, d, f, e, _⟩ <;> rw [e] <;> refine ⟨_, _, rfl, ?_⟩ <;> unfold szN
  · rw [if_pos (by omega)]; rfl
  · rw [if_neg (by omega), if_pos (by omega)]; rfl
  · rw [if_neg (by omega), if_neg (by omega), if_pos (by omega)]; rfl
  · rw [if_neg (by omega), if_neg (by omega), if_neg (by omega)]; rfl
theorem mid_prt {lo hi : Int} {u : List Nat} {y : Nat} : ∀ {rs' : List (List (Int × Int))} {N : Nat}, (∀ r ∈ rs', r ∈ allP lo hi) → midsP N rs' u y → Prt u
  | [], _, _, h => h.elim
  | r :: rs', N, hs, h => by
    rcases h with ⟨h1, h2, _, h4⟩ | h
    · have hrm := hs r (List.mem_cons_self ..)
      cases u with
      | nil => simp at h1
      | cons b t =>
        cases r with
        | nil => simp at h2
        | cons p r =>
          have h5 : fitN (p :: r.take t.length) (b :: t) := h4
          refine ⟨b, t, rfl, ?_⟩
          rw [← vok_sz (all_v lo hi _ hrm) (p := p) (b := b) rfl h5.1 h5.2.1]
          exact h2
    · exact mid_prt (fun r h => hs r (List.mem_cons_of_mem _ h)) h
theorem seg_eq {u v a b : List Nat} (hu : Seg u) (hv : Seg v) (h : u ++ a = v ++ b) : u = v ∧ a = b := by
  obtain ⟨x, t, rfl, h1⟩ := hu
  obtain ⟨y, s, rfl, h2⟩ := hv
  have e : x = y := by
    simp only [List.cons_append] at h
    injection h
  subst e
  exact List.append_inj h (h1.trans h2.symm)
theorem seg_prt {u a v : List Nat} (hu : Seg u) (hv : Prt v) (h : u ++ a = v) : False := by
  obtain ⟨x, t, rfl, h1⟩ := hu
  obtain ⟨y, s, rfl, h2⟩ := hv
  have e : x = y := by
    simp only [List.cons_append] at h
    injection h
  subst e
  have := congrArg List.length h
  rw [List.length_append] at this
  omega
theorem seg_ne {u : List Nat} (h : Seg u) : u ≠ [] := by
  obtain ⟨b, t, rfl, _⟩ := h
  simp
theorem prt_ne {u : List Nat} (h : Prt u) : u ≠ [] := by
  obtain ⟨b, t, rfl, _⟩ := h
  simp
/-! ### One character behind another -/
abbrev Rowss := List (List (List (Int × Int)))
def Sg : Rowss → List Nat → Prop
  | [], t => t = []
  | rs :: rss, t => ∃ u v, t = u ++ v ∧ (∃ r ∈ rs, fitN r u) ∧ Sg rss v
/-- Rows of ranges, each of characters. -/
def OkR (rss : Rowss) : Prop := ∀ rs ∈ rss, ∃ lo hi, rs = allP lo hi
theorem OkR.head {rs : List (List (Int × Int))} {rss : Rowss} (h : OkR (rs :: rss)) : ∃ lo hi, rs = allP lo hi := h rs (List.mem_cons_self ..)
theorem OkR.tail {rs : List (List (Int × Int))} {rss : Rowss} (h : OkR (rs :: rss)) : OkR rss := fun x hx => h x (List.mem_cons_of_mem _ hx)
theorem OkR.seg {rs : List (List (Int × Int))} {rss : Rowss} (h : OkR (rs :: rss)) {u : List Nat} (hf : ∃ r ∈ rs, fitN r u) : Seg u := by
  obtain ⟨lo, hi, rfl⟩ := h.head
  obtain ⟨r, hr, hf⟩ := hf
  exact fit_seg hr hf
/-- Where a text has come to: so many characters, and something of the next. -/
theorem at_one : ∀ {rss : Rowss}, OkR rss → ∀ {k k' : Nat} {a b u v : List Nat}, k ≤ rss.length → k' ≤ rss.length → Sg (rss.take k) a → Sg (rss.take k') b → (u = [] ∨ Prt u) → (v = [] ∨ Prt v) → a ++ u = b ++ v → k = k' ∧ a = b ∧ u = v
  | [], _, k, k', a, b, u, v, hk, hk', ha, hb, _, _, h => by
    rw [List.take_nil] at ha hb
    have ha : a = [] := ha
    have hb : b = [] := hb
    subst ha hb
    simp only [List.length_nil] at hk hk'
    exact ⟨by omega, rfl, h⟩
  | rs :: rss, hr, 0, 0, a, b, u, v, _, _, ha, hb, _, _, h => by
    have ha : a = [] := ha
    have hb : b = [] := hb
    subst ha hb
    exact ⟨rfl, rfl, h⟩
  | rs :: rss, hr, 0, k' + 1, a, b, u, v, _, _, ha, hb, hu, _, h => by
    have ha : a = [] := ha
    subst ha
    obtain ⟨x, y, rfl, hx, _⟩ := hb
    have hs := hr.seg hx
    rcases hu with rfl | hu
    · exfalso
      rw [List.append_assoc] at h
      exact seg_ne hs (List.append_eq_nil_iff.1 h.symm).1
    · exfalso
      rw [List.append_assoc] at h
      exact seg_prt hs hu h.symm
  | rs :: rss, hr, k + 1, 0, a, b, u, v, _, _, ha, hb, _, hv, h => by
    have hb : b = [] := hb
    subst hb
    obtain ⟨x, y, rfl, hx, _⟩ := ha
    have hs := hr.seg hx
    rcases hv with rfl | hv
    · exfalso
      rw [List.append_assoc] at h
      exact seg_ne hs (List.append_eq_nil_iff.1 h).1
    · exfalso
      rw [List.append_assoc] at h
      exact seg_prt hs hv h
  | rs :: rss, hr, k + 1, k' + 1, a, b, u, v, hk, hk', ha, hb, hu, hv, h => by
    obtain ⟨x, y, rfl, hx, hy⟩ := ha
    obtain ⟨x', y', rfl, hx', hy'⟩ := hb
    rw [List.append_assoc, List.append_assoc] at h
    obtain ⟨rfl, h2⟩ := seg_eq (hr.seg hx) (hr.seg hx') h
    obtain ⟨rfl, rfl, rfl⟩ := at_one hr.tail (by simpa using hk) (by simpa using hk') hy hy' hu hv h2
    exact ⟨rfl, rfl, rfl⟩
/-- Behind all characters a text comes to none of the earlier places. -/
theorem at_end : ∀ {rss : Rowss}, OkR rss → ∀ {k : Nat} {a b u v : List Nat}, k < rss.length → Sg (rss.take k) a → (u = [] ∨ Prt u) → Sg rss b → a ++ u = b ++ v → False
  | [], _, k, _, _, _, _, hk, _, _, _, _ => by simp at hk
  | rs :: rss, hr, 0, a, b, u, v, _, ha, hu, hb, h => by
    have ha : a = [] := ha
    subst ha
    obtain ⟨x, y, rfl, hx, _⟩ := hb
    have hs := hr.seg hx
    rw [List.append_assoc] at h
    rcases hu with rfl | hu
    · exact seg_ne hs (List.append_eq_nil_iff.1 h.symm).1
    · exact seg_prt hs hu h.symm
  | rs :: rss, hr, k + 1, a, b, u, v, hk, ha, hu, hb, h => by
    obtain ⟨x, y, rfl, hx, hy⟩ := ha
    obtain ⟨x', y', rfl, hx', hy'⟩ := hb
    rw [List.append_assoc, List.append_assoc] at h
    obtain ⟨rfl, h2⟩ := seg_eq (hr.seg hx) (hr.seg hx') h
    exact at_end hr.tail (by simpa using hk) hy hu hy' h2
/-! ### Of characters' bytes -/
/-- Ranges of characters. -/
def rowsOf (q : List (Int × Int)) : Rowss := q.map fun p => allP p.1 p.2
theorem rowsOf_ok (q : List (Int × Int)) : OkR (rowsOf q) := fun rs h => by
  obtain ⟨p, _, rfl⟩ := List.mem_map.1 h
  exact ⟨_, _, rfl⟩
/-- Characters within ranges, one for one, at the beginning. -/
def fitQ : List (Int × Int) → List Int → Prop
  | [], _ => True
  | p :: q, c :: l => p.1 ≤ c ∧ c ≤ p.2 ∧ fitQ q l
  | _, _ => False
theorem sg_begins : ∀ (q : List (Int × Int)) {l : List Int}, (∀ c ∈ l, wholeB c = true) → ((∃ u v, encs l = u ++ v ∧ Sg (rowsOf q) u) ↔ fitQ q l)
  | [], l, _ => ⟨fun _ => trivial, fun _ => ⟨[], encs l, rfl, rfl⟩⟩
  | p :: q, [], _ => by
    refine ⟨?_, False.elim⟩
    rintro ⟨u, v, h, x, y, rfl, hx, _⟩
    rw [List.append_assoc] at h
    exact seg_ne ((rowsOf_ok (p :: q)).seg hx) (List.append_eq_nil_iff.1 h.symm).1
  | p :: q, c :: l, hw => by
    have hc := hw c (List.mem_cons_self ..)
    have hl := fun d hd => hw d (List.mem_cons_of_mem c hd)
    have e : encs (c :: l) = encN c ++ encs l := rfl
    have hf : (∃ r ∈ allP p.1 p.2, fitN r (encN c)) ↔ p.1 ≤ c ∧ c ≤ p.2 := all_fits hc
    rw [e]
    show _ ↔ p.1 ≤ c ∧ c ≤ p.2 ∧ fitQ q l
    rw [← and_assoc, ← hf, ← sg_begins q hl]
    constructor
    · rintro ⟨u, v, h, x, y, rfl, hx, hy⟩
      rw [List.append_assoc] at h
      obtain ⟨rfl, h2⟩ := seg_eq (enc_seg hc) ((rowsOf_ok (p :: q)).seg hx) h
      exact ⟨hx, y, v, h2, hy⟩
    · rintro ⟨hx, y, v, h, hy⟩
      exact ⟨encN c ++ y, v, by rw [h, List.append_assoc], _, _, rfl, hx, hy⟩
theorem sg_all : ∀ (q : List (Int × Int)) {l : List Int}, (∀ c ∈ l, wholeB c = true) → (Sg (rowsOf q) (encs l) ↔ l.length = q.length ∧ fitQ q l)
  | [], [], _ => ⟨fun _ => ⟨rfl, trivial⟩, fun _ => rfl⟩
  | [], c :: l, hw => by
    constructor
    · intro h
      have h : encN c ++ encs l = [] := h
      exact absurd (List.append_eq_nil_iff.1 h).1 (seg_ne (enc_seg (hw c (List.mem_cons_self ..))))
    · rintro ⟨h, _⟩
      simp at h
  | p :: q, [], _ => by
    refine ⟨?_, fun h => h.2.elim⟩
    rintro ⟨x, y, h, hx, _⟩
    exact absurd (List.append_eq_nil_iff.1 h.symm).1 (seg_ne ((rowsOf_ok (p :: q)).seg hx))
  | p :: q, c :: l, hw => by
    have hc := hw c (List.mem_cons_self ..)
    have hl := fun d hd => hw d (List.mem_cons_of_mem c hd)
    have e : encs (c :: l) = encN c ++ encs l := rfl
    have hf : (∃ r ∈ allP p.1 p.2, fitN r (encN c)) ↔ p.1 ≤ c ∧ c ≤ p.2 := all_fits hc
    have ih := sg_all q hl
    rw [e]
    constructor
    · rintro ⟨x, y, h, hx, hy⟩
      obtain ⟨rfl, rfl⟩ := seg_eq (enc_seg hc) ((rowsOf_ok (p :: q)).seg hx) h
      obtain ⟨h1, h2⟩ := ih.1 hy
      obtain ⟨h3, h4⟩ := hf.1 hx
      exact ⟨by rw [List.length_cons, List.length_cons, h1], h3, h4, h2⟩
    · rintro ⟨h1, h2, h3, h4⟩
      exact ⟨encN c, encs l, rfl, hf.2 ⟨h2, h3⟩, ih.2 ⟨by simpa using h1, h4⟩⟩
end Go.Proofs.YtclahhkcbkpofaaDoor
/- A range's characters between two states: which texts are taken, how few sets are met (plain Lean). -/
namespace Go.Proofs.YtclahhkcbkpofaaDoor
open Sp

def noE : Edge := fun _ _ _ => False
theorem noE_way {E : Edge} {x y : Nat} {t : List Nat} : Way (orE E noE) x t y ↔ Way E x t y := Way.iff fun _ _ _ => ⟨fun h => h.elim id False.elim, .inl⟩
theorem noE_in (n : Nat) : InE noE n := fun _ _ _ h => h.elim
theorem orE_no {E F : Edge} {x y : Nat} {t : List Nat} : Way (orE E (orE F noE)) x t y ↔ Way (orE E F) x t y := Way.iff fun _ _ _ => ⟨fun h => h.elim .inl fun h => h.elim .inr False.elim, fun h => h.elim .inl fun h => .inr (.inl h)⟩
/-- Ways of old states, and into the midst. -/
theorem rows_way {l : List Lst} {a b : Nat} {rs : List (List (Int × Int))} (hne : ∀ r ∈ rs, r ≠ []) (ha : a < l.length) (hb : b < l.length) (hl : InE (edgeL l) l.length) {x z : Nat} {s : List Nat} (hx : x < l.length) (hz : z < l.length) :
    Way (edgeL (leadRows l a b rs)) x s z ↔ Way (orE (edgeL l) (oneE a b fun t => ∃ r ∈ rs, fitN r t)) x s z := by
  rw [← noE_way, leadRows_way rs l a b noE hne ha hb hl (noE_in _) hx hz, orE_no]
theorem rows_mid {l : List Lst} {a b : Nat} {rs : List (List (Int × Int))} (ha : a < l.length) (hb : b < l.length) (hl : InE (edgeL l) l.length) {x y : Nat} {t : List Nat} (hx : x < l.length) (hy : l.length ≤ y) :
    Way (edgeL (leadRows l a b rs)) x t y ↔ ∃ t' u, t = t' ++ u ∧ Way (edgeL (leadRows l a b rs)) x t' a ∧ midsP l.length rs u y := by
  rw [← noE_way, mids_way ha hb hl (noE_in _) hx hy]
  constructor
  · rintro ⟨t', u, h1, h2, h3⟩
    exact ⟨t', u, h1, noE_way.1 h2, h3⟩
  · rintro ⟨t', u, h1, h2, h3⟩
    exact ⟨t', u, h1, noE_way.2 h2, h3⟩
/-! ### Which states are final -/
theorem addArc_fin (l : List Lst) (x : Nat) (a : Arc3) : (addArc l x a).map (·.fin) = l.map (·.fin) := by
  apply List.ext_getElem?
  intro j
  rw [List.getElem?_map, List.getElem?_map]
  by_cases e : x = j
  · subst e
    cases h : l[x]? with
    | none =>
      rw [List.getElem?_eq_none (by rw [addArc_len]; exact List.getElem?_eq_none_iff.1 h)]
    | some s => rw [addArc_at _ h]; rfl
  · rw [addArc_ne _ e]
theorem leadRow_fin : ∀ (r : List (Int × Int)) (l : List Lst) (a b : Nat), (leadRow l a b r).map (·.fin) = l.map (·.fin) ++ List.replicate (r.length - 1) false
  | [], l, a, b => by simp [leadRow]
  | [p], l, a, b => by
    have := addArc_fin l a (p.1, p.2, (b : Int))
    simp [leadRow, this]
  | p :: q :: r, l, a, b => by
    rw [leadRow, leadRow_fin (q :: r), addArc_fin, List.map_append, List.append_assoc]
    simp only [List.length_cons, Nat.add_sub_cancel, List.map_cons, List.map_nil]
    rfl
theorem leadRows_fin : ∀ (rs : List (List (Int × Int))) (l : List Lst) (a b : Nat), (leadRows l a b rs).map (·.fin) = l.map (·.fin) ++ List.replicate (midsN rs) false
  | [], l, a, b => by simp [leadRows, midsN]
  | r :: rs, l, a, b => by
    show (leadRows (leadRow l a b r) a b rs).map (·.fin) = _
    rw [leadRows_fin rs, leadRow_fin, List.append_assoc, midsN, List.replicate_append_replicate]
theorem fin_iff {l : List Lst} {a b : Nat} {rs : List (List (Int × Int))} {z : Nat} : (∃ s, (leadRows l a b rs)[z]? = some s ∧ s.fin = true) ↔ ∃ s, l[z]? = some s ∧ s.fin = true := by
  have k : ∀ (m : List Lst), (∃ s, m[z]? = some s ∧ s.fin = true) ↔ (m.map (·.fin))[z]? = some true := fun m => by
    rw [List.getElem?_map]
    exact Option.map_eq_some_iff.symm
  rw [k, k, leadRows_fin]
  by_cases h : z < (l.map (·.fin)).length
  · rw [List.getElem?_append_left h]
  · rw [List.getElem?_append_right (by omega), List.getElem?_eq_none (l := l.map (·.fin)) (by omega), List.getElem?_replicate]
    split
    · simp
    · simp
/-! ### A state that a range leads from, and an end -/
def endS : Lst := ⟨true, [], []⟩
theorem one_way {old : Lst} {P : List Nat → Prop} {x z : Nat} {s : List Nat} (h : Way (orE (edgeL [old, endS]) (oneE 0 1 P)) x s z) : Way (edgeL [old, endS]) x s z ∨ ∃ p r, s = p ++ r ∧ P r ∧ z = 1 := by
  induction h with
  | nil x => exact .inl (.nil x)
  | @cons x y z t u h1 h2 ih =>
    rcases h1 with h1 | ⟨rfl, rfl, hp⟩
    · rcases ih with ih | ⟨p, r, rfl, hr, hz⟩
      · exact .inl (.cons h1 ih)
      · exact .inr ⟨t ++ p, r, by rw [List.append_assoc], hr, hz⟩
    · have key : ∀ {v z : Nat} {u : List Nat}, Way (orE (edgeL [old, endS]) (oneE 0 1 P)) v u z → v = 1 → u = [] ∧ z = 1 := by
        intro v z u h
        cases h with
        | nil => exact fun e => ⟨rfl, e⟩
        | cons h1 _ =>
          rintro rfl
          exfalso
          rcases h1 with ⟨s, hs, h1⟩ | ⟨h1, _⟩
          · simp at hs
            subst hs
            rcases h1 with ⟨_, h1⟩ | ⟨_, _, a, h1, _⟩
            · cases h1
            · cases h1
          · omega
      obtain ⟨rfl, rfl⟩ := key h2 rfl
      exact .inr ⟨[], t, by simp, hp, rfl⟩
/-- What the states take that a range's characters lead through: of a character's bytes. -/
theorem lead_takes {old : Lst} {lo hi c : Int} (hl : InE (edgeL [old, endS]) 2) (hw : wholeB c = true) :
    (∃ z s, (leadRows [old, endS] 0 1 (allP lo hi))[z]? = some s ∧ s.fin = true ∧ Way (edgeL (leadRows [old, endS] 0 1 (allP lo hi))) 0 (encN c) z) ↔ (∃ z s, ([old, endS] : List Lst)[z]? = some s ∧ s.fin = true ∧ Way (edgeL [old, endS]) 0 (encN c) z) ∨ (lo ≤ c ∧ c ≤ hi) := by
  have hr := all_ne lo hi
  have hz2 : ∀ {z : Nat} {s : Lst}, ([old, endS] : List Lst)[z]? = some s → z < 2 := fun h => by have := (List.getElem?_eq_some_iff.1 h).1; simpa using this
  constructor
  · rintro ⟨z, s, h1, h2, h3⟩
    obtain ⟨s0, h4, h5⟩ := fin_iff.1 ⟨s, h1, h2⟩
    rw [rows_way (l := [old, endS]) hr (by simp) (by simp) hl (by simp) (by simpa using hz2 h4)] at h3
    rcases one_way h3 with h3 | ⟨p, r, he, hf, rfl⟩
    · exact .inl ⟨z, s0, h4, h5, h3⟩
    · refine .inr ?_
      obtain ⟨d, t, ed, ht⟩ := encN_tail (whole_of hw).1
      obtain ⟨c0, t0, rfl, hc0⟩ := fit_head hf
      cases p with
      | nil =>
        rw [List.nil_append] at he
        rw [← he] at hf
        exact (all_fits hw).1 hf
      | cons p0 p =>
        exfalso
        rw [ed] at he
        injection he with _ he
        have := ht c0 (by rw [he]; simp)
        omega
  · rintro (⟨z, s, h1, h2, h3⟩ | h)
    · obtain ⟨s', h4, h5⟩ := (fin_iff (a := 0) (b := 1) (rs := allP lo hi)).2 ⟨s, h1, h2⟩
      refine ⟨z, s', h4, h5, ?_⟩
      rw [rows_way (l := [old, endS]) hr (by simp) (by simp) hl (by simp) (by simpa using hz2 h1)]
      exact h3.mono fun _ _ _ h => .inl h
    · obtain ⟨s', h4, h5⟩ := (fin_iff (l := [old, endS]) (z := 1) (a := 0) (b := 1) (rs := allP lo hi)).2 ⟨endS, rfl, rfl⟩
      refine ⟨1, s', h4, h5, ?_⟩
      rw [rows_way (l := [old, endS]) hr (by simp) (by simp) hl (by simp) (by simp)]
      exact .one (.inr ⟨rfl, rfl, (all_fits hw).2 h⟩)
open Classical in
/-- Sets that may be met. -/
noncomputable def candL (n : Nat) (rs : List (List (Int × Int))) : List (List Int) :=
  [(true, true), (true, false), (false, true), (false, false)].flatMap fun ab => (candsU rs).map fun m => setL n fun y => (y = 0 ∧ ab.1 = true) ∨ (y = 1 ∧ ab.2 = true) ∨ ∃ u, m = some u ∧ midsP 2 rs u y
open Classical in
theorem lead_few {old : Lst} {lo hi : Int} (hl : InE (edgeL [old, endS]) 2) (f : Nat) :
    ((subW (leadRows [old, endS] 0 1 (allP lo hi))).run f 0 [setL (leadRows [old, endS] 0 1 (allP lo hi)).length (Clo (leadRows [old, endS] 0 1 (allP lo hi)) fun x => x = 0)]).length ≤ 20000 := by
  have hr := all_rowsU lo hi
  generalize allP lo hi = rs at *
  have hlen := leadRows_len rs [old, endS] 0 1
  obtain ⟨L, hL⟩ : ∃ L, leadRows [old, endS] 0 1 rs = L := ⟨_, rfl⟩
  have hmid : ∀ (t : List Nat) (y : Nat), 2 ≤ y → (Way (edgeL L) 0 t y ↔ ∃ t' u, t = t' ++ u ∧ Way (edgeL L) 0 t' 0 ∧ midsP 2 rs u y) := fun t y hy => by
    rw [← hL]
    exact rows_mid (l := [old, endS]) (by simp) (by simp) hl (by simp) hy
  rw [hL]
  refine Nat.le_trans (met_few (candL L.length rs) (fun t => ?_) f) ?_
  · have hset : ∀ m : Option (List Nat), m ∈ candsU rs → (∀ y, 2 ≤ y → (Way (edgeL L) 0 t y ↔ ∃ u, m = some u ∧ midsP 2 rs u y)) → setL L.length (fun y => Way (edgeL L) 0 t y) ∈ candL L.length rs := fun m hm h => by
      unfold candL
      rw [List.mem_flatMap]
      refine ⟨(decide (Way (edgeL L) 0 t 0), decide (Way (edgeL L) 0 t 1)), ?_, List.mem_map.2 ⟨m, hm, ?_⟩⟩
      · cases decide (Way (edgeL L) 0 t 0) <;> cases decide (Way (edgeL L) 0 t 1) <;> simp
      · refine setL_congr fun y hy => ?_
        have hno : ∀ y : Nat, y < 2 → ¬ ∃ u, m = some u ∧ midsP 2 rs u y := fun y hy ⟨u, _, hu⟩ => by
          have := (midsP_in hu).1
          omega
        by_cases h2 : 2 ≤ y
        · rw [h y h2]
          constructor
          · rintro (⟨rfl, _⟩ | ⟨rfl, _⟩ | h3)
            · omega
            · omega
            · exact h3
          · exact fun h3 => .inr (.inr h3)
        · obtain rfl | rfl : y = 0 ∨ y = 1 := by omega
          · constructor
            · rintro (⟨_, h3⟩ | ⟨h3, _⟩ | h3)
              · exact of_decide_eq_true h3
              · cases h3
              · exact absurd h3 (hno 0 (by omega))
            · exact fun h3 => .inl ⟨rfl, decide_eq_true h3⟩
          · constructor
            · rintro (⟨h3, _⟩ | ⟨_, h3⟩ | h3)
              · cases h3
              · exact of_decide_eq_true h3
              · exact absurd h3 (hno 1 (by omega))
            · exact fun h3 => .inr (.inl ⟨rfl, decide_eq_true h3⟩)
    by_cases he : ∃ t' u, t = t' ++ u ∧ Shp u ∧ u.length ≤ 3 ∧ Way (edgeL L) 0 t' 0
    · obtain ⟨t', u, rfl, hs, hu3, hw⟩ := he
      have hu0 : 0 < u.length := by
        cases u with
        | nil => exact hs.elim
        | cons _ _ => simp
      refine hset (some (repU (cutsU rs u.length) u)) ?_ fun y hy => ?_
      · unfold candsU
        refine List.mem_cons_of_mem _ (List.mem_map_of_mem ?_)
        have hm := prodL_mem (cs := cutsU rs u.length) (u := u) (cutsU_len rs u.length) fun c hc => by
          unfold cutsU at hc
          obtain ⟨k, _, rfl⟩ := List.mem_map.1 hc
          exact List.mem_cons_self ..
        have h3 : u.length = 1 ∨ u.length = 2 ∨ u.length = 3 := by omega
        rw [List.mem_append, List.mem_append]
        rcases h3 with h3 | h3 | h3 <;> rw [h3] at hm ⊢
        · exact .inl (.inl hm)
        · exact .inl (.inr hm)
        · exact .inr hm
      · rw [hmid _ y hy]
        constructor
        · rintro ⟨t'', u'', h1, h2, h3⟩
          obtain ⟨h4, _⟩ := mids_shape hr (fun r h => h) h3
          obtain ⟨rfl, rfl⟩ := shape_one hs h4 h1
          exact ⟨_, rfl, (mids_rep hr.ok fun r h => h).1 h3⟩
        · rintro ⟨v, hv, h3⟩
          injection hv with hv
          rw [← hv] at h3
          exact ⟨t', u, rfl, hw, (mids_rep hr.ok fun r h => h).2 h3⟩
    · refine hset none (List.mem_cons_self ..) fun y hy => ?_
      rw [hmid _ y hy]
      constructor
      · rintro ⟨t', u, h1, h2, h3⟩
        obtain ⟨h4, h5⟩ := mids_shape hr (fun r h => h) h3
        exact absurd ⟨t', u, h1, h4, h5, h2⟩ he
      · rintro ⟨u, hu, _⟩
        cases hu
  · have h1 := candsU_len hr
    unfold candL
    rw [flat_const _ (candsU rs).length fun x => List.length_map ..]
    simp only [List.length_cons, List.length_nil]
    omega
end Go.Proofs.YtclahhkcbkpofaaDoor
/- The loops of a function's body, in their order: to prove a loop as a theorem of its own. -/
namespace Go.Proofs.YtclahhkcbkpofaaDoor
def loopsC : Code → List Code
  | .loop c => c :: loopsC c
  | .seq a b => loopsC a ++ loopsC b
  | .block _ c => loopsC c
  | .scope c => loopsC c
  | .cond _ a b => loopsC a ++ loopsC b
  | _ => []
noncomputable def loopOf (f : Func) (k : Nat) : Code := ((loopsC (f.body.getD .skip))[k]?).getD .skip
/-- A region of a function's body, by its number. -/
def regC (k : Nat) : Code → Option Code
  | .region i o d => if i == k then some (.region i o d) else none
  | .seq a b => match regC k a with
    | some c => some c
    | none => regC k b
  | .cond _ a b => match regC k a with
    | some c => some c
    | none => regC k b
  | .block _ c => regC k c
  | .loop c => regC k c
  | .scope c => regC k c
  | _ => none
noncomputable def regOf (f : Func) (k : Nat) : Code := (f.body.bind (regC k)).getD .skip
end Go.Proofs.YtclahhkcbkpofaaDoor
