/- A character's first byte tells how many bytes there are; texts that are one character behind another (plain Lean). -/
import Derived.Test.YtclahhkcbkpofaaDoorHWd38
namespace Go.Proofs.YtclahhkcbkpofaaDoor.Sp
/-- A row's first range tells how long it is. -/
def VOk (r : List (Int × Int)) : Prop := (r.length = 1 ∧ ∀ p, r[0]? = some p → p.2 ≤ 127) ∨ (r.length = 2 ∧ ∀ p, r[0]? = some p → 192 ≤ p.1 ∧ p.2 ≤ 223) ∨ (r.length = 3 ∧ ∀ p, r[0]? = some p → 224 ≤ p.1 ∧ p.2 ≤ 239) ∨ (r.length = 4 ∧ ∀ p, r[0]? = some p → 240 ≤ p.1)
theorem leaf_v {lo hi : Int} (h : lo ≤ hi) (hk : Cls lo hi) : VOk (leafC lo hi) := by
  rcases leaf_case h hk with ⟨a, b, e⟩ | ⟨a, b, e⟩ | ⟨a, b, e⟩ | ⟨a, b, e⟩ <;> rw [e]
  · exact .inl ⟨rfl, fun p hp => by injection hp with hp; subst hp; simp only; omega⟩
  · exact .inr (.inl ⟨rfl, fun p hp => by injection hp with hp; subst hp; simp only; omega⟩)
  · exact .inr (.inr (.inl ⟨rfl, fun p hp => by injection hp with hp; subst hp; simp only; omega⟩))
  · exact .inr (.inr (.inr ⟨rfl, fun p hp => by injection hp with hp; subst hp; simp only; omega⟩))
theorem rows_v {lo hi : Int} (h : lo ≤ hi) (hk : Cls lo hi) : ∀ r ∈ rowsP lo hi, VOk r := by
  refine rows_ind (motive := fun lo hi => ∀ r ∈ rowsP lo hi, VOk r) ?_ ?_ lo hi h hk
  · intro lo hi c h1 hk hc h2 h3 a b r hr
    rw [rowsP_cut h1 hc, List.mem_append] at hr
    exact hr.elim (a r) (b r)
  · intro lo hi h1 hk hc r hr
    rw [rowsP_leaf hc, List.mem_singleton] at hr
    subst hr
    exact leaf_v h1 hk
theorem part_v {lo hi x y : Int} (hc : ∀ a b, x ≤ a → b ≤ y → Cls a b) : ∀ r ∈ part lo hi x y, VOk r := by
  unfold part
  split
  · intro r hr
    exact rows_v ‹_› (hc _ _ (by omega) (by omega)) r hr
  · intro r hr; cases hr
theorem all_parts0 (lo hi : Int) : allP lo hi = part (max lo 0) (min hi 1114111) 0 127 ++ (part (max lo 0) (min hi 1114111) 128 2047 ++ (part (max lo 0) (min hi 1114111) 2048 55295 ++ (part (max lo 0) (min hi 1114111) 57344 65535 ++ part (max lo 0) (min hi 1114111) 65536 1114111))) := by
  unfold allP upto
  simp
theorem all_v (lo hi : Int) : ∀ r ∈ allP lo hi, VOk r := by
  intro r hr
  rw [all_parts0] at hr
  simp only [List.mem_append] at hr
  rcases hr with h | h | h | h | h
  · exact part_v (fun a b h1 h2 => by unfold Cls; omega) r h
  · exact part_v (fun a b h1 h2 => by unfold Cls; omega) r h
  · exact part_v (fun a b h1 h2 => by unfold Cls; omega) r h
  · exact part_v (fun a b h1 h2 => by unfold Cls; omega) r h
  · exact part_v (fun a b h1 h2 => by unfold Cls; omega) r h
/-- One character's range has one row at most. -/
theorem all_one (c : Int) : (allP c c).length ≤ 1 := by
  have k : ∀ c : Int, rowsP c c = [leafC c c] := fun c => rowsP_leaf (by
    unfold cutC
    simp)
  have p : ∀ x y : Int, (part (max c 0) (min c 1114111) x y).length = if x ≤ c ∧ c ≤ y ∧ 0 ≤ c ∧ c ≤ 1114111 then 1 else 0 := fun x y => by
    unfold part
    split
    · rename_i h
      rw [show max (max c 0) x = c by omega, show min (min c 1114111) y = c by omega, k, if_pos (by omega)]
      rfl
    · rw [if_neg (by omega)]
      rfl
  rw [all_parts0]
  simp only [List.length_append, p]
  repeat' split
  all_goals omega
end Go.Proofs.YtclahhkcbkpofaaDoor.Sp
namespace Go.Proofs.YtclahhkcbkpofaaDoor
open Sp
/-- How many bytes a first byte wants. -/
def szN (b : Nat) : Nat := if b < 192 then 1 else if b < 224 then 2 else if b < 240 then 3 else 4
def Seg (u : List Nat) : Prop := ∃ b t, u = b :: t ∧ (b :: t).length = szN b
def Prt (u : List Nat) : Prop := ∃ b t, u = b :: t ∧ (b :: t).length < szN b
theorem vok_sz {r : List (Int × Int)} (h : VOk r) {p : Int × Int} {b : Nat} (hp : r[0]? = some p) (h1 : p.1 ≤ (b : Int)) (h2 : (b : Int) ≤ p.2) : r.length = szN b := by
  unfold szN
  rcases h with ⟨e, k⟩ | ⟨e, k⟩ | ⟨e, k⟩ | ⟨e, k⟩ <;> have := k p hp <;> rw [e]
  · rw [if_pos (by omega)]
  · rw [if_neg (by omega), if_pos (by omega)]
  · rw [if_neg (by omega), if_neg (by omega), if_pos (by omega)]
  · rw [if_neg (by omega), if_neg (by omega), if_neg (by omega)]
theorem fit_seg {lo hi : Int} {r : List (Int × Int)} (hr : r ∈ allP lo hi) {u : List Nat} (hf : fitN r u) : Seg u := by
  have hl := fitN_len hf
  cases r with
  | nil => exact absurd rfl (all_ne lo hi _ hr)
  | cons p r =>
    cases u with
    | nil => exact hf.elim
    | cons b t => exact ⟨b, t, rfl, by rw [← hl]; exact vok_sz (all_v lo hi _ hr) (p := p) rfl hf.1 hf.2.1⟩
theorem enc_seg {c : Int} (hw : wholeB c = true) : Seg (encN c) := by
  rcases enc_head hw with ⟨_, _, e⟩ | ⟨_, _, a, b, e, _⟩ | ⟨_, _, a, b, d, e, _⟩ | ⟨_, _, a, b, d, f, e, _⟩ <;> rw [e] <;> refine ⟨_, _, rfl, ?_⟩ <;> unfold szN
  · rw [if_pos (by omega)]; rfl
  · rw [if_neg (by omega), if_pos (by omega)]; rfl
  · rw [if_neg (by omega), if_neg (by omega), if_pos (by omega)]; rfl
  · rw [if_neg (by omega), if_neg (by omega), if_neg (by omega)]; rfl
theorem mid_prt {lo hi : Int} {u : List Nat} {y : Nat} : ∀ {rs' : List (List (Int × Int))} {N : Nat}, (∀ r ∈ rs', r ∈ allP lo hi) → midsP N rs' u y → Prt u
  | [], _, _, h => h.elim
  | r :: rs', N, hs, h => by
    rcases h with ⟨h1, h2, _, h4⟩ | h
    · have hrm := hs r (List.mem_cons_self ..)
      cases u with
      | nil => simp at h1
      | cons b t =>
        cases r with
        | nil => simp at h2
        | cons p r =>
          have h5 : fitN (p :: r.take t.length) (b :: t) := h4
          refine ⟨b, t, rfl, ?_⟩
          rw [← vok_sz (all_v lo hi _ hrm) (p := p) (b := b) rfl h5.1 h5.2.1]
          exact h2
    · exact mid_prt (fun r h => hs r (List.mem_cons_of_mem _ h)) h
theorem seg_eq {u v a b : List Nat} (hu : Seg u) (hv : Seg v) (h : u ++ a = v ++ b) : u = v ∧ a = b := by
  obtain ⟨x, t, rfl, h1⟩ := hu
  obtain ⟨y, s, rfl, h2⟩ := hv
  have e : x = y := by
    simp only [List.cons_append] at h
    injection h
  subst e
  exact List.append_inj h (h1.trans h2.symm)
theorem seg_prt {u a v : List Nat} (hu : Seg u) (hv : Prt v) (h : u ++ a = v) : False := by
  obtain ⟨x, t, rfl, h1⟩ := hu
  obtain ⟨y, s, rfl, h2⟩ := hv
  have e : x = y := by
    simp only [List.cons_append] at h
    injection h
  subst e
  have := congrArg List.length h
  rw [List.length_append] at this
  omega
theorem seg_ne {u : List Nat} (h : Seg u) : u ≠ [] := by
  obtain ⟨b, t, rfl, _⟩ := h
  simp
theorem prt_ne {u : List Nat} (h : Prt u) : u ≠ [] := by
  obtain ⟨b, t, rfl, _⟩ := h
  simp
/-! ### One character behind another -/
abbrev Rowss := List (List (List (Int × Int)))
def Sg : Rowss → List Nat → Prop
  | [], t => t = []
  | rs :: rss, t => ∃ u v, t = u ++ v ∧ (∃ r ∈ rs, fitN r u) ∧ Sg rss v
/-- Rows of ranges, each of characters. -/
def OkR (rss : Rowss) : Prop := ∀ rs ∈ rss, ∃ lo hi, rs = allP lo hi
theorem OkR.head {rs : List (List (Int × Int))} {rss : Rowss} (h : OkR (rs :: rss)) : ∃ lo hi, rs = allP lo hi := h rs (List.mem_cons_self ..)
theorem OkR.tail {rs : List (List (Int × Int))} {rss : Rowss} (h : OkR (rs :: rss)) : OkR rss := fun x hx => h x (List.mem_cons_of_mem _ hx)
theorem OkR.seg {rs : List (List (Int × Int))} {rss : Rowss} (h : OkR (rs :: rss)) {u : List Nat} (hf : ∃ r ∈ rs, fitN r u) : Seg u := by
  obtain ⟨lo, hi, rfl⟩ := h.head
  obtain ⟨r, hr, hf⟩ := hf
  exact fit_seg hr hf
/-- Where a text has come to: so many characters, and something of the next. -/
theorem at_one : ∀ {rss : Rowss}, OkR rss → ∀ {k k' : Nat} {a b u v : List Nat}, k ≤ rss.length → k' ≤ rss.length → Sg (rss.take k) a → Sg (rss.take k') b → (u = [] ∨ Prt u) → (v = [] ∨ Prt v) → a ++ u = b ++ v → k = k' ∧ a = b ∧ u = v
  | [], _, k, k', a, b, u, v, hk, hk', ha, hb, _, _, h => by
    rw [List.take_nil] at ha hb
    have ha : a = [] := ha
    have hb : b = [] := hb
    subst ha hb
    simp only [List.length_nil] at hk hk'
    exact ⟨by omega, rfl, h⟩
  | rs :: rss, hr, 0, 0, a, b, u, v, _, _, ha, hb, _, _, h => by
    have ha : a = [] := ha
    have hb : b = [] := hb
    subst ha hb
    exact ⟨rfl, rfl, h⟩
  | rs :: rss, hr, 0, k' + 1, a, b, u, v, _, _, ha, hb, hu, _, h => by
    have ha : a = [] := ha
    subst ha
    obtain ⟨x, y, rfl, hx, _⟩ := hb
    have hs := hr.seg hx
    rcases hu with rfl | hu
    · exfalso
      rw [List.append_assoc] at h
      exact seg_ne hs (List.append_eq_nil_iff.1 h.symm).1
    · exfalso
      rw [List.append_assoc] at h
      exact seg_prt hs hu h.symm
  | rs :: rss, hr, k + 1, 0, a, b, u, v, _, _, ha, hb, _, hv, h => by
    have hb : b = [] := hb
    subst hb
    obtain ⟨x, y, rfl, hx, _⟩ := ha
    have hs := hr.seg hx
    rcases hv with rfl | hv
    · exfalso
      rw [List.append_assoc] at h
      exact seg_ne hs (List.append_eq_nil_iff.1 h).1
    · exfalso
      rw [List.append_assoc] at h
      exact seg_prt hs hv h
  | rs :: rss, hr, k + 1, k' + 1, a, b, u, v, hk, hk', ha, hb, hu, hv, h => by
    obtain ⟨x, y, rfl, hx, hy⟩ := ha
    obtain ⟨x', y', rfl, hx', hy'⟩ := hb
    rw [List.append_assoc, List.append_assoc] at h
    obtain ⟨rfl, h2⟩ := seg_eq (hr.seg hx) (hr.seg hx') h
    obtain ⟨rfl, rfl, rfl⟩ := at_one hr.tail (by simpa using hk) (by simpa using hk') hy hy' hu hv h2
    exact ⟨rfl, rfl, rfl⟩
/-- Behind all characters a text comes to none of the earlier places. -/
theorem at_end : ∀ {rss : Rowss}, OkR rss → ∀ {k : Nat} {a b u v : List Nat}, k < rss.length → Sg (rss.take k) a → (u = [] ∨ Prt u) → Sg rss b → a ++ u = b ++ v → False
  | [], _, k, _, _, _, _, hk, _, _, _, _ => by simp at hk
  | rs :: rss, hr, 0, a, b, u, v, _, ha, hu, hb, h => by
    have ha : a = [] := ha
    subst ha
    obtain ⟨x, y, rfl, hx, _⟩ := hb
    have hs := hr.seg hx
    rw [List.append_assoc] at h
    rcases hu with rfl | hu
    · exact seg_ne hs (List.append_eq_nil_iff.1 h.symm).1
    · exact seg_prt hs hu h.symm
  | rs :: rss, hr, k + 1, a, b, u, v, hk, ha, hu, hb, h => by
    obtain ⟨x, y, rfl, hx, hy⟩ := ha
    obtain ⟨x', y', rfl, hx', hy'⟩ := hb
    rw [List.append_assoc, List.append_assoc] at h
    obtain ⟨rfl, h2⟩ := seg_eq (hr.seg hx) (hr.seg hx') h
    exact at_end hr.tail (by simpa using hk) hy hu hy' h2
/-! ### Of characters' bytes -/
/-- Ranges of characters. -/
def rowsOf (q : List (Int × Int)) : Rowss := q.map fun p => allP p.1 p.2
theorem rowsOf_ok (q : List (Int × Int)) : OkR (rowsOf q) := fun rs h => by
  obtain ⟨p, _, rfl⟩ := List.mem_map.1 h
  exact ⟨_, _, rfl⟩
/-- Characters within ranges, one for one, at the beginning. -/
def fitQ : List (Int × Int) → List Int → Prop
  | [], _ => True
  | p :: q, c :: l => p.1 ≤ c ∧ c ≤ p.2 ∧ fitQ q l
  | _, _ => False
theorem sg_begins : ∀ (q : List (Int × Int)) {l : List Int}, (∀ c ∈ l, wholeB c = true) → ((∃ u v, encs l = u ++ v ∧ Sg (rowsOf q) u) ↔ fitQ q l)
  | [], l, _ => ⟨fun _ => trivial, fun _ => ⟨[], encs l, rfl, rfl⟩⟩
  | p :: q, [], _ => by
    refine ⟨?_, False.elim⟩
    rintro ⟨u, v, h, x, y, rfl, hx, _⟩
    rw [List.append_assoc] at h
    exact seg_ne ((rowsOf_ok (p :: q)).seg hx) (List.append_eq_nil_iff.1 h.symm).1
  | p :: q, c :: l, hw => by
    have hc := hw c (List.mem_cons_self ..)
    have hl := fun d hd => hw d (List.mem_cons_of_mem c hd)
    have e : encs (c :: l) = encN c ++ encs l := rfl
    have hf : (∃ r ∈ allP p.1 p.2, fitN r (encN c)) ↔ p.1 ≤ c ∧ c ≤ p.2 := all_fits hc
    rw [e]
    show _ ↔ p.1 ≤ c ∧ c ≤ p.2 ∧ fitQ q l
    rw [← and_assoc, ← hf, ← sg_begins q hl]
    constructor
    · rintro ⟨u, v, h, x, y, rfl, hx, hy⟩
      rw [List.append_assoc] at h
      obtain ⟨rfl, h2⟩ := seg_eq (enc_seg hc) ((rowsOf_ok (p :: q)).seg hx) h
      exact ⟨hx, y, v, h2, hy⟩
    · rintro ⟨hx, y, v, h, hy⟩
      exact ⟨encN c ++ y, v, by rw [h, List.append_assoc], _, _, rfl, hx, hy⟩
theorem sg_all : ∀ (q : List (Int × Int)) {l : List Int}, (∀ c ∈ l, wholeB c = true) → (Sg (rowsOf q) (encs l) ↔ l.length = q.length ∧ fitQ q l)
  | [], [], _ => ⟨fun _ => ⟨rfl, trivial⟩, fun _ => rfl⟩
  | [], c :: l, hw => by
    constructor
    · intro h
      have h : encN c ++ encs l = [] := h
      exact absurd (List.append_eq_nil_iff.1 h).1 (seg_ne (enc_seg (hw c (List.mem_cons_self ..))))
    · rintro ⟨h, _⟩
      simp at h
  | p :: q, [], _ => by
    refine ⟨?_, fun h => h.2.elim⟩
    rintro ⟨x, y, h, hx, _⟩
    exact absurd (List.append_eq_nil_iff.1 h.symm).1 (seg_ne ((rowsOf_ok (p :: q)).seg hx))
  | p :: q, c :: l, hw => by
    have hc := hw c (List.mem_cons_self ..)
    have hl := fun d hd => hw d (List.mem_cons_of_mem c hd)
    have e : encs (c :: l) = encN c ++ encs l := rfl
    have hf : (∃ r ∈ allP p.1 p.2, fitN r (encN c)) ↔ p.1 ≤ c ∧ c ≤ p.2 := all_fits hc
    have ih := sg_all q hl
    rw [e]
    constructor
    · rintro ⟨x, y, h, hx, hy⟩
      obtain ⟨rfl, rfl⟩ := seg_eq (enc_seg hc) ((rowsOf_ok (p :: q)).seg hx) h
      obtain ⟨h1, h2⟩ := ih.1 hy
      obtain ⟨h3, h4⟩ := hf.1 hx
      exact ⟨by rw [List.length_cons, List.length_cons, h1], h3, h4, h2⟩
    · rintro ⟨h1, h2, h3, h4⟩
      exact ⟨encN c, encs l, rfl, hf.2 ⟨h2, h3⟩, ih.2 ⟨by simpa using h1, h4⟩⟩
end Go.Proofs.YtclahhkcbkpofaaDoor
