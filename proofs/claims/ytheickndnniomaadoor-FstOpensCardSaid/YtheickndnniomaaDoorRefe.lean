/- Entries: the law's light, the reference's Right, same, Get. -/
import Derived.Test.YtheickndnniomaaDoorLook
namespace Go.Proofs.YtheickndnniomaaDoor
open Go.RowKit Go.Maps

/-- So many letters of the first entries. -/
def lets (l : List Ent) (k : Nat) : Nat := ((l.take k).map fun e => e.1.length).sum
theorem lets_s {l : List Ent} {k : Nat} {e : Ent} (h : l[k]? = some e) : lets l (k + 1) = lets l k + e.1.length := by
  unfold lets
  rw [List.take_add_one, h, List.map_append, List.sum_append]
  simp
def lightB (l : List Ent) : Bool := decide (l.length ≤ 120) && decide (lets l 400 ≤ 600)
theorem lets_le {l : List Ent} (h : ∀ e ∈ l, e.1.length ≤ 140737488355328) (k : Nat) : lets l k ≤ 140737488355328 * k := by
  unfold lets
  have key : ∀ r : List Ent, (∀ e ∈ r, e.1.length ≤ 140737488355328) → (r.map fun e => e.1.length).sum ≤ 140737488355328 * r.length := by
    intro r
    induction r with
    | nil => intro _; simp
    | cons e r ih =>
      intro hr
      have h1 := hr e (List.mem_cons_self ..)
      have h2 := ih fun x hx => hr x (List.mem_cons_of_mem _ hx)
      rw [List.map_cons, List.sum_cons, List.length_cons]
      omega
  have h1 := key (l.take k) fun e he => h e (List.mem_of_mem_take he)
  rw [List.length_take] at h1
  omega
set_option maxRecDepth 100000 in
set_option maxHeartbeats 4000000 in
theorem light_any (w : World) (B : Nat) (hB : B ≤ w.heap.size) (A : Option Addr) (n c : Nat) (l : List Ent) (h : Ents w B A n c l) (hl : ∀ e ∈ l, e.1.length ≤ 140737488355328) :
    Calls Tryd.prog 9 #[.slice A n c] w fun e w' => e = .returned (.bool (lightB l)) ∧ Below w.heap.size w w' := by
  have hlen := h.len
  have hcm := h.cm
  have HLE := Lib.hid (lets_le hl)
  go_enter Tryd.func9, Tryd.ntmps9
  go_wp2_with fail
  go_loopw [3, 4] (fun v i wr => ∃ k : Nat, k ≤ n ∧ k ≤ 400 ∧ i = .int .i64 k ∧ v = .int .i64 (lets l k) ∧ Hid (Below w.heap.size w wr)) (fun _ i _ => n - (intOf i).toNat)
  case atStart => exact ⟨0, Nat.zero_le _, by omega, rfl, rfl, Lib.hid (brefl w)⟩
  case round =>
    obtain ⟨k, hk, hk4, rfl, rfl, HB⟩ := hrel
    have hk1 := HLE.out k
    by_cases hlt : k < n
    · by_cases h4 : k < 400
      · obtain ⟨e, he⟩ : ∃ e, l[k]? = some e := ⟨l[k]'(by omega), List.getElem?_eq_getElem _⟩
        obtain ⟨b, off, rfl, hb, hcell⟩ := h.at_ (by omega)
        obtain ⟨d0, _⟩ := hcell k e he
        have f0 := (HB.out.cell (p := ⟨b, off + k * 2, none⟩) (by show b < _; omega)).trans d0
        have HS := Lib.hid (lets_s he)
        have hel := hl e (List.mem_of_getElem? he)
        have q1 : decide (k < 400) = true := by simpa using h4
        obtain ⟨t, o⟩ := e
        simp only at f0 HS hel
        generalize lets l k = S at *
        have hw : IntKind.i64.wrap ((S : Int) + (t.length : Int)) = ((S + t.length : Nat) : Int) := by rw [← Int.natCast_add]; exact IntWalk.i64_in _ (by omega)
        clear d0 he hcell
        go_wp2_with fail
        go_roundw
        case rel => exact ⟨k + 1, by omega, by omega, by go_num, by rw [HS.out, Int.natCast_add], HB⟩
        case measure => simp [intOf]; omega
      · obtain rfl : k = 400 := by omega
        have HE : Hid (lightB l = false) := by
          show _ = _
          unfold lightB
          rw [decide_eq_false (by omega)]
          rfl
        have q2 : decide (n ≤ 120) = false := by simp; omega
        go_wp2_with fail
        all_goals
          go_ret
          exact ⟨by rw [HE.out]; rfl, HB.out⟩
    · obtain rfl : k = n := by omega
      have hall : lets l 400 = lets l k := by
        unfold lets
        rw [List.take_of_length_le (by omega), List.take_of_length_le (by omega)]
      have HE : Hid (lightB l = (decide (k ≤ 120) && decide ((lets l k : Nat) ≤ 600))) := by
        show _ = _
        unfold lightB
        rw [hall, hlen]
      clear hall
      generalize lets l k = S at *
      by_cases c1 : k ≤ 120
      · have q2 : decide (k ≤ 120) = true := by simpa using c1
        rw [q2, Bool.true_and] at HE
        go_wp2_with fail
        all_goals
          go_ret
          exact ⟨by rw [HE.out]; simp <;> omega, HB.out⟩
      · have q2 : decide (k ≤ 120) = false := by simpa using c1
        rw [q2, Bool.false_and] at HE
        go_wp2_with fail
        all_goals
          go_ret
          exact ⟨by rw [HE.out]; rfl, HB.out⟩
/-- The term ahead. -/
def lastAt (l : List Ent) (k : Nat) : List UInt8 := if k = 0 then [] else (l.getD (k - 1) ([], 0)).1
set_option maxRecDepth 100000 in
set_option maxHeartbeats 8000000 in
theorem rright_any (w : World) (B : Nat) (hB : B ≤ w.heap.size) (A : Option Addr) (n c : Nat) (l : List Ent) (h : Ents w B A n c l) :
    Calls Tryd.prog 16 #[.slice A n c] w fun e w' => e = .returned (.int .i64 (rightE l)) ∧ Below w.heap.size w w' := by
  have hlen := h.len
  have hcm := h.cm
  by_cases hbig : 65536 < n
  · have q1 : decide (65536 < n) = true := by simpa using hbig
    have HE : Hid (rightE l = 8) := by
      show _ = _
      unfold rightE
      rw [hlen, if_pos hbig]
    clear h
    go_enter Tryd.func16, Tryd.ntmps16
    go_wp2_with fail
    go_ret
    exact ⟨by rw [HE.out]; rfl, brefl w⟩
  · have HE : Hid (rightE l = rightL l []) := by
      show _ = _
      unfold rightE
      rw [hlen, if_neg hbig]
    have q1 : decide (65536 < n) = false := by simpa using hbig
    go_enter Tryd.func16, Tryd.ntmps16
    go_wp2_with fail
    go_loopw [3] (fun i wr => ∃ (k : Nat), k ≤ n ∧ i = .int .i64 k ∧ Hid (rightL (l.drop k) (lastAt l k) = rightL l []) ∧ Hid (Below w.heap.size w wr)) (fun i _ => n - (intOf i).toNat)
    case atStart => exact ⟨0, Nat.zero_le _, rfl, Lib.hid rfl, Lib.hid (brefl w)⟩
    case round =>
      obtain ⟨k, hk, rfl, HR, HB⟩ := hrel
      by_cases hlt : k < n
      · obtain ⟨e, he⟩ : ∃ e, l[k]? = some e := ⟨l[k]'(by omega), List.getElem?_eq_getElem _⟩
        obtain ⟨b, off, rfl, hb, hcell⟩ := h.at_ (by omega)
        obtain ⟨d0, d1⟩ := hcell k e he
        have f0 := (HB.out.cell (p := ⟨b, off + k * 2, none⟩) (by show b < _; omega)).trans d0
        have f1 := (HB.out.cell (p := ⟨b, off + k * 2 + 1, none⟩) (by show b < _; omega)).trans d1
        have hnext : lastAt l (k + 1) = e.1 := by
          unfold lastAt
          rw [if_neg (by omega), Nat.add_sub_cancel, List.getD_eq_getElem?_getD, he]
          rfl
        obtain ⟨t, o⟩ := e
        have hdrop : l.drop k = (t, o) :: l.drop (k + 1) := by
          obtain ⟨h1, h2⟩ := List.getElem?_eq_some_iff.1 he
          rw [List.drop_eq_getElem_cons h1, h2]
        have HR2 := HR
        rw [hdrop, rightL_cons] at HR2
        simp only at f0 f1 hnext
        have HNX := Lib.hid hnext
        clear d0 d1 he hdrop hnext
        by_cases c1 : t = [] ∨ o < 0
        · rw [if_pos c1] at HR2
          rcases c1 with c1 | c1
          · subst c1
            go_wp2_with fail
            go_ret
            exact ⟨by rw [HE.out, ← HR2.out]; rfl, HB.out⟩
          · have q2 : decide (o < 0) = true := by simpa using c1
            go_wp2_with fail
            all_goals
              go_ret
              exact ⟨by rw [HE.out, ← HR2.out]; rfl, HB.out⟩
        rw [if_neg c1] at HR2
        have q2 : decide (o < 0) = false := by simp; omega
        have q3 : t.isEmpty = false := by
          cases t with
          | nil => exact absurd (.inl rfl) c1
          | cons _ _ => rfl
        have htne : t ≠ [] := fun e => c1 (.inl e)
        have HTN := Lib.hid htne
        clear c1 htne
        by_cases c2 : 64 < t.length
        · rw [if_pos c2] at HR2
          have q4 : decide (64 < t.length) = true := by simpa using c2
          go_wp2_with fail
          go_ret
          exact ⟨by rw [HE.out, ← HR2.out]; rfl, HB.out⟩
        rw [if_neg c2] at HR2
        have q4 : decide (64 < t.length) = false := by simpa using c2
        by_cases hk0 : k = 0
        · subst hk0
          rw [Nat.zero_mul, Nat.add_zero] at f0 f1
          have hl0 : lastAt l 0 = [] := rfl
          rw [hl0] at HR2
          have hf : (Op.bytesLess t [] || t == []) = false := by
            rw [bytesLess_eq]
            have := HTN.out
            simp [this]
          rw [hf, if_neg (by simp)] at HR2
          clear hl0 hf hcell
          go_wp2_with fail
          go_quiet (fail)
          go_wp2_with fail
          go_roundw
          case rel => exact ⟨1, by omega, rfl, by rw [HNX.out]; exact HR2, Lib.hid (below_drewN HB.out nq)⟩
          case measure => simp [intOf]; omega
        · obtain ⟨j, rfl⟩ : ∃ j, k = j + 1 := ⟨k - 1, by omega⟩
          obtain ⟨e', he'⟩ : ∃ e, l[j]? = some e := ⟨l[j]'(by omega), List.getElem?_eq_getElem _⟩
          obtain ⟨d0, _⟩ := hcell j e' he'
          have g0 := (HB.out.cell (p := ⟨b, off + j * 2, none⟩) (by show b < _; omega)).trans d0
          have hlast : lastAt l (j + 1) = e'.1 := by
            unfold lastAt
            rw [if_neg (by omega), Nat.add_sub_cancel, List.getD_eq_getElem?_getD, he']
            rfl
          rw [hlast] at HR2
          obtain ⟨t', o'⟩ := e'
          simp only at g0 HR2
          have hw : IntKind.i64.wrap (((j + 1 : Nat) : Int) - 1) = (j : Int) := by rw [show ((j + 1 : Nat) : Int) - 1 = (j : Int) by omega]; exact IntWalk.i64_in _ (by omega)
          have q6 : decide (0 < j + 1) = true := by simp
          have hjn : j < n := by omega
          have hjn2 : (j : Int) < (n : Int) := by omega
          clear hlast he' d0 hcell hk0
          by_cases c3 : (Op.bytesLess t t' || t == t') = true
          · rw [if_pos c3] at HR2
            go_wp2_with fail
            go_quiet (fail)
            go_wp2_with fail
            go_ret
            exact ⟨by rw [HE.out, ← HR2.out]; rfl, below_drewN HB.out nq⟩
          · rw [if_neg c3] at HR2
            have q5 : (Op.bytesLess t t' || t == t') = false := by simpa using c3
            go_wp2_with fail
            go_quiet (fail)
            go_wp2_with fail
            go_roundw
            case rel => exact ⟨j + 1 + 1, by omega, by go_num, by rw [HNX.out]; exact HR2, Lib.hid (below_drewN HB.out nq)⟩
            case measure => simp [intOf]; omega
      · obtain rfl : k = n := by omega
        have hall : l.drop k = [] := List.drop_of_length_le (by omega)
        have HR2 := HR
        rw [hall] at HR2
        go_wp2_with fail
        go_ret
        exact ⟨by rw [HE.out, ← HR2.out]; rfl, HB.out⟩
set_option maxRecDepth 100000 in
set_option maxHeartbeats 4000000 in
theorem rget_any (w : World) (B : Nat) (hB : B ≤ w.heap.size) (A : Option Addr) (n c : Nat) (l : List Ent) (h : Ents w B A n c l) (t : List UInt8) :
    Calls Tryd.prog 19 #[.slice A n c, .string ⟨t.toArray⟩] w fun e w' => e = .returned (.tuple #[.int .i64 (optZ (lookE l t)), .bool (lookE l t).isSome]) ∧ Below w.heap.size w w' := by
  have hlen := h.len
  have hcm := h.cm
  obtain ⟨r, hr⟩ : ∃ r, lookE l t = r := ⟨_, rfl⟩
  rw [hr]
  have HR := Lib.hid hr
  clear hr
  go_enter Tryd.func19, Tryd.ntmps19
  go_wp2_with fail
  go_loopw [6] (fun i wr => ∃ k : Nat, k ≤ n ∧ i = .int .i64 k ∧ Hid (lookE (l.drop k) t = r) ∧ Hid (Below w.heap.size w wr)) (fun i _ => n - (intOf i).toNat)
  case atStart => exact ⟨0, Nat.zero_le _, rfl, HR, Lib.hid (brefl w)⟩
  case round =>
    obtain ⟨k, hk, rfl, HL, HB⟩ := hrel
    by_cases hlt : k < n
    · obtain ⟨e, he⟩ : ∃ e, l[k]? = some e := ⟨l[k]'(by omega), List.getElem?_eq_getElem _⟩
      obtain ⟨b, off, rfl, hb, hcell⟩ := h.at_ (by omega)
      obtain ⟨d0, d1⟩ := hcell k e he
      have f0 := (HB.out.cell (p := ⟨b, off + k * 2, none⟩) (by show b < _; omega)).trans d0
      have f1 := (HB.out.cell (p := ⟨b, off + k * 2 + 1, none⟩) (by show b < _; omega)).trans d1
      have hdrop : l.drop k = e :: l.drop (k + 1) := by
        obtain ⟨h1, h2⟩ := List.getElem?_eq_some_iff.1 he
        rw [List.drop_eq_getElem_cons h1, h2]
      have hstep : lookE (e :: l.drop (k + 1)) t = if e.1 = t then some e.2 else lookE (l.drop (k + 1)) t := by
        unfold lookE
        rw [List.find?_cons]
        by_cases hc : e.1 = t
        · rw [decide_eq_true hc, if_pos hc]; rfl
        · rw [decide_eq_false hc, if_neg hc]
      rw [hdrop, hstep] at HL
      obtain ⟨x, o⟩ := e
      simp only at f0 f1 HL
      clear d0 d1 he hdrop hstep hcell
      by_cases hc : x = t
      · rw [if_pos hc] at HL
        have q1 : (x == t) = true := by simpa using hc
        clear hc
        go_wp2_with fail
        go_ret2
        exact ⟨by rw [← HL.out]; rfl, HB.out⟩
      · rw [if_neg hc] at HL
        have q1 : (x == t) = false := by simpa using hc
        clear hc
        go_wp2_with fail
        go_roundw
        case rel => exact ⟨k + 1, by omega, by go_num, HL, HB⟩
        case measure => simp [intOf]; omega
    · obtain rfl : k = n := by omega
      have hall : l.drop k = [] := List.drop_of_length_le (by omega)
      rw [hall] at HL
      go_wp2_with fail
      go_ret2
      exact ⟨by rw [← HL.out]; rfl, HB.out⟩
end Go.Proofs.YtheickndnniomaaDoor
