/- dfa.Check, Step, Accepts. -/
import Derived.Test.YtclahhkcbkpofaaDoorHFz8
import Derived.Test.YtclahhkcbkpofaaDoorHFz6
namespace Go.Proofs.YtclahhkcbkpofaaDoor
open Go.RowKit
set_option maxRecDepth 100000 in
set_option maxHeartbeats 8000000 in
theorem dcheck_any (w : World) (B : Nat) (hB : B ≤ w.heap.size) (A : Option Addr) (n c : Nat) (H : List Sh) (h : StsIn w B A n c H) :
    Calls Tryd.prog 28 #[.slice A n c] w fun e w' => e = .returned (.int .i64 (checkE (H.map (·.d)))) ∧ Below w.heap.size w w' := by
  have HS := Lib.hid h
  have hlen := h.len
  have hcm := h.cm
  by_cases h0 : n = 0
  · subst h0
    have hH : H = [] := List.eq_nil_of_length_eq_zero hlen
    have HE : Hid (checkE (H.map (·.d)) = 1) := by rw [hH]; rfl
    clear h hlen hH
    go_enter Tryd.func28, Tryd.ntmps28
    go_wp2_with fail
    go_ret
    exact ⟨by rw [HE.out]; rfl, brefl w⟩
  have q0 : ((n : Int) == 0) = false := by simp; omega
  have q01 : (n == 0) = false := by simp; omega
  by_cases hbig : 20000 < n
  · have q1 : decide ((n : Int) > 20000) = true := decide_eq_true (by omega)
    have q2 : decide (n > 20000) = true := decide_eq_true (by omega)
    have HE : Hid (checkE (H.map (·.d)) = 8) := by
      show _ = _
      unfold checkE
      rw [if_neg (by intro e; rw [List.map_eq_nil_iff] at e; rw [e] at hlen; exact h0 hlen.symm), List.length_map, hlen, if_pos hbig]
    clear h hlen hbig
    go_enter Tryd.func28, Tryd.ntmps28
    go_wp2_with fail
    go_ret
    exact ⟨by rw [HE.out]; rfl, brefl w⟩
  have q1 : decide ((n : Int) > 20000) = false := decide_eq_false (by omega)
  have q2 : decide (n > 20000) = false := decide_eq_false (by omega)
  have HE : Hid (checkE (H.map (·.d)) = if (H.map (·.d)).all (fun s => okA n (-1) s.2) then 0 else 3) := by
    show _ = _
    unfold checkE
    rw [if_neg (by intro e; rw [List.map_eq_nil_iff] at e; rw [e] at hlen; exact h0 hlen.symm), List.length_map, hlen, if_neg hbig]
  clear h hbig
  go_enter Tryd.func28, Tryd.ntmps28
  go_wp2_with fail
  go_loopw [18] (fun iv wr => ∃ k : Nat, k ≤ n ∧ iv = .int .i64 k ∧ Hid (∀ x ∈ H.take k, okA n (-1) x.d.2 = true) ∧ Hid (Below w.heap.size w wr)) (fun iv _ => n - (intOf iv).toNat)
  case atStart => exact ⟨0, Nat.zero_le _, rfl, fun x hx => by simp at hx, brefl w⟩
  case round =>
    obtain ⟨k, hk, rfl, HK, HB⟩ := hrel
    by_cases hlt : k < n
    · have HW := Lib.hid (HS.out.keep (HB.out.mono hB) (Nat.le_refl _))
      obtain ⟨b, off, rfl, hb, hcell⟩ := HW.out.at_ (by omega)
      obtain ⟨x, hx⟩ : ∃ x, H[k]? = some x := ⟨H[k]'(by omega), List.getElem?_eq_getElem _⟩
      obtain ⟨k0, k1⟩ := hcell k x hx
      have hbw : b < wr.heap.size := Nat.lt_of_lt_of_le hb (Nat.le_trans hB HB.out.size)
      have hxm := List.mem_of_getElem? hx
      have hxar := HW.out.ar x hxm
      obtain ⟨m, hm⟩ : ∃ m, x.d.2.length = m := ⟨_, rfl⟩
      have hm47 := hxar.2.2
      rw [hm] at k1 hm47
      have HM := Lib.hid hm
      have HXM := Lib.hid hxm
      have HXK := Lib.hid hx
      clear hcell hx hxm hxar hm
      go_wp2_with fail
      have HB1 := Lib.hid (bnew HB.out (.cells #[.bool x.d.1, .slice x.A m x.c] 77))
      have H0 : Hid (okA n (-1) x.d.2 = okA n (-1) (x.d.2.drop 0)) := rfl
      go_loopw [5, 25] (fun lv jv wj => ∃ (j : Nat) (last : Int), j ≤ m ∧ jv = .int .i64 j ∧ lv = .int .i64 last ∧ Hid (okA n (-1) x.d.2 = okA n last (x.d.2.drop j)) ∧ Hid (Below w.heap.size w wj)) (fun _ jv _ => m - (intOf jv).toNat)
      case atStart => exact ⟨0, -1, Nat.zero_le _, rfl, rfl, H0, HB1⟩
      case round =>
        clear H0 HB1 k0 k1
        obtain ⟨j, last, hj, rfl, rfl, HO, HBJ⟩ := hrel
        by_cases hjm : j < m
        · have HWJ := HS.out.keep (HBJ.out.mono hB) (Nat.le_refl _)
          obtain ⟨ab, aoff, hxA, hab, hac⟩ := HWJ.arc HXM.out (by rw [HM.out]; omega)
          obtain ⟨a, ha⟩ : ∃ a, x.d.2[j]? = some a := ⟨x.d.2[j]'(by rw [HM.out]; exact hjm), List.getElem?_eq_getElem _⟩
          obtain ⟨a0, a1, a2⟩ := hac j a ha
          have habw : ab < wr.heap.size := Nat.lt_of_lt_of_le hab (Nat.le_trans hB HBJ.out.size)
          have hdrop : x.d.2.drop j = a :: x.d.2.drop (j + 1) := by
            obtain ⟨h1, h2⟩ := List.getElem?_eq_some_iff.1 ha
            rw [List.drop_eq_getElem_cons h1, h2]
          rw [hdrop, okA] at HO
          have HBN := Lib.hid (bnew HBJ.out (.cells #[.int .i64 a.1, .int .i64 a.2.1, .int .i64 a.2.2] 63))
          rw [hxA]
          clear hac HWJ ha hdrop
          obtain ⟨lo, hi, tt⟩ := a
          simp only at a0 a1 a2 HO HBN
          have HBAD : Hid (¬ (last < lo ∧ lo ≤ hi ∧ hi ≤ 255 ∧ 0 ≤ tt ∧ tt < (n : Int)) → checkE (H.map (·.d)) = 3) := fun hbad => by
            rw [HE.out, if_neg]
            rw [List.all_eq_true]
            intro h
            have := h x.d (List.mem_map_of_mem HXM.out)
            rw [HO.out, decide_eq_false hbad] at this
            simp at this
          by_cases c1 : lo ≤ last
          · have p1 : decide (lo ≤ last) = true := decide_eq_true c1
            have HB3 := Lib.hid (HBAD.out (by omega))
            go_wp2_with fail
            go_ret
            exact ⟨by rw [HB3.out]; rfl, HBN.out⟩
          have p1 : decide (lo ≤ last) = false := decide_eq_false c1
          by_cases c2 : hi < lo
          · have p2 : decide (hi < lo) = true := decide_eq_true c2
            have HB3 := Lib.hid (HBAD.out (by omega))
            clear c1
            go_wp2_with fail
            go_ret
            exact ⟨by rw [HB3.out]; rfl, HBN.out⟩
          have p2 : decide (hi < lo) = false := decide_eq_false c2
          by_cases c3 : 255 < hi
          · have p3 : decide (hi > 255) = true := decide_eq_true c3
            have HB3 := Lib.hid (HBAD.out (by omega))
            clear c1 c2
            go_wp2_with fail
            go_ret
            exact ⟨by rw [HB3.out]; rfl, HBN.out⟩
          have p3 : decide (hi > 255) = false := decide_eq_false c3
          by_cases c4 : tt < 0
          · have p4 : decide (tt < 0) = true := decide_eq_true c4
            have HB3 := Lib.hid (HBAD.out (by omega))
            clear c1 c2 c3
            go_wp2_with fail
            go_ret
            exact ⟨by rw [HB3.out]; rfl, HBN.out⟩
          have p4 : decide (tt < 0) = false := decide_eq_false c4
          by_cases c5 : (n : Int) ≤ tt
          · have p5 : decide (tt ≥ (n : Int)) = true := decide_eq_true c5
            have HB3 := Lib.hid (HBAD.out (by omega))
            clear c1 c2 c3 c4
            go_wp2_with fail
            go_ret
            exact ⟨by rw [HB3.out]; rfl, HBN.out⟩
          have p5 : decide (tt ≥ (n : Int)) = false := decide_eq_false c5
          have HON : Hid (okA n (-1) x.d.2 = okA n hi (x.d.2.drop (j + 1))) := by
            show _ = _
            rw [HO.out, decide_eq_true (by omega)]
            rfl
          clear c1 c2 c3 c4 c5 HO
          go_wp2_with fail
          go_roundw
          case rel => exact ⟨j + 1, hi, by omega, by go_num, rfl, HON, HBN⟩
          case measure => simp [intOf]; omega
        · obtain rfl : j = m := by omega
          have hok : okA n (-1) x.d.2 = true := by
            rw [HO.out, List.drop_of_length_le (by rw [HM.out]; exact Nat.le_refl _)]
            rfl
          have HKN : Hid (∀ y ∈ H.take (k + 1), okA n (-1) y.d.2 = true) := fun y hy => by
            rw [List.take_add_one, HXK.out] at hy
            rcases List.mem_append.1 hy with hy | hy
            · exact HK.out y hy
            · rw [List.mem_singleton.1 hy]; exact hok
          clear hok
          go_wp2_with fail
          go_roundw
          case rel => exact ⟨k + 1, by omega, by go_num, HKN, HBJ⟩
          case measure => simp [intOf]; omega
    · obtain rfl : k = n := by omega
      have hall : H.take k = H := List.take_of_length_le (by omega)
      rw [hall] at HK
      have HE2 : Hid (checkE (H.map (·.d)) = 0) := by
        show _ = _
        rw [HE.out, if_pos]
        rw [List.all_eq_true]
        intro s hs
        obtain ⟨x, hx, rfl⟩ := List.mem_map.1 hs
        exact HK.out x hx
      go_wp2_with fail
      go_ret
      exact ⟨by rw [HE2.out]; rfl, HB.out⟩
/-- Where a byte leads. -/
def stepI (d : List St) (z c : Int) : Int := if z < 0 ∨ (d.length : Int) ≤ z then -1 else match d[z.toNat]? with
  | some s => (lookA s.2 c).getD (-1)
  | none => -1
theorem lookA_cons (a : Arc3) (r : List Arc3) (c : Int) : lookA (a :: r) c = if a.1 ≤ c ∧ c ≤ a.2.1 then some a.2.2 else lookA r c := by
  unfold lookA
  by_cases h : a.1 ≤ c ∧ c ≤ a.2.1
  · rw [if_pos h, List.find?_cons_of_pos (by simpa using h)]
    rfl
  · rw [if_neg h, List.find?_cons_of_neg (by simpa using h)]
set_option maxRecDepth 100000 in
set_option maxHeartbeats 8000000 in
theorem dstep_any (w : World) (B : Nat) (hB : B ≤ w.heap.size) (A : Option Addr) (n c : Nat) (H : List Sh) (h : StsIn w B A n c H) (z : Int) (ch : Int) (hch : 0 ≤ ch ∧ ch < 256) :
    Calls Tryd.prog 43 #[.slice A n c, .int .i64 z, .int .u8 ch] w fun e w' => e = .returned (.int .i64 (stepI (H.map (·.d)) z ch)) ∧ Below w.heap.size w w' := by
  have HS := Lib.hid h
  have hlen := h.len
  have hcm := h.cm
  obtain ⟨hch0, hch1⟩ := hch
  have hwc : IntKind.i64.wrap ch = ch := IntWalk.i64_in _ (by omega)
  by_cases hz : z < 0
  · have q1 : decide (z < 0) = true := decide_eq_true hz
    have HE : Hid (stepI (H.map (·.d)) z ch = -1) := if_pos (.inl hz)
    clear h hlen hz
    go_enter Tryd.func43, Tryd.ntmps43
    go_wp2_with fail
    go_ret
    exact ⟨by rw [HE.out]; rfl, brefl w⟩
  by_cases hzn : (n : Int) ≤ z
  · have q1 : decide (z < 0) = false := decide_eq_false hz
    have q2 : decide (z ≥ (n : Int)) = true := decide_eq_true hzn
    have HE : Hid (stepI (H.map (·.d)) z ch = -1) := if_pos (.inr (by rw [List.length_map, hlen]; exact hzn))
    clear h hlen hz hzn
    go_enter Tryd.func43, Tryd.ntmps43
    go_wp2_with fail
    go_ret
    exact ⟨by rw [HE.out]; rfl, brefl w⟩
  obtain ⟨k, rfl⟩ := Int.eq_ofNat_of_zero_le (show 0 ≤ z by omega)
  have hkn : k < n := by omega
  obtain ⟨x, hx⟩ : ∃ x, H[k]? = some x := ⟨H[k]'(by omega), List.getElem?_eq_getElem _⟩
  have HE : Hid (stepI (H.map (·.d)) (k : Nat) ch = (lookA x.d.2 ch).getD (-1)) := by
    show _ = _
    unfold stepI
    rw [if_neg (by rw [List.length_map, hlen]; omega), Int.toNat_natCast, List.getElem?_map, hx]
    rfl
  obtain ⟨b, off, rfl, hb, hcell⟩ := h.at_ (by omega)
  obtain ⟨k0, k1⟩ := hcell k x hx
  have hxm := List.mem_of_getElem? hx
  obtain ⟨m, hm⟩ : ∃ m, x.d.2.length = m := ⟨_, rfl⟩
  have hm47 := (h.ar x hxm).2.2
  rw [hm] at k1 hm47
  have HM := Lib.hid hm
  have HXM := Lib.hid hxm
  have q1 : decide ((k : Int) < 0) = false := decide_eq_false (by omega)
  have q2 : decide ((k : Int) ≥ (n : Int)) = false := decide_eq_false (by omega)
  have q3 : decide (k ≥ n) = false := decide_eq_false (by omega)
  clear h hx hcell hxm hm hz hzn
  go_enter Tryd.func43, Tryd.ntmps43
  go_wp2_with fail
  go_loopw [23] (fun jv wj => ∃ j : Nat, j ≤ m ∧ jv = .int .i64 j ∧ Hid (lookA x.d.2 ch = lookA (x.d.2.drop j) ch) ∧ Hid (Below w.heap.size w wj)) (fun jv _ => m - (intOf jv).toNat)
  case atStart => exact ⟨0, Nat.zero_le _, rfl, rfl, brefl w⟩
  case round =>
    clear k0 k1
    obtain ⟨j, hj, rfl, HO, HBJ⟩ := hrel
    by_cases hjm : j < m
    · have HWJ := HS.out.keep (HBJ.out.mono hB) (Nat.le_refl _)
      obtain ⟨ab, aoff, hxA, hab, hac⟩ := HWJ.arc HXM.out (by rw [HM.out]; omega)
      obtain ⟨a, ha⟩ : ∃ a, x.d.2[j]? = some a := ⟨x.d.2[j]'(by rw [HM.out]; exact hjm), List.getElem?_eq_getElem _⟩
      obtain ⟨a0, a1, a2⟩ := hac j a ha
      have habw : ab < wr.heap.size := Nat.lt_of_lt_of_le hab (Nat.le_trans hB HBJ.out.size)
      have hdrop : x.d.2.drop j = a :: x.d.2.drop (j + 1) := by
        obtain ⟨h1, h2⟩ := List.getElem?_eq_some_iff.1 ha
        rw [List.drop_eq_getElem_cons h1, h2]
      rw [hdrop, lookA_cons] at HO
      have HBN := Lib.hid (bnew HBJ.out (.cells #[.int .i64 a.1, .int .i64 a.2.1, .int .i64 a.2.2] 63))
      rw [hxA]
      clear hac HWJ ha hdrop
      obtain ⟨lo, hi, tt⟩ := a
      simp only at a0 a1 a2 HO HBN
      by_cases c1 : lo ≤ ch
      · have p1 : decide (ch ≥ lo) = true := decide_eq_true c1
        by_cases c2 : ch ≤ hi
        · have p2 : decide (ch ≤ hi) = true := decide_eq_true c2
          have HE2 : Hid (stepI (H.map (·.d)) (k : Nat) ch = tt) := by
            show _ = _
            rw [HE.out, HO.out, if_pos ⟨c1, c2⟩]
            rfl
          clear c1 c2
          go_wp2_with fail
          go_ret
          exact ⟨by rw [HE2.out]; rfl, HBN.out⟩
        · have p2 : decide (ch ≤ hi) = false := decide_eq_false c2
          rw [if_neg (by omega)] at HO
          clear c1 c2
          go_wp2_with fail
          go_roundw
          case rel => exact ⟨j + 1, by omega, by go_num, HO, HBN⟩
          case measure => simp [intOf]; omega
      · have p1 : decide (ch ≥ lo) = false := decide_eq_false c1
        rw [if_neg (by omega)] at HO
        clear c1
        go_wp2_with fail
        go_roundw
        case rel => exact ⟨j + 1, by omega, by go_num, HO, HBN⟩
        case measure => simp [intOf]; omega
    · obtain rfl : j = m := by omega
      have HE2 : Hid (stepI (H.map (·.d)) (k : Nat) ch = -1) := by
        show _ = _
        rw [HE.out, HO.out, List.drop_of_length_le (by rw [HM.out]; exact Nat.le_refl _)]
        rfl
      go_wp2_with fail
      go_ret
      exact ⟨by rw [HE2.out]; rfl, HBJ.out⟩
/-! ### What an automaton takes -/
theorem okA_asc {n : Nat} : ∀ {l : List Arc3} {last : Int}, okA n last l = true → -1 ≤ last → (∀ a ∈ l, last < a.1) ∧ Asc l 256 ∧ ∀ a ∈ l, 0 ≤ a.2.2 ∧ a.2.2 < (n : Int)
  | [], _, _, _ => ⟨by simp, ⟨List.Pairwise.nil, by simp⟩, by simp⟩
  | a :: r, last, h, hl => by
    rw [okA, Bool.and_eq_true, decide_eq_true_eq] at h
    obtain ⟨⟨h1, h2, h3, h4, h5⟩, h6⟩ := h
    obtain ⟨i1, i2, i3⟩ := okA_asc h6 (by omega)
    refine ⟨fun b hb => ?_, ⟨List.pairwise_cons.2 ⟨i1, i2.lt⟩, fun b hb => ?_⟩, fun b hb => ?_⟩
    · rcases List.mem_cons.1 hb with rfl | hb
      · exact h1
      · have := i1 b hb; omega
    · rcases List.mem_cons.1 hb with rfl | hb
      · omega
      · exact i2.ok b hb
    · rcases List.mem_cons.1 hb with rfl | hb
      · exact ⟨h4, h5⟩
      · exact i3 b hb
theorem asc_okA {n : Nat} : ∀ {l : List Arc3} {last : Int}, (∀ a ∈ l, last < a.1) → Asc l 256 → (∀ a ∈ l, 0 ≤ a.2.2 ∧ a.2.2 < (n : Int)) → okA n last l = true
  | [], _, _, _, _ => rfl
  | a :: r, last, h1, h2, h3 => by
    have ha := h2.ok a (List.mem_cons_self ..)
    have hb := h3 a (List.mem_cons_self ..)
    obtain ⟨p1, p2⟩ := List.pairwise_cons.1 h2.lt
    rw [okA, decide_eq_true (by have := h1 a (List.mem_cons_self ..); omega), asc_okA (fun b hb => p1 b hb) ⟨p2, fun b hb => h2.ok b (List.mem_cons_of_mem _ hb)⟩ fun b hb => h3 b (List.mem_cons_of_mem _ hb)]
    rfl
/-- States that are an automaton. -/
structure Good (d : List St) : Prop where
  ne : d ≠ []
  few : d.length ≤ 20000
  asc : ∀ s ∈ d, Asc s.2 256
  to_ : ∀ s ∈ d, ∀ a ∈ s.2, 0 ≤ a.2.2 ∧ a.2.2 < (d.length : Int)
theorem good_iff (d : List St) : checkE d = 0 ↔ Good d := by
  unfold checkE
  constructor
  · intro h
    split at h
    · cases h
    split at h
    · cases h
    split at h
    · rename_i h1 h2 h3
      rw [List.all_eq_true] at h3
      exact ⟨h1, by omega, fun s hs => (okA_asc (h3 s hs) (by omega)).2.1, fun s hs => (okA_asc (h3 s hs) (by omega)).2.2⟩
    · cases h
  · intro h
    rw [if_neg h.ne, if_neg (by have := h.few; omega), if_pos]
    rw [List.all_eq_true]
    intro s hs
    exact asc_okA (fun a ha => by have := (h.asc s hs).ok a ha; omega) (h.asc s hs) (h.to_ s hs)
theorem Good.within {d : List St} (h : Good d) : Within (auOf d) d.length := by
  intro x hx c y hy
  obtain ⟨s, hs⟩ : ∃ s, d[x]? = some s := ⟨d[x], List.getElem?_eq_getElem _⟩
  have hy : (d[x]?).bind (fun s => (lookA s.2 c).map Int.toNat) = some y := hy
  rw [hs] at hy
  simp only [Option.bind_some] at hy
  obtain ⟨k, hk, rfl⟩ := Option.map_eq_some_iff.1 hy
  unfold lookA at hk
  obtain ⟨a, ha, rfl⟩ := Option.map_eq_some_iff.1 hk
  have := h.to_ s (List.mem_of_getElem? hs) a (List.mem_of_find?_eq_some ha)
  omega
/-- Where a byte leads, in both words. -/
theorem stepI_au {d : List St} (h : Good d) {x : Nat} (hx : x < d.length) (c : Nat) : (stepI d x c = -1 ∧ (auOf d).step x c = none) ∨ ∃ y : Nat, stepI d x c = (y : Int) ∧ (auOf d).step x c = some y ∧ y < d.length := by
  obtain ⟨s, hs⟩ : ∃ s, d[x]? = some s := ⟨d[x], List.getElem?_eq_getElem _⟩
  have e1 : stepI d x c = (lookA s.2 c).getD (-1) := by
    unfold stepI
    rw [if_neg (by omega), Int.toNat_natCast, hs]
  have e2 : (auOf d).step x c = (lookA s.2 c).map Int.toNat := by
    show (d[x]?).bind (fun s => (lookA s.2 c).map Int.toNat) = _
    rw [hs]
    rfl
  rw [e1, e2]
  cases hl : lookA s.2 c with
  | none => exact .inl ⟨rfl, rfl⟩
  | some k =>
    have hk : 0 ≤ k ∧ k < (d.length : Int) := by
      unfold lookA at hl
      obtain ⟨a, ha, rfl⟩ := Option.map_eq_some_iff.1 hl
      exact h.to_ s (List.mem_of_getElem? hs) a (List.mem_of_find?_eq_some ha)
    exact .inr ⟨k.toNat, by show k = _; omega, rfl, by omega⟩
theorem byte_at (t : List UInt8) (i : Nat) (h : i < (⟨t.toArray⟩ : ByteArray).size) : ((((⟨t.toArray⟩ : ByteArray)[i]'h).toNat : Nat) : Int) = (((t.getD i 0).toNat : Nat) : Int) := by
  have h' : i < t.length := by
    have : (⟨t.toArray⟩ : ByteArray).size = t.length := by show t.toArray.size = _; simp
    rwa [this] at h
  rw [List.getD_eq_getElem?_getD, List.getElem?_eq_getElem h']
  rfl
def bytesN (t : List UInt8) : List Nat := t.map fun b => b.toNat
/-- What Accepts says. -/
def takesB (d : List St) (t : List UInt8) : Bool := decide (checkE d = 0) && (auOf d).acc 0 (bytesN t)
set_option maxRecDepth 100000 in
set_option maxHeartbeats 8000000 in
theorem accepts_any (w : World) (B : Nat) (hB : B ≤ w.heap.size) (A : Option Addr) (n c : Nat) (H : List Sh) (h : StsIn w B A n c H) (t : List UInt8) (ht : t.length ≤ 1125899906842624) :
    Calls Tryd.prog 16 #[.slice A n c, .string ⟨t.toArray⟩] w fun e w' => e = .returned (.bool (takesB (H.map (·.d)) t)) ∧ Below w.heap.size w w' := by
  have HS := Lib.hid h
  have hlen := h.len
  have hcm := h.cm
  have HC := Lib.hid (dcheck_any w B hB A n c H h)
  by_cases hg : checkE (H.map (·.d)) = 0
  rotate_left
  · have HE : Hid (takesB (H.map (·.d)) t = false) := by
      show _ = _
      unfold takesB
      rw [decide_eq_false hg]
      rfl
    obtain ⟨E, hE⟩ : ∃ E, checkE (H.map (·.d)) = E := ⟨_, rfl⟩
    rw [hE] at HC hg
    have q1 : (E != 0) = true := by simpa using hg
    clear h hlen hg hE
    go_enter Tryd.func16, Tryd.ntmps16
    go_wp2_with fail
    refine HC.out.mono ?_
    rintro e w1 ⟨rfl, hb1⟩
    go_wp2_with fail
    go_ret
    exact ⟨by rw [HE.out]; rfl, hb1⟩
  have HG := Lib.hid ((good_iff _).1 hg)
  have HE : Hid (takesB (H.map (·.d)) t = (auOf (H.map (·.d))).acc 0 (bytesN t)) := by
    show _ = _
    unfold takesB
    rw [decide_eq_true hg]
    rfl
  rw [hg] at HC
  have hn0 : 0 < n := by
    have := List.length_pos_iff.2 HG.out.ne
    rw [List.length_map] at this
    omega
  clear h hg
  go_enter Tryd.func16, Tryd.ntmps16
  go_wp2_with fail
  refine HC.out.mono ?_
  rintro e w1 ⟨rfl, hb1⟩
  have HB1 := Lib.hid hb1
  clear hb1 HC
  go_wp2_with fail
  obtain ⟨M, hM⟩ : ∃ M, auOf (H.map (·.d)) = M := ⟨_, rfl⟩
  obtain ⟨R, hR⟩ : ∃ R, M.acc 0 (bytesN t) = R := ⟨_, rfl⟩
  rw [hM, hR] at HE
  have HM := Lib.hid hM
  have H0 : Hid (((0 : Int) = -1 ∧ R = false) ∨ ∃ x : Nat, (0 : Int) = x ∧ x < n ∧ R = M.acc x (bytesN (t.drop 0))) := .inr ⟨0, rfl, hn0, hR.symm⟩
  clear hM hR
  go_loopw [5, 6] (fun zv iv wr => ∃ (i : Nat) (z : Int), i ≤ t.length ∧ iv = .int .i64 i ∧ zv = .int .i64 z ∧ Hid ((z = -1 ∧ R = false) ∨ ∃ x : Nat, z = x ∧ x < n ∧ R = M.acc x (bytesN (t.drop i))) ∧ Hid (Below w.heap.size w wr)) (fun _ iv _ => t.length - (intOf iv).toNat)
  case atStart => exact ⟨0, 0, Nat.zero_le _, rfl, rfl, H0, HB1⟩
  case round =>
    clear H0 HB1
    obtain ⟨i, z, hi, rfl, rfl, HZ, HB⟩ := hrel
    have HW := Lib.hid (HS.out.keep (HB.out.mono hB) (Nat.le_refl _))
    rcases HZ.out with ⟨rfl, hR⟩ | ⟨x, rfl, hxn, hR⟩
    · have HE2 : Hid (takesB (H.map (·.d)) t = false) := HE.out.trans hR
      by_cases hil : i < t.length
      · have g1 : decide ((i : Int) < (t.length : Int)) = true := decide_eq_true (by omega)
        have g2 : decide (i < t.length) = true := decide_eq_true hil
        clear hR
        go_wp2_with fail
        go_ret
        exact ⟨by rw [HE2.out]; rfl, HB.out⟩
      · have g1 : decide ((i : Int) < (t.length : Int)) = false := decide_eq_false (by omega)
        have g2 : decide (i < t.length) = false := decide_eq_false hil
        clear hR
        go_wp2_with fail
        go_ret
        exact ⟨by rw [HE2.out]; rfl, HB.out⟩
    · by_cases hil : i < t.length
      · have g1 : decide ((i : Int) < (t.length : Int)) = true := decide_eq_true (by omega)
        have g2 : decide (i < t.length) = true := decide_eq_true hil
        have g3 : decide ((x : Int) ≥ 0) = true := decide_eq_true (by omega)
        have hz := byte_at t i (by show i < t.toArray.size; simpa using hil)
        obtain ⟨b8, hb8⟩ : ∃ b : Nat, (t.getD i 0).toNat = b := ⟨_, rfl⟩
        have hb256 : b8 < 256 := by rw [← hb8]; exact (t.getD i 0).toNat_lt
        have hdrop : bytesN (t.drop i) = b8 :: bytesN (t.drop (i + 1)) := by
          rw [List.drop_eq_getElem_cons hil, ← hb8, List.getD_eq_getElem?_getD, List.getElem?_eq_getElem hil]
          rfl
        rw [hb8] at hz
        have hst := stepI_au HG.out (x := x) (by rw [List.length_map, hlen]; exact hxn) b8
        rw [HM.out, List.length_map, hlen] at hst
        rw [hdrop, Au.acc, if_pos hb256] at hR
        have HSTEP := Lib.hid (dstep_any wr B (Nat.le_trans hB HB.out.size) A n c H HW.out (x : Nat) (b8 : Nat) ⟨by omega, by omega⟩)
        have i0 : (0 : Int) ≤ (i : Int) := by omega
        have i1 : (i : Int) < (t.length : Int) := by omega
        have HN : Hid ((stepI (H.map (·.d)) (x : Nat) (b8 : Nat) = -1 ∧ R = false) ∨ ∃ y : Nat, stepI (H.map (·.d)) (x : Nat) (b8 : Nat) = y ∧ y < n ∧ R = M.acc y (bytesN (t.drop (i + 1)))) := by
          rcases hst with ⟨h1, h2⟩ | ⟨y, h1, h2, h3⟩
          · rw [h2] at hR
            exact .inl ⟨h1, hR⟩
          · rw [h2] at hR
            exact .inr ⟨y, h1, h3, hR⟩
        generalize stepI (H.map (·.d)) (x : Nat) (b8 : Nat) = z2 at *
        clear hR hdrop hst hb8
        go_wp2_with fail
        refine HSTEP.out.mono ?_
        rintro e w2 ⟨rfl, hb2⟩
        have HB2 := Lib.hid (bcall HB.out hb2)
        clear hb2
        go_wp2_with fail
        go_roundw
        case rel => exact ⟨i + 1, z2, by omega, by go_num, rfl, HN, HB2⟩
        case measure => simp [intOf]; omega
      · obtain rfl : i = t.length := by omega
        obtain ⟨b, off, rfl, hb, hcell⟩ := HW.out.at_ hn0
        obtain ⟨y, hy⟩ : ∃ y, H[x]? = some y := ⟨H[x]'(by omega), List.getElem?_eq_getElem _⟩
        obtain ⟨k0, _⟩ := hcell x y hy
        have hfin : R = y.d.1 := by
          rw [hR, List.drop_of_length_le (Nat.le_refl _)]
          show M.fin x = _
          rw [← HM.out]
          show (((H.map (·.d))[x]?).map (·.1)).getD false = _
          rw [List.getElem?_map, hy]
          rfl
        have HE2 : Hid (takesB (H.map (·.d)) t = y.d.1) := HE.out.trans hfin
        have g1 : decide ((t.length : Int) < (t.length : Int)) = false := decide_eq_false (by omega)
        have g2 : decide (t.length < t.length) = false := decide_eq_false (by omega)
        have g3 : decide ((x : Int) ≥ 0) = true := decide_eq_true (by omega)
        have i0 : (0 : Int) ≤ (x : Int) := by omega
        have i1 : (x : Int) < (n : Int) := by omega
        clear hR hfin hcell hy
        go_wp2_with fail
        go_ret
        exact ⟨by rw [HE2.out]; rfl, HB.out⟩
end Go.Proofs.YtclahhkcbkpofaaDoor
