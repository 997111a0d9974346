/- The document's answers: characters, bytes, counts. -/
import Derived.Test.YtnccbmbicgkhmaaAw
import Derived.Test.YtnccbmbicgkhmaaRowl
namespace Go.Proofs.Ytnccbmbicgkhmaa
open Go.RowKit

set_option maxHeartbeats 1000000 in
theorem rwhole_any (c : Int) (w : World) : Calls Try.prog 10 #[.int .i64 c] w fun e w' => e = .returned (.bool (wholeB c)) ∧ w = w' := by
  by_cases h : 0 ≤ c ∧ c ≤ 1114111 ∧ (c < 55296 ∨ 57343 < c)
  · rw [wholeB_yes h]
    obtain ⟨h1, h2, h3⟩ := h
    by_cases h4 : c < 55296
    all_goals
      go_enter Try.func10, Try.ntmps10
      go_wp2
      all_goals
        go_ret
        refine ⟨ret_bool ?_, rfl⟩
        simp
        try omega
  · rw [wholeB_no h]
    go_enter Try.func10, Try.ntmps10
    go_wp2
    all_goals
      go_ret
      refine ⟨ret_bool ?_, rfl⟩
      simp
      try omega

set_option maxHeartbeats 1000000 in
theorem one_any (c : Int) (hw : wholeB c = true) (w : World) : Calls Try.prog 19 #[.int .i64 c] w fun e w' => e = .returned (.string (strOfNums (encC c))) ∧ Below w.heap.size w w' := by
  obtain ⟨c0, c1, _⟩ := whole_of hw
  have kc : ∀ zs : List Int, ∀ n, zs.length = n → n ≤ 4 → (convert 54 9 (.slice (some ⟨w.heap.size, 0, none⟩) n n)).run Try.prog (w.alloc (.cells (zs.map (Value.int .u8)).toArray 5)) = .ok (.string (strOfNums zs)) (w.alloc (.cells (zs.map (Value.int .u8)).toArray 5)) := by
    intro zs n hn h4
    have := own_new w (zs.map (Value.int .u8)).toArray 5 1 n (by simp [hn]) (by unfold maxLen; omega) rfl (Nat.le_refl _)
    exact convert_own (P := Try.prog) Try.underlying54 Try.underlying5 (dst := 9) Try.underlying9 (by simpa using this)
  rcases enc_case (c := c) with ⟨h, f⟩ | ⟨h, h2, f⟩ | ⟨h, h2, f⟩ | ⟨h, f⟩
  · have k := kc [c] 1 rfl (by omega)
    have e1 : c % 256 = c := by omega
    have HF := Lib.hid f
    clear kc f hw
    simp only [List.map_cons, List.map_nil] at k
    go_enter Try.func19, Try.ntmps19
    go_wp2
    go_ret
    exact ⟨by rw [HF.out]; rfl, bnew (brefl w) _⟩
  · have k := kc [192 + c / 64, 128 + c % 64] 2 rfl (by omega)
    have HF := Lib.hid f
    clear kc f hw
    simp only [List.map_cons, List.map_nil] at k
    go_enter Try.func19, Try.ntmps19
    go_wp2
    go_ret
    exact ⟨by rw [HF.out]; rfl, bnew (brefl w) _⟩
  · have k := kc [224 + c / 4096, 128 + c / 64 % 64, 128 + c % 64] 3 rfl (by omega)
    have HF := Lib.hid f
    clear kc f hw
    simp only [List.map_cons, List.map_nil] at k
    go_enter Try.func19, Try.ntmps19
    go_wp2
    go_ret
    exact ⟨by rw [HF.out]; rfl, bnew (brefl w) _⟩
  · have k := kc [240 + c / 262144, 128 + c / 4096 % 64, 128 + c / 64 % 64, 128 + c % 64] 4 rfl (by omega)
    have HF := Lib.hid f
    clear kc f hw
    simp only [List.map_cons, List.map_nil] at k
    go_enter Try.func19, Try.ntmps19
    go_wp2
    go_ret
    exact ⟨by rw [HF.out]; rfl, bnew (brefl w) _⟩

/-- Of one character. -/
theorem rencode_one (w : World) (c : Int) (hw : wholeB c = true) : Calls Try.prog 16 #[.slice (some ⟨w.heap.size, 0, none⟩) 1 1] (w.alloc (.cells #[.int .i64 c] 3)) fun e w' => e = .returned (.tuple #[.string (strOfNums (encC c)), .int .i64 0]) ∧ Below w.heap.size w w' := by
  have HW := Lib.hid (rwhole_any c)
  have HO := Lib.hid (one_any c hw)
  have HY := Lib.hid hw
  obtain ⟨s, hs⟩ : ∃ s, strOfNums (encC c) = s := ⟨_, rfl⟩
  have hsz : s.size ≤ 4 := by rw [← hs, strOfNums_size]; exact (encC_len c).2
  have he0 : (ByteArray.mk #[]).size + s.size ≤ 9223372036854775807 := by
    have : (ByteArray.mk #[]).size = 0 := rfl
    omega
  have hcat : ∀ w : World, (Op.stringOp .add (ByteArray.mk #[]) s).run Try.prog w = .ok (.string s) w := fun w => by
    rw [run_string_add_sum w (ByteArray.mk #[]) s he0]
    congr 2
  clear he0
  rw [hs] at HO
  rw [hs]
  clear hs hw
  go_enter Try.func16, Try.ntmps16
  go_wp2_with fail
  refine wp_loop_rounds 2 ?_
  rw [rounds_succ]
  go_wp2_with fail
  refine (HW.out _).mono ?_
  rw [HY.out]
  rintro e w1 ⟨rfl, rfl⟩
  go_wp2_with fail
  refine (HO.out _).mono ?_
  rintro e w2 ⟨rfl, hb2⟩
  have hB := (bnew (brefl w) (.cells #[.int .i64 c] 3)).trans (hb2.mono (by simp))
  go_wp2_with fail
  rw [rounds_succ]
  go_wp2_with fail
  go_ret2
  exact ⟨by simp, hB⟩
theorem bytes_any (c : Int) (hw : wholeB c = true) (w : World) : Calls Try.prog 12 #[.int .i64 c] w fun e w' => e = .returned (.string (strOfNums (encC c))) ∧ Below w.heap.size w w' := by
  have HC := Lib.hid (rencode_one w c hw)
  generalize strOfNums (encC c) = s at *
  clear hw
  go_enter Try.func12, Try.ntmps12
  go_wp2_with fail
  refine HC.out.mono ?_
  rintro e w1 ⟨rfl, hb1⟩
  go_wp2_with fail
  go_ret
  exact ⟨rfl, hb1⟩

/-- A row of ranges reads so. -/
def Rd (w : World) (b : Nat) (r : List (Int × Int)) : Prop := ∀ (q : Nat) (u : Value), (flatR r)[q]? = some u → w.cell? ⟨b, q, none⟩ = some u
theorem flatR_at' {r : List (Int × Int)} {k : Nat} {x y : Int} (h : r[k]? = some (x, y)) : (flatR r)[k * 2]? = some (.int .i64 x) ∧ (flatR r)[k * 2 + 1]? = some (.int .i64 y) :=
  ⟨flat_at _ 2 (fun _ => rfl) r k 0 (x, y) h (by omega), flat_at _ 2 (fun _ => rfl) r k 1 (x, y) h (by omega)⟩
theorem countR_snoc (r : List (Int × Int)) (p : Int × Int) : countR (r ++ [p]) = countR r * (p.2 - p.1 + 1) := by simp [countR]
theorem count_take {r : List (Int × Int)} (hr : ∀ p ∈ r, 0 ≤ p.1 ∧ p.1 ≤ p.2 ∧ p.2 ≤ 255) : ∀ k, k ≤ r.length → 0 ≤ countR (r.take k) ∧ countR (r.take k) ≤ 256 ^ k := by
  intro k
  induction k with
  | zero => intro _; simp [countR]
  | succ k ih =>
    intro hk
    obtain ⟨a, b⟩ := ih (by omega)
    have hm := hr r[k] (List.getElem_mem _)
    rw [List.take_succ_eq_append_getElem (by omega), countR_snoc]
    constructor
    · exact Int.mul_nonneg a (by omega)
    · rw [Int.pow_succ]
      exact Int.mul_le_mul b (by omega) (by omega) (Int.le_trans a b)
theorem count_small {r : List (Int × Int)} (hr : rowOk r) {k : Nat} (hk : k ≤ r.length) : 0 ≤ countR (r.take k) ∧ countR (r.take k) ≤ 4294967296 := by
  obtain ⟨h1, h4, hp⟩ := hr
  obtain ⟨a, b⟩ := count_take hp k hk
  refine ⟨a, Int.le_trans b ?_⟩
  obtain rfl | rfl | rfl | rfl | rfl : k = 0 ∨ k = 1 ∨ k = 2 ∨ k = 3 ∨ k = 4 := by omega
  all_goals decide

set_option maxRecDepth 100000 in
set_option maxHeartbeats 2000000 in
theorem count_any (b cap : Nat) (r : List (Int × Int)) (w : World) (h : Rd w b r) (hr : rowOk r) : Calls Try.prog 7 #[.slice (some ⟨b, 0, none⟩) r.length cap] w fun e w' => e = .returned (.int .i64 (countR r)) ∧ Below w.heap.size w w' := by
  have HRD := Lib.hid h
  have HRO := Lib.hid hr
  obtain ⟨m, hm⟩ : ∃ m, r.length = m := ⟨_, rfl⟩
  have hm4 : m ≤ 4 := by have := hr.2.1; omega
  rw [hm]
  have HM := Lib.hid hm
  clear hm h hr
  go_enter Try.func7, Try.ntmps7
  go_wp2_with fail
  go_loopw [3, 4] (fun v i wr => ∃ k : Nat, k ≤ m ∧ i = .int .i64 k ∧ v = .int .i64 (countR (r.take k)) ∧ ∃ q, wr = w.drewN q) (fun _ i _ => m - (intOf i).toNat)
  case atStart => exact ⟨0, Nat.zero_le _, rfl, rfl, 0, rfl⟩
  case round =>
    obtain ⟨k, hk, rfl, rfl, q, rfl⟩ := hrel
    by_cases hlt : k < m
    · obtain ⟨⟨x, y⟩, hxy⟩ : ∃ p, r[k]? = some p := ⟨r[k]'(by rw [HM.out]; exact hlt), List.getElem?_eq_getElem _⟩
      obtain ⟨x0, x1, x2⟩ := HRO.out.2.2 (x, y) (List.mem_of_getElem? hxy)
      dsimp only at x0 x1 x2
      obtain ⟨e1, e2⟩ := flatR_at' hxy
      have b1 : w.cell? ⟨b, k * 2, none⟩ = _ := HRD.out _ _ e1
      have b2 : w.cell? ⟨b, k * 2 + 1, none⟩ = _ := HRD.out _ _ e2
      have hs : countR (r.take (k + 1)) = countR (r.take k) * (y - x + 1) := by
        obtain ⟨hl, he⟩ := List.getElem?_eq_some_iff.1 hxy
        rw [List.take_succ_eq_append_getElem hl, countR_snoc, he]
      have hb1 := count_small HRO.out (k := k + 1) (by rw [HM.out]; omega)
      have hb0 := count_small HRO.out (k := k) (by rw [HM.out]; omega)
      obtain ⟨d, hd⟩ : ∃ d, y - x + 1 = d := ⟨_, rfl⟩
      rw [hd] at hs
      rw [hs] at hb1
      have HS := Lib.hid hs
      clear hs
      generalize countR (r.take k) = p at *
      obtain ⟨pd, hpd⟩ : ∃ z, p * d = z := ⟨_, rfl⟩
      rw [hpd] at hb1
      have w1 : IntKind.i64.wrap (y - x) = y - x := IntWalk.i64_in _ (by omega)
      have w2 : IntKind.i64.wrap (y - x + 1) = d := by rw [hd]; exact IntWalk.i64_in _ (by omega)
      have w3 : IntKind.i64.wrap (p * d) = pd := by rw [hpd]; exact IntWalk.i64_in _ (by omega)
      have HPD := Lib.hid hpd
      have i0 : (0 : Int) ≤ (k : Int) := by omega
      have i1 : (k : Int) < (m : Int) := by omega
      clear hpd hd e1 e2 hxy
      go_wp2_with fail
      go_quiet (fail)
      clear w1 w2 w3
      go_wp2_with fail
      go_roundw
      case rel => exact ⟨k + 1, by omega, by go_num, by rw [HS.out, HPD.out], _, rfl⟩
      case measure => simp [intOf]; omega
    · obtain rfl : k = m := by omega
      have ht : r.take k = r := List.take_of_length_le (by rw [HM.out]; exact Nat.le_refl _)
      rw [ht]
      clear ht
      go_wp2_with fail
      go_ret
      exact ⟨rfl, below_drewN (brefl w) q⟩

def spanC (lo hi x y : Int) : Int := if max lo x ≤ min hi y then min hi y - max lo x + 1 else 0
def spanA (lo hi : Int) : Int := spanC lo hi 0 55295 + spanC lo hi 57344 1114111
theorem span_le (lo hi x y : Int) : 0 ≤ spanC lo hi x y ∧ (spanC lo hi x y ≤ y - x + 1 ∨ spanC lo hi x y = 0) := by
  unfold spanC
  split <;> omega
set_option maxRecDepth 100000 in
set_option maxHeartbeats 4000000 in
theorem chars_any (lo hi : Int) (w : World) (wl : (Lit.int .i64 lo).wf = true) (wh : (Lit.int .i64 hi).wf = true) : Calls Try.prog 9 #[.int .i64 lo, .int .i64 hi] w fun e w' => e = .returned (.int .i64 (spanA lo hi)) ∧ Below w.heap.size w w' := by
  obtain ⟨a1, a2⟩ := bounds_i64 wl
  obtain ⟨b1, b2⟩ := bounds_i64 wh
  have s1 := span_le lo hi 0 55295
  have s2 := span_le lo hi 57344 1114111
  have hS : Hid (spanA lo hi = spanC lo hi 0 55295 + spanC lo hi 57344 1114111) := rfl
  obtain ⟨u, hu⟩ : ∃ u, spanC lo hi 0 55295 = u := ⟨_, rfl⟩
  obtain ⟨v, hv⟩ : ∃ v, spanC lo hi 57344 1114111 = v := ⟨_, rfl⟩
  rw [hu] at s1 hS
  rw [hv] at s2 hS
  have HU := Lib.hid hu
  have HV := Lib.hid hv
  have b0 : 0 ≤ u := s1.1
  have b3 : u ≤ 55296 := by omega
  have b4 : 0 ≤ v := s2.1
  have b5 : v ≤ 1114112 := by omega
  clear hu hv s1 s2 wl wh
  go_enter Try.func9, Try.ntmps9
  go_wp2_with fail
  go_loop [5, 7] (fun n i => ∃ j : Nat, (j = 0 ∨ j = 1 ∨ j = 2) ∧ i = .int .i64 j ∧ n = .int .i64 (if j = 0 then 0 else if j = 1 then u else u + v)) (fun _ i => 2 - (intOf i).toNat)
  case atStart => exact ⟨0, by omega, rfl, rfl⟩
  case round =>
    obtain ⟨j, hj, rfl, rfl⟩ := hrel
    obtain rfl | rfl | rfl := hj
    · simp only [if_pos]
      go_wp2_with fail
      all_goals
        go_round
        case rel => exact ⟨1, by omega, rfl, by rw [if_neg (by omega), if_pos rfl]; congr 1; rw [← HU.out]; unfold spanC; first | (rw [if_pos (by omega)]; omega) | (rw [if_neg (by omega)])⟩
        case measure => simp [intOf]
    · rw [if_neg (by omega), if_pos rfl]
      go_wp2_with fail
      all_goals
        go_round
        case rel => exact ⟨2, by omega, rfl, by rw [if_neg (by omega), if_neg (by omega)]; congr 1; rw [← HV.out]; unfold spanC; first | (rw [if_pos (by omega)]; omega) | (rw [if_neg (by omega)]; omega)⟩
        case measure => simp [intOf]
    · rw [if_neg (by omega), if_neg (by omega)]
      go_wp2_with fail
      go_ret
      exact ⟨ret_int hS.out.symm, bnew (brefl w) _⟩

/-- The bytes of a text. -/
theorem fits_step {r : List (Int × Int)} {zs : List Int} (hl : r.length = zs.length) : fitsR r zs = true ↔ ∀ (k : Nat) (x y z : Int), r[k]? = some (x, y) → zs[k]? = some z → x ≤ z ∧ z ≤ y := by
  unfold fitsR
  rw [hl]
  simp only [beq_self_eq_true, Bool.true_and, List.all_eq_true, Bool.and_eq_true, decide_eq_true_iff]
  constructor
  · intro h k x y z hx hz
    exact h ((x, y), z) (List.mem_of_getElem? (i := k) (List.getElem?_zip_eq_some.2 ⟨hx, hz⟩))
  · intro h p hp
    obtain ⟨k, hk⟩ := List.mem_iff_getElem?.1 hp
    obtain ⟨a, b⟩ := List.getElem?_zip_eq_some.1 hk
    exact h k p.1.1 p.1.2 p.2 a b

set_option maxRecDepth 100000 in
set_option maxHeartbeats 4000000 in
theorem fits_any (b cap : Nat) (r : List (Int × Int)) (s : ByteArray) (zs : List Int) (w : World) (h : Rd w b r) (hr : r.length ≤ 4) (hs : s = strOfNums zs) (hz : ∀ z ∈ zs, 0 ≤ z ∧ z ≤ 255) : Calls Try.prog 15 #[.slice (some ⟨b, 0, none⟩) r.length cap, .string s] w fun e w' => e = .returned (.bool (fitsR r zs)) ∧ Below w.heap.size w w' := by
  have hsl : s.size = zs.length := by rw [hs, strOfNums_size]
  have hby : ∀ k z (hk : k < s.size), zs[k]? = some z → ((s[k].toNat : Nat) : Int) = z := by
    intro k z hk hz'
    have h1 := byte_at s k hk
    subst hs
    rw [strOfNums_data, List.getElem?_map, hz'] at h1
    have := hz z (List.mem_of_getElem? hz')
    injection h1 with h1
    rw [← h1, UInt8.toNat_ofNat']
    omega
  have HBY := Lib.hid hby
  have HRD := Lib.hid h
  obtain ⟨m, hm⟩ : ∃ m, r.length = m := ⟨_, rfl⟩
  obtain ⟨n, hn⟩ : ∃ n, s.size = n := ⟨_, rfl⟩
  have HN := Lib.hid hn
  have HM := Lib.hid hm
  have HSL := Lib.hid hsl
  rw [hm] at hr ⊢
  clear hby hz hs h hm
  by_cases hmn : m = n
  · subst hmn
    have hrz : r.length = zs.length := by rw [HM.out, ← HSL.out, HN.out]
    have HF := Lib.hid (fits_step hrz)
    have z1 : (m == m) = true := by simp
    have z2 : (m != m) = false := by simp
    rw [hn] at hsl
    have HRZ := Lib.hid hrz
    clear hsl hrz
    go_enter Try.func15, Try.ntmps15
    go_wp2_with fail
    clear z1 z2
    go_loopw [5] (fun i wr => ∃ k : Nat, k ≤ m ∧ i = .int .i64 k ∧ (∃ q, wr = w.drewN q) ∧ Hid (∀ j : Nat, j < k → ∀ x y z : Int, r[j]? = some (x, y) → zs[j]? = some z → x ≤ z ∧ z ≤ y)) (fun i _ => m - (intOf i).toNat)
    case atStart => exact ⟨0, Nat.zero_le _, rfl, ⟨0, rfl⟩, fun j hj => by omega⟩
    case round =>
      obtain ⟨k, hk, rfl, ⟨q, rfl⟩, hall⟩ := hrel
      by_cases hlt : k < m
      · obtain ⟨⟨x, y⟩, hxy⟩ : ∃ p, r[k]? = some p := ⟨r[k]'(by rw [HM.out]; exact hlt), List.getElem?_eq_getElem _⟩
        obtain ⟨z, hzk⟩ : ∃ z, zs[k]? = some z := ⟨zs[k]'(by rw [← HRZ.out, HM.out]; exact hlt), List.getElem?_eq_getElem _⟩
        obtain ⟨e1, e2⟩ := flatR_at' hxy
        have b1 : w.cell? ⟨b, k * 2, none⟩ = _ := HRD.out _ _ e1
        have b2 : w.cell? ⟨b, k * 2 + 1, none⟩ = _ := HRD.out _ _ e2
        have hks : k < s.size := by rw [HN.out]; exact hlt
        have hsk := HBY.out k z hks hzk
        have hw : IntKind.i64.wrap ((s[k].toNat : Nat) : Int) = z := by rw [hsk]; exact IntWalk.i64_in _ (by have := s[k].toNat_lt; omega)
        have i0 : (0 : Int) ≤ (k : Int) := by omega
        have i1 : (k : Int) < (m : Int) := by omega
        have i2 : (k : Int) < (s.size : Int) := by omega
        have HX := Lib.hid hxy
        have HZ := Lib.hid hzk
        clear e1 e2 hxy hzk hsk
        by_cases c1 : z < x
        · have q1 : decide (z < x) = true := by simpa using c1
          have hno : Hid (fitsR r zs = false) := by
            rw [Hid, Bool.eq_false_iff]
            intro ht
            have := HF.out.1 ht k x y z HX.out HZ.out
            omega
          clear c1
          go_wp2_with fail
          go_quiet (fail)
          go_wp2_with fail
          go_ret
          exact ⟨ret_bool hno.out.symm, below_drewN (below_drewN (brefl w) q) _⟩
        · have q1 : decide (z < x) = false := by simpa using c1
          by_cases c2 : y < z
          · have q2 : decide (y < z) = true := by simpa using c2
            have hno : Hid (fitsR r zs = false) := by
              rw [Hid, Bool.eq_false_iff]
              intro ht
              have := HF.out.1 ht k x y z HX.out HZ.out
              omega
            clear c1 c2
            go_wp2_with fail
            go_quiet (fail)
            go_wp2_with fail
            go_ret
            exact ⟨ret_bool hno.out.symm, below_drewN (below_drewN (brefl w) q) _⟩
          · have q2 : decide (y < z) = false := by simpa using c2
            have hnx : Hid (∀ j : Nat, j < k + 1 → ∀ x y z : Int, r[j]? = some (x, y) → zs[j]? = some z → x ≤ z ∧ z ≤ y) := by
              intro j hj x' y' z' h1 h2
              by_cases e : j = k
              · subst e
                have g1 := h1.symm.trans HX.out
                have g2 := h2.symm.trans HZ.out
                injection g1 with g1
                injection g1 with g1 g3
                injection g2 with g2
                omega
              · exact hall.out j (by omega) x' y' z' h1 h2
            clear c1 c2
            go_wp2_with fail
            go_quiet (fail)
            go_wp2_with fail
            go_roundw
            case rel => exact ⟨k + 1, by omega, by go_num, ⟨_, rfl⟩, hnx⟩
            case measure => simp [intOf]; omega
      · obtain rfl : k = m := by omega
        have hy : Hid (fitsR r zs = true) := HF.out.2 fun j x y z h1 h2 => hall.out j (by have := (List.getElem?_eq_some_iff.1 h1).1; rw [HM.out] at this; exact this) x y z h1 h2
        go_wp2_with fail
        go_ret
        exact ⟨ret_bool hy.out.symm, below_drewN (brefl w) _⟩
  · have hno : Hid (fitsR r zs = false) := fits_len (by rw [HM.out, ← HSL.out, HN.out]; exact hmn)
    have z1 : (m == n) = false := by simpa using hmn
    have z2 : (m != n) = true := by simpa using hmn
    have z3 : decide ((m : Int) = (n : Int)) = false := by simp; omega
    clear hsl
    rw [HN.out.symm] at z1 z2 z3 hmn
    go_enter Try.func15, Try.ntmps15
    go_wp2_with fail
    go_ret
    exact ⟨ret_bool hno.out.symm, brefl w⟩
end Go.Proofs.Ytnccbmbicgkhmaa
