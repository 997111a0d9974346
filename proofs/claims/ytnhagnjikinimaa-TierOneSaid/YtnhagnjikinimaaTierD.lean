/- The reference's Tier; whether two lists of numbers are the same; the segments of a list of numbers. -/
import Derived.Test.YtnhagnjikinimaaTierA
import Derived.Test.YtnhagnjikinimaaTierB
namespace Go.Proofs.Ytnhagnjikinimaa
open Go.RowKit

theorem div_step {n m : Int} {k : Nat} (h : Hid (m = n / P4 k)) : Hid (m / 4 = n / P4 (k + 1)) := by
  have h := h.out
  show _ = _
  rw [h, P4_succ, Int.mul_comm, Int.ediv_ediv_of_nonneg (by have := P4_pos k; omega)]
theorem div_le {n m : Int} {k : Nat} (h : Hid (m = n / P4 k)) : 32 ≤ m ↔ 32 * P4 k ≤ n := by
  have h := h.out
  rw [h, Int.le_ediv_iff_mul_le (by have := P4_pos k; omega)]

set_option maxHeartbeats 400000 in
theorem rtier_any (n : Int) (hn : n ≤ 9223372036854775807) (w : World) : Calls Try.prog 14 #[.int .i64 n] w fun e w' => e = .returned (.int .i64 (tierN n)) ∧ w = w' := by
  go_enter Try.func14, Try.ntmps14
  go_wp2
  go_loop [0, 3] (fun a t => ∃ (k : Nat) (m : Int), k ≤ 20 ∧ t = .int .i64 k ∧ a = .int .i64 m ∧ m ≤ 9223372036854775807 ∧ Hid (m = n / P4 k) ∧ Hid (tierN n = tierFrom n (20 - k) k)) (fun _ t => 20 - (intOf t).toNat)
  case atStart => exact ⟨0, n, by omega, rfl, rfl, hn, by show _ = _; simp [P4], rfl⟩
  case round =>
    obtain ⟨k, m, hk, rfl, rfl, hm, hd, hn⟩ := hrel
    by_cases h1 : 32 ≤ m
    · by_cases h2 : k < 20
      · go_wp2
        go_round
        case rel => exact ⟨k + 1, m / 4, by omega, by go_num, rfl, by omega, div_step hd, hn.out.trans (tier_step h2 ((div_le hd).1 h1))⟩
        case measure => simp [intOf]; omega
      · go_wp2
        go_ret
        exact ⟨ret_int (by rw [hn.out, tier_end h2 hk]), rfl⟩
    · have hx : n < 32 * P4 k := by have := (div_le hd).2; omega
      have HX := Lib.hid hx
      clear hx
      go_wp2
      go_ret
      exact ⟨ret_int (by rw [hn.out, tier_stop HX.out]), rfl⟩

def ints (l : List Int) : List Value := l.map (.int .i64)
theorem ints_at {w : World} {B n : Nat} {A : Option Addr} {l : List Int} (h : Sl w B 1 A n (ints l)) (hn : n = l.length) {k : Nat} (hk : k < l.length) :
    ∃ b off, A = some ⟨b, off, none⟩ ∧ b < B ∧ w.cell? ⟨b, off + k, none⟩ = some (.int .i64 l[k]) := by
  obtain ⟨b, off, hA, hb, hc⟩ := h.at_ (k := k) (by omega)
  exact ⟨b, off, hA, hb, hc k _ (by simp [ints, hk])⟩

def SameInts (l m : List Int) : Bool := decide (l = m)
theorem same_len {l m : List Int} (h : l.length ≠ m.length) : SameInts l m = false := by
  unfold SameInts; rw [decide_eq_false_iff_not]; intro e; exact h (by rw [e])
theorem same_succ {l m : List Int} {k : Nat} (hl : k < l.length) (hm : k < m.length) (h : Hid (l.take k = m.take k)) (he : l[k] = m[k]) : Hid (l.take (k + 1) = m.take (k + 1)) := by
  have h := h.out
  show _ = _
  rw [List.take_succ_eq_append_getElem hl, List.take_succ_eq_append_getElem hm, h, he]
theorem same_bad {l m : List Int} {k : Nat} (hl : k < l.length) (hm : k < m.length) (he : l[k] ≠ m[k]) : false = SameInts l m := by
  unfold SameInts; rw [eq_comm, decide_eq_false_iff_not]; intro e; subst e; exact he rfl
theorem same_end {l m : List Int} {k : Nat} (hl : ¬ k < l.length) (hm : l.length = m.length) (h : Hid (l.take k = m.take k)) : true = SameInts l m := by
  have h := h.out
  rw [List.take_of_length_le (by omega), List.take_of_length_le (by omega)] at h
  unfold SameInts; rw [eq_comm, decide_eq_true_iff]; exact h

set_option maxHeartbeats 1000000 in
theorem numbers_any (A1 A2 : Option Addr) (c1 c2 B : Nat) (l m : List Int) (w : World) (h1 : Sl w B 1 A1 l.length (ints l)) (h2 : Sl w B 1 A2 m.length (ints m)) (hl : l.length ≤ 281474976710656) :
    Calls Try.prog 10 #[.slice A1 l.length c1, .slice A2 m.length c2] w fun e w' => e = .returned (.bool (SameInts l m)) ∧ ∃ q, w' = w.drewN q := by
  by_cases hlen : l.length = m.length
  · have HL := Lib.hid hlen
    have hb1 : ((l.length : Int) != (m.length : Int)) = false := by simp [hlen]
    clear hlen
    go_enter Try.func10, Try.ntmps10
    go_wp2
    go_loopw [5] (fun i wr => ∃ k : Nat, k ≤ l.length ∧ i = .int .i64 k ∧ Hid (l.take k = m.take k) ∧ ∃ q, wr = w.drewN q) (fun i _ => l.length - (intOf i).toNat)
    case atStart => exact ⟨0, by omega, rfl, rfl, 0, rfl⟩
    case round =>
      obtain ⟨k, hk, rfl, hs, q, rfl⟩ := hrel
      by_cases hlt : k < l.length
      · have hlt2 : k < m.length := by have := HL.out; omega
        obtain ⟨b1, o1, rfl, hB1, hc1⟩ := ints_at h1 rfl hlt
        obtain ⟨b2, o2, rfl, hB2, hc2⟩ := ints_at h2 rfl hlt2
        by_cases he : l[k] = m[k]
        · have HE := Lib.hid he
          have hb : (l[k] != m[k]) = false := by simp [he]
          clear he
          go_wp2
          go_quiet (fail)
          go_wp2
          go_roundw
          case rel => exact ⟨k + 1, by omega, by go_num, same_succ hlt hlt2 hs HE.out, _, rfl⟩
          case measure => simp [intOf]; omega
        · have hb : (l[k] != m[k]) = true := by simpa using he
          go_wp2
          go_quiet (fail)
          go_wp2
          go_ret
          exact ⟨ret_bool (same_bad hlt hlt2 he), _, World.drewN_drewN _ _ _⟩
      · go_wp2
        go_ret
        exact ⟨ret_bool (same_end hlt HL.out hs), _, rfl⟩
  · have hb1 : ((l.length : Int) != (m.length : Int)) = true := by simp; omega
    go_enter Try.func10, Try.ntmps10
    go_wp2
    go_ret
    exact ⟨ret_bool (same_len hlen).symm, 0, rfl⟩
end Go.Proofs.Ytnhagnjikinimaa
