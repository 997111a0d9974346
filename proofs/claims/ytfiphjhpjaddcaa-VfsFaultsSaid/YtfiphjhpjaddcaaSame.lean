/- glossref02.Same: are two lists of texts alike? -/
import Derived.Test.YtfiphjhpjaddcaaNew
namespace Go.Proofs.Ytfiphjhpjaddcaa
open Go.RowKit Go.Maps

theorem tolist_inj {s t : ByteArray} : s.toList = t.toList ↔ s = t := by
  constructor
  · intro h
    have h' : s.data.toList = t.data.toList := by rw [← ByteArray.toList_eq s, ← ByteArray.toList_eq t]; exact h
    have : s.data = t.data := Array.ext' h'
    cases s; cases t; simp_all
  · rintro rfl; rfl
theorem take_all_eq {α : Type} {xs ys : List α} (hl : xs.length = ys.length) {k : Nat} (hk : k = xs.length) (h : xs.take k = ys.take k) : xs = ys := by
  subst hk
  rwa [List.take_length, hl, List.take_length] at h
set_option maxRecDepth 100000 in
set_option maxHeartbeats 2000000 in
theorem same_any (w : World) (B : Nat) (A A' : Option Addr) (n n' c c' : Nat) (xs ys : List ByteArray) (hx : Sl w B 1 A n (xs.map .string)) (hy : Sl w B 1 A' n' (ys.map .string)) (hB : B ≤ w.heap.size) (hn : n ≤ maxLen) (hn' : n' ≤ maxLen) :
    Calls Try.prog 26 #[.slice A n c, .slice A' n' c'] w fun e w' => e = .returned (.bool (decide (xs = ys))) ∧ Below w.heap.size w w' := by
  have hlx : xs.length = n := by have := hx.1; simpa using this
  have hly : ys.length = n' := by have := hy.1; simpa using this
  unfold maxLen at hn hn'
  by_cases hnn : n = n'
  · subst hnn
    have HX := Lib.hid hx
    have HY := Lib.hid hy
    have HLX := Lib.hid hlx
    have HLY := Lib.hid hly
    clear hx hy hlx hly hn'
    go_enter Try.func26, Try.ntmps26
    go_wp2_with fail
    go_loopw [5] (fun i wr => ∃ k : Nat, k ≤ n ∧ i = .int .i64 k ∧ Below w.heap.size w wr ∧ Hid (xs.take k = ys.take k)) (fun i _ => n - (intOf i).toNat)
    case atStart => exact ⟨0, Nat.zero_le _, rfl, brefl w, rfl⟩
    case round =>
      obtain ⟨k, hk, rfl, hb, hall⟩ := hrel
      have HB := Lib.hid hb
      by_cases hlt : k < n
      · obtain ⟨b, off, rfl, hbB, hcell⟩ := HX.out.at_ hlt
        obtain ⟨b', off', rfl, hbB', hcell'⟩ := HY.out.at_ hlt
        obtain ⟨s, hks⟩ : ∃ s, xs[k]? = some s := ⟨xs[k]'(by rw [HLX.out]; exact hlt), List.getElem?_eq_getElem _⟩
        obtain ⟨t, hkt⟩ : ∃ t, ys[k]? = some t := ⟨ys[k]'(by rw [HLY.out]; exact hlt), List.getElem?_eq_getElem _⟩
        have hc : wr.cell? ⟨b, off + k, none⟩ = some (.string s) := (hb.cell (p := ⟨b, off + k, none⟩) (by show b < _; omega)).trans (hcell k _ (by simp [hks]))
        have hc' : wr.cell? ⟨b', off' + k, none⟩ = some (.string t) := (hb.cell (p := ⟨b', off' + k, none⟩) (by show b' < _; omega)).trans (hcell' k _ (by simp [hkt]))
        have HK := Lib.hid hks
        have HT := Lib.hid hkt
        have HBd : Hid (Below w.heap.size w wr.drew) := ⟨hb.os, hb.tape, hb.output, hb.size, hb.block⟩
        clear hcell hcell' hb hks hkt
        by_cases hst : s = t
        · subst hst
          have hne : (s.toList == s.toList) = true := by simp
          go_wp2_with fail
          try go_region
          all_goals
            go_wp2_with fail
            go_roundw
            case rel => exact ⟨k + 1, by omega, by go_num, HBd.out, by
              show _ = _
              rw [List.take_add_one, List.take_add_one, hall.out, HK.out, HT.out]⟩
            case measure => simp [intOf]; omega
        · have hne : (s.toList == t.toList) = false := by
            rw [beq_eq_false_iff_ne]; exact fun h => hst (tolist_inj.1 h)
          have hr : Hid (decide (xs = ys) = false) := by
            show _ = _
            rw [decide_eq_false_iff_not]
            rintro rfl
            have := HK.out.symm.trans HT.out
            exact hst (Option.some.inj this)
          clear hst
          go_wp2_with fail
          try go_region
          all_goals
            go_wp2_with fail
            go_ret
            exact ⟨ret_bool hr.out.symm, HBd.out⟩
      · obtain rfl : k = n := by omega
        have hr : Hid (decide (xs = ys) = true) := by
          show _ = _
          rw [decide_eq_true_iff]
          exact take_all_eq (by rw [HLX.out, HLY.out]) HLX.out.symm hall.out
        clear hb
        go_wp2_with fail
        go_ret
        exact ⟨ret_bool hr.out.symm, HB.out⟩
  · have hr : Hid (decide (xs = ys) = false) := by
      show _ = _
      rw [decide_eq_false_iff_not]
      rintro rfl
      exact hnn (by omega)
    have q : (((n : Nat) : Int) != ((n' : Nat) : Int)) = true := by simp; omega
    clear hx hy hlx hly hnn
    go_enter Try.func26, Try.ntmps26
    go_wp2_with fail
    go_ret
    exact ⟨ret_bool hr.out.symm, brefl w⟩
end Go.Proofs.Ytfiphjhpjaddcaa
