/- Names of files: vfs.Name. -/
import Derived.Test.YtfiphjhpjaddcaaMore
import Derived.Test.YtfiphjhpjaddcaaProg
import Derived.Lib.SlBytesRow
import Derived.Laws.IdiomStrings
namespace Go.Proofs.Ytfiphjhpjaddcaa
open Go.RowKit

def nameC (c : Int) : Bool := decide ((97 ≤ c ∧ c ≤ 122) ∨ (48 ≤ c ∧ c ≤ 57) ∨ c = 95 ∨ c = 46)
def nameB (s : ByteArray) : Bool := decide (0 < s.size ∧ s.size ≤ 40) && s.data.toList.all fun c => nameC c.toNat
/-- '[]byte(s)': a new row that holds the bytes. -/
theorem bytes_of {P : Program} (w : World) (src dst e : TypeId) (s : ByteArray) (hs : P.underlying src = some .string) (hd : P.underlying dst = some (.slice e)) (he : P.underlying e = some (.int .u8)) :
    ∃ c w1, (convert src dst (.string s)).run P w = .ok (.slice (some ⟨w.heap.size, 0, none⟩) s.size c) w1 ∧ Below w.heap.size w w1 ∧ w1.heap.size = w.heap.size + 1 ∧ ∀ (j : Nat) (h : j < s.size), w1.cell? ⟨w.heap.size, j, none⟩ = some (.int .u8 ((s[j].toNat : Nat) : Int)) := by
  refine ⟨_, _, run_bytes_of_string w src dst e s hs hd he, ?_, ?_, fun j hj => ?_⟩
  · exact (Below.refl _ w).drew.alloc (Nat.le_refl _) _
  · simp
  · have h := World.cell?_alloc_mark w.drew (bytesRow s (grownCap w s.size 0 e)) e ((bytesRow s (grownCap w s.size 0 e)).size, (bytesRow s (grownCap w s.size 0 e)).size + 1) j
    exact h.trans (bytesRow_at s _ j hj)
theorem name_no {s : ByteArray} {k : Nat} (hk : k < s.size) (h : ¬ ((97 ≤ ((s[k].toNat : Nat) : Int) ∧ ((s[k].toNat : Nat) : Int) ≤ 122) ∨ (48 ≤ ((s[k].toNat : Nat) : Int) ∧ ((s[k].toNat : Nat) : Int) ≤ 57) ∨ ((s[k].toNat : Nat) : Int) = 95 ∨ ((s[k].toNat : Nat) : Int) = 46)) : false = nameB s := by
  have : (s.data.toList.all fun c => nameC c.toNat) = false := by
    rw [List.all_eq_false]
    exact ⟨s[k], List.mem_of_getElem? (byte_at s k hk), by rw [show nameC ((s[k].toNat : Nat) : Int) = false from decide_eq_false h]; simp⟩
  unfold nameB
  rw [this, Bool.and_false]
theorem name_yes {s : ByteArray} (h0 : 0 < s.size) (h1 : s.size ≤ 40) (h : ∀ j (hj : j < s.size), nameC ((s[j].toNat : Nat) : Int) = true) : true = nameB s := by
  have : (s.data.toList.all fun c => nameC c.toNat) = true := by
    rw [List.all_eq_true]
    intro c hc
    obtain ⟨j, hj⟩ := List.mem_iff_getElem?.1 hc
    have hl : j < s.size := by
      have := (List.getElem?_eq_some_iff.1 hj).1
      simpa using this
    rw [byte_at s j hl] at hj
    injection hj with hj
    rw [← hj]
    exact h j hl
  unfold nameB
  rw [this, Bool.and_true]
  exact (decide_eq_true ⟨h0, h1⟩).symm
theorem size_nil {s : ByteArray} : s.toList = [] ↔ s.size = 0 := by
  have e : s.toList = s.data.toList := ByteArray.toList_eq s
  rw [e, Lib.size_eq, List.length_eq_zero_iff]
set_option maxRecDepth 100000 in
set_option maxHeartbeats 4000000 in
theorem name_any (s : ByteArray) (w : World) : Calls Try.prog 48 #[.string s] w fun e w' => e = .returned (.bool (nameB s)) ∧ Below w.heap.size w w' := by
  by_cases h1 : s.toList = []
  · have hz := size_nil.1 h1
    have hr : Hid (nameB s = false) := by
      show _ = _
      unfold nameB
      rw [hz]
      rfl
    have h3 : (s.toList == []) = true := by simpa using h1
    clear hz
    go_enter Try.func48, Try.ntmps48
    go_wp2_with fail
    go_ret
    exact ⟨ret_bool hr.out.symm, brefl w⟩
  · have h2 : s.toList.isEmpty = false := by simpa using h1
    have h3 : (s.toList == []) = false := by simpa using h1
    have hp : 0 < s.size := by
      rcases Nat.eq_zero_or_pos s.size with h | h
      · exact absurd (size_nil.2 h) h1
      · exact h
    by_cases h40 : s.size ≤ 40
    · have q1 : decide ((40 : Int) < (s.size : Int)) = false := by simp; omega
      obtain ⟨c, w1, kc, hb1, hs1, hcell⟩ := bytes_of (P := Try.prog) w 9 95 5 s Try.underlying9 Try.underlying95 Try.underlying5
      have HC := Lib.hid hcell
      have HB := Lib.hid hb1
      have hl : w.heap.size < w1.heap.size := by omega
      clear hcell hb1 hs1
      go_enter Try.func48, Try.ntmps48
      go_wp2_with fail
      clear q1 h1 h2 h3 kc
      go_loop [15] (fun i => ∃ k : Nat, k ≤ s.size ∧ i = .int .i64 k ∧ Hid (∀ j (hj : j < s.size), j < k → nameC ((s[j].toNat : Nat) : Int) = true)) (fun i => s.size - (intOf i).toNat)
      case atStart => exact ⟨0, Nat.zero_le _, rfl, fun j hj h => by omega⟩
      case round =>
        obtain ⟨k, hk, rfl, hall⟩ := hrel
        by_cases hlt : k < s.size
        · have hc := HC.out k hlt
          have hb := s[k].toNat_lt
          have hno := Lib.hid (name_no hlt)
          have hyes : Hid (((97 ≤ ((s[k].toNat : Nat) : Int) ∧ ((s[k].toNat : Nat) : Int) ≤ 122) ∨ (48 ≤ ((s[k].toNat : Nat) : Int) ∧ ((s[k].toNat : Nat) : Int) ≤ 57) ∨ ((s[k].toNat : Nat) : Int) = 95 ∨ ((s[k].toNat : Nat) : Int) = 46) → ∀ j (hj : j < s.size), j < k + 1 → nameC ((s[j].toNat : Nat) : Int) = true) := by
            intro h j hj hjk
            by_cases e : j = k
            · subst e; exact decide_eq_true h
            · exact hall.out j hj (by omega)
          obtain ⟨z, hz⟩ : ∃ z : Int, ((s[k].toNat : Nat) : Int) = z := ⟨_, rfl⟩
          have z0 : 0 ≤ z := by omega
          have z1 : z ≤ 255 := by omega
          rw [hz] at hc hno hyes
          clear hz hb
          by_cases e1 : z = 95
          · subst e1
            go_wp2_with fail
            go_round
            case rel => exact ⟨k + 1, by omega, by go_num, hyes.out (by omega)⟩
            case measure => simp [intOf]; omega
          by_cases e2 : z = 46
          · subst e2
            go_wp2_with fail
            go_round
            case rel => exact ⟨k + 1, by omega, by go_num, hyes.out (by omega)⟩
            case measure => simp [intOf]; omega
          have n1 : (z != 95) = true := by simpa using e1
          have n2 : (z != 46) = true := by simpa using e2
          by_cases hok : (97 ≤ z ∧ z ≤ 122) ∨ (48 ≤ z ∧ z ≤ 57)
          · rcases hok with ⟨g1, g2⟩ | ⟨g1, g2⟩
            all_goals
              go_wp2_with fail
              go_round
              case rel => exact ⟨k + 1, by omega, by go_num, hyes.out (by omega)⟩
              case measure => simp [intOf]; omega
          · have hn := hno.out (by omega)
            have HN := Lib.hid hn
            clear hn
            have hreg : z < 48 ∨ (57 < z ∧ z < 97) ∨ 122 < z := by omega
            clear hok
            rcases hreg with g1 | ⟨g1, g2⟩ | g1
            all_goals
              go_wp2_with fail
              go_ret
              exact ⟨ret_bool HN.out, HB.out⟩
        · obtain rfl : k = s.size := by omega
          have hy := Lib.hid (name_yes hp h40 (fun j hj => hall.out j hj hj))
          go_wp2_with fail
          go_ret
          exact ⟨ret_bool hy.out, HB.out⟩
    · have q1 : decide ((40 : Int) < (s.size : Int)) = true := by simp; omega
      have hr : Hid (nameB s = false) := by
        show _ = _
        unfold nameB
        rw [decide_eq_false (by omega), Bool.false_and]
      go_enter Try.func48, Try.ntmps48
      go_wp2_with fail
      go_ret
      exact ⟨ret_bool hr.out.symm, brefl w⟩
end Go.Proofs.Ytfiphjhpjaddcaa
