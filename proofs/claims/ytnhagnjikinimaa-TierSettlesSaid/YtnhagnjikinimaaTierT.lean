/- The statement's own 'merged': what it returns. -/
import Derived.Test.YtnhagnjikinimaaTierS
namespace Go.Proofs.Ytnhagnjikinimaa
open Go.RowKit

theorem keep_yes {l : List Seg} {p : List Int} {k : Nat} (h : inP p k = true) : keepTo l p (k + 1) = keepTo l p k := by rw [keepTo, if_pos h, List.append_nil]
theorem keep_no {l : List Seg} {p : List Int} {k : Nat} (hk : k < l.length) (h : inP p k = false) : keepTo l p (k + 1) = keepTo l p k ++ [l[k]] := by
  rw [keepTo, if_neg (by rw [h]; simp), List.getElem?_eq_getElem hk]; rfl
theorem sum_yes {l : List Seg} {p : List Int} {k : Nat} (hk : k < l.length) (h : inP p k = true) : sumTo l p (k + 1) = sumTo l p k + (l[k].docs - l[k].gone) := by rw [sumTo, if_pos h, liveAt_eq hk]
theorem sum_no {l : List Seg} {p : List Int} {k : Nat} (h : inP p k = false) : sumTo l p (k + 1) = sumTo l p k := by rw [sumTo, if_neg (by rw [h]; simp), Int.add_zero]
theorem keep_le (l : List Seg) (p : List Int) {k : Nat} (hk : k ≤ l.length) : (keepTo l p k).length ≤ k := by have := keep_len (l := l) p k hk; omega

def KeepIs (w : World) (l : List Seg) (p : List Int) (k : Nat) (v : Value) (wr : World) : Prop :=
  wr.ownsRow w.heap.size 24 4 v (keepTo l p k).length (segCells (keepTo l p k)) ∧ Below w.heap.size w wr
theorem keepIs_yes {w wr : World} {l : List Seg} {p : List Int} {k m : Nat} {v : Value} (h : KeepIs w l p k v wr) (hp : inP p k = true) : KeepIs w l p (k + 1) v (wr.drewN m) := ⟨by rw [keep_yes hp]; exact h.1, below_drewN h.2 m⟩
theorem keepIs_no {w wr : World} {l : List Seg} {p : List Int} {k : Nat} {v : Value} (hk : k < l.length) (hp : inP p k = false)
    (h : wr.ownsRow w.heap.size 24 4 v ((keepTo l p k).length + 1) (segCells (keepTo l p k) ++ [.int .i64 l[k].id, .int .i64 l[k].docs, .int .i64 l[k].gen, .int .i64 l[k].gone])) (hb : Below w.heap.size w wr) : KeepIs w l p (k + 1) v wr := by
  refine ⟨?_, hb⟩
  rw [keep_no hk hp, segCells_append, List.length_append]
  exact h

set_option maxHeartbeats 4000000 in
theorem merged_any (A A2 : Option Addr) (c c2 : Nat) (l : List Seg) (p : List Int) (w : World) (h : Sl w w.heap.size 4 A l.length (segCells l)) (h2 : Sl w w.heap.size 1 A2 p.length (ints p)) (hok : Hid (segsOk l = true)) (hl : l.length ≤ 1048576) (hpl : p.length ≤ 1048576) (hsum : liveSum l ≤ 1048576) :
    Calls Try.prog 15 #[.slice A l.length c, .slice A2 p.length c2] w fun e w' => ∃ v, e = .returned v ∧ w'.ownsRow w.heap.size 24 4 v (merged l p).length (segCells (merged l p)) ∧ Below w.heap.size w w' := by
  have hall : allTo l l.length ≤ 1048576 := by rw [allTo_all]; exact hsum
  clear hsum
  go_enter Try.func15, Try.ntmps15
  go_wp2
  go_loopw [5, 6, 7, 8, 9] (fun v s i b j wr => ∃ k : Nat, k ≤ l.length ∧ i = .int .i64 k ∧ s = .int .i64 (sumTo l p k) ∧ KeepIs w l p k v wr) (fun _ _ i _ _ _ => l.length - (intOf i).toNat)
  case atStart => exact ⟨0, by omega, rfl, rfl, World.ownsRow_nil _ _ _ _, Below.refl _ _⟩
  case round =>
    obtain ⟨k, hk, rfl, rfl, hK⟩ := hrel
    have hs1 := sum_le hok.out p k
    have hs2 := all_mono hok.out hk
    have hkl := keep_le l p hk
    by_cases hlt : k < l.length
    · obtain ⟨b, off, rfl, hbB, s0, s1, s2, s3⟩ := seg_at (h.below hK.2) hlt
      obtain ⟨g1, g2, g3, g4⟩ := seg_ok_at hok.out hlt
      have hV : Sl wr w.heap.size 1 A2 p.length (ints p) := h2.below hK.2
      go_wp2
      go_loop [8, 9] (fun b j => ∃ q : Nat, q ≤ p.length ∧ j = .int .i64 q ∧ b = .bool (inTake p k q)) (fun _ j => p.length - (intOf j).toNat)
      case atStart => exact ⟨0, by omega, rfl, by rw [inTake_zero]⟩
      case round =>
        obtain ⟨q, hq, rfl, rfl⟩ := hrel
        by_cases hlq : q < p.length
        · obtain ⟨b2, o2, rfl, _, hc⟩ := ints_at hV rfl hlq
          cases hin : inTake p k q with
          | true =>
            have hn := Lib.hid (inTake_old hin)
            clear hin
            go_wp2
            go_round
            case rel => exact ⟨q + 1, by omega, by go_num, by rw [hn.out]⟩
            case measure => simp [intOf]; omega
          | false =>
            have hn := Lib.hid (inTake_new hlq hin)
            clear hin
            go_wp2
            go_round
            case rel => exact ⟨q + 1, by omega, by go_num, by rw [← hn.out]⟩
            case measure => simp [intOf]; omega
        · obtain rfl : q = p.length := by omega
          have hown := hK.1
          cases hin : inTake p k p.length with
          | true =>
            have hn : Hid (inP p k = true) := Lib.hid hin
            clear hin
            go_wp2
            go_quiet (fail)
            go_wp2
            go_roundw
            case rel => exact ⟨k + 1, by omega, by go_num, by rw [sum_yes hlt hn.out], keepIs_yes hK hn.out⟩
            case measure => simp [intOf]; omega
          | false =>
            have hn : Hid (inP p k = false) := Lib.hid hin
            clear hin
            go_wp2_with (at_builtin; refine wpList_push w _ _ rfl _ _ _ rfl el_seg _ _ _ rfl hown rfl (by simp) rfl (by simp [Value.oneCell']) (by unfold maxLen; omega) (by omega) hK.2.size hK.2 ?_; intro v' w3 hown3 hb3 _ _)
            go_roundw
            case rel => exact ⟨k + 1, by omega, by go_num, by rw [sum_no hn.out], keepIs_no hlt hn.out hown3 hb3⟩
            case measure => simp [intOf]; omega
    · obtain rfl : k = l.length := by omega
      obtain ⟨hown, hbw⟩ := hK
      by_cases h0 : 0 < sumTo l p l.length
      · have hm : Hid (merged l p = keepTo l p l.length ++ [⟨0, sumTo l p l.length, 0, 0⟩]) := by show _ = _; unfold merged; rw [if_pos h0]
        go_wp2_with (at_builtin; refine wpList_push w _ _ rfl _ _ _ rfl el_seg _ _ _ rfl hown rfl (by simp) rfl (by simp [Value.oneCell']) (by unfold maxLen; omega) (by omega) hbw.size hbw ?_; intro v' w3 hown3 hb3 _ _)
        go_ret
        refine ⟨_, rfl, ?_, hb3⟩
        rw [hm.out, segCells_append, List.length_append]
        exact hown3
      · have hm : Hid (merged l p = keepTo l p l.length) := by show _ = _; unfold merged; rw [if_neg h0, List.append_nil]
        go_wp2
        go_ret
        refine ⟨_, rfl, ?_, hbw⟩
        rw [hm.out]
        exact hown
end Go.Proofs.Ytnhagnjikinimaa
