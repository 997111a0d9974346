/- The first refusals of a disk. -/
import Derived.Test.YtfiphjhpjaddcaaDisk
namespace Go.Proofs.Ytfiphjhpjaddcaa
open Go.RowKit Go.Maps

theorem map_below {H : Type} {w w' : World} {b k n : Nat} {R : Value → Option (DataW H × List MemPlace)} {D : DataW H} (h : w.ownsMap Try.prog k R b n D) (hb : Below w.heap.size w w') : w'.ownsMap Try.prog k R b n D := by
  obtain ⟨es, clock, h1, h2, h3, h4⟩ := h
  exact ⟨es, clock, (hb.block b (Array.getElem?_eq_some_iff.1 h1).1).trans h1, h2, h3, h4⟩
theorem DiskAt.below {H : Type} {w w' : World} {F : Foot} {D : DS H} (h : DiskAt w F D) (hb : Below w.heap.size w w') : DiskAt w' F D := by
  obtain ⟨blk, ⟨n1, l1, f1⟩, ⟨n2, l2, f2⟩, ⟨n3, l3, f3⟩, ap⟩ := h
  exact ⟨(hb.block F.p (Array.getElem?_eq_some_iff.1 blk).1).trans blk, ⟨n1, l1, map_below f1 hb⟩, ⟨n2, l2, map_below f2 hb⟩, ⟨n3, l3, map_below f3 hb⟩, ap⟩
def mayE (ns : List ByteArray) (down : Bool) : Int := if ns.all nameB then (if down then 15 else 0) else 1
set_option maxRecDepth 100000 in
set_option maxHeartbeats 2000000 in
theorem may_any {H : Type} (w : World) (F : Foot) (D : DS H) (A : Option Addr) (n c B : Nat) (ns : List ByteArray) (h : DiskAt w F D) (hs : Sl w B 1 A n (ns.map .string)) (hB : B ≤ w.heap.size) (hn : n ≤ 1000) :
    Calls Try.prog 27 #[.pointer (some ⟨F.p, 0, none⟩), .slice A n c] w fun e w' => e = .returned (.int .i64 (mayE ns D.down)) ∧ Below w.heap.size w w' := by
  have hln : ns.length = n := by have := hs.1; simpa using this
  have HD := Lib.hid h
  have HS := Lib.hid hs
  have HLN := Lib.hid hln
  clear h hs hln
  go_enter Try.func27, Try.ntmps27
  go_wp2_with fail
  go_loopw [11] (fun i wr => ∃ k : Nat, k ≤ n ∧ i = .int .i64 k ∧ Below w.heap.size w wr ∧ Hid ((ns.take k).all nameB = true)) (fun i _ => n - (intOf i).toNat)
  case atStart => exact ⟨0, Nat.zero_le _, rfl, brefl w, rfl⟩
  case round =>
    obtain ⟨k, hk, rfl, hb, hall⟩ := hrel
    by_cases hlt : k < n
    · obtain ⟨b, off, rfl, hbB, hcell⟩ := HS.out.at_ hlt
      obtain ⟨s, hk'⟩ : ∃ s, ns[k]? = some s := ⟨ns[k]'(by rw [HLN.out]; exact hlt), List.getElem?_eq_getElem _⟩
      have hc : wr.cell? ⟨b, off + k, none⟩ = some (.string s) := (hb.cell (p := ⟨b, off + k, none⟩) (by show b < _; omega)).trans (hcell k _ (by simp [hk']))
      have HB := Lib.hid hb
      have HK := Lib.hid hk'
      have HN := Lib.hid (name_any s)
      clear hcell hb hk'
      cases hx : nameB s with
      | true =>
        have HX := Lib.hid hx
        clear hx
        go_wp2_with fail
        refine (HN.out _).mono ?_
        rw [HX.out]
        rintro e w1 ⟨rfl, hb1⟩
        go_wp2_with fail
        go_roundw
        case rel => exact ⟨k + 1, by omega, by go_num, bcall HB.out hb1, by
          show _ = _
          obtain ⟨hl, he⟩ := List.getElem?_eq_some_iff.1 HK.out
          rw [List.take_succ_eq_append_getElem hl, List.all_append, hall.out, he, List.all_cons, HX.out]
          rfl⟩
        case measure => simp [intOf]; omega
      | false =>
        have HX := Lib.hid hx
        have hr : Hid (mayE ns D.down = 1) := by
          show _ = _
          unfold mayE
          rw [if_neg]
          rw [List.all_eq_true]
          intro h
          have := h s (List.mem_of_getElem? HK.out)
          rw [HX.out] at this
          cases this
        clear hx
        go_wp2_with fail
        refine (HN.out _).mono ?_
        rw [HX.out]
        rintro e w1 ⟨rfl, hb1⟩
        go_wp2_with fail
        go_ret
        exact ⟨ret_int hr.out.symm, bcall HB.out hb1⟩
    · obtain rfl : k = n := by omega
      have ht : ns.take k = ns := List.take_of_length_le (by rw [HLN.out]; exact Nat.le_refl _)
      obtain ⟨_, _, _, _, _, _, _, c7⟩ := (HD.out.below hb).cells
      have HB := Lib.hid hb
      cases hd : D.down with
      | true =>
        rw [hd] at c7
        have hr : Hid (mayE ns D.down = 15) := by
          show _ = _
          rw [hd]
          unfold mayE
          rw [← ht, if_pos hall.out]
          rfl
        clear hd ht hb
        go_wp2_with fail
        go_ret
        exact ⟨ret_int hr.out.symm, HB.out⟩
      | false =>
        rw [hd] at c7
        have hr : Hid (mayE ns D.down = 0) := by
          show _ = _
          rw [hd]
          unfold mayE
          rw [← ht, if_pos hall.out]
          rfl
        clear hd ht hb
        go_wp2_with fail
        go_ret
        exact ⟨ret_int hr.out.symm, HB.out⟩
theorem may_nil (w : World) (v : Value) : Calls Try.prog 27 #[.pointer none, v] w fun e w' => e = .returned (.int .i64 1) ∧ w = w' := by
  go_enter Try.func27, Try.ntmps27
  go_wp2_with fail
  go_ret
  exact ⟨rfl, rfl⟩
end Go.Proofs.Ytfiphjhpjaddcaa
