/- The reference's same. -/
import Derived.Test.YtheickndnniomaaDoorRefe
import Derived.Test.YtheickndnniomaaDoorOpenw
namespace Go.Proofs.YtheickndnniomaaDoor
open Go.RowKit Go.Maps

theorem neq_ent (w : World) (s t : ByteArray) (x y : Int) : (binOp .neq 26 (.agg #[.string s, .int .i64 x]) (.agg #[.string t, .int .i64 y])).run Tryd.prog w = .ok (.bool (!(s.toList == t.toList && x == y))) w := by
  rw [run_neq_struct, run_equalIn_agg _ _ _ _ _ (by kernel_rfl) (by kernel_rfl)]
  simp [go_sem, Program.fieldsOf, Tryd.underlying26]
  by_cases h1 : s.toList = t.toList <;> by_cases h2 : x = y <;> simp [h1, h2]
theorem neq_two (w : World) (e e' : Ent) : (binOp .neq 26 (.agg #[.string ⟨e.1.toArray⟩, .int .i64 e.2]) (.agg #[.string ⟨e'.1.toArray⟩, .int .i64 e'.2])).run Tryd.prog w = .ok (.bool (!decide (e = e'))) w := by
  rw [neq_ent, str_same]
  congr 2
  obtain ⟨a, x⟩ := e
  obtain ⟨b, y⟩ := e'
  by_cases h1 : a = b <;> by_cases h2 : x = y <;> simp [h1, h2]
theorem gu_ent : Tryd.prog.eqGuardType Tryd.prog.depth 26 = false := by kernel_rfl
set_option maxRecDepth 100000 in
set_option maxHeartbeats 4000000 in
theorem same_any (w : World) (B : Nat) (hB : B ≤ w.heap.size) (A A' : Option Addr) (n c n' c' : Nat) (l l' : List Ent) (h : Ents w B A n c l) (h' : Ents w B A' n' c' l') :
    Calls Tryd.prog 33 #[.slice A n c, .slice A' n' c'] w fun e w' => e = .returned (.bool (decide (l = l'))) ∧ Below w.heap.size w w' := by
  have hlen := h.len
  have hcm := h.cm
  have hlen' := h'.len
  have hcm' := h'.cm
  by_cases hn : n = n'
  · subst hn
    go_enter Tryd.func33, Tryd.ntmps33
    go_wp2_with fail
    go_loopw [5] (fun i wr => ∃ k : Nat, k ≤ n ∧ i = .int .i64 k ∧ Hid (l.take k = l'.take k) ∧ Hid (Below w.heap.size w wr)) (fun i _ => n - (intOf i).toNat)
    case atStart => exact ⟨0, Nat.zero_le _, rfl, rfl, Lib.hid (brefl w)⟩
    case round =>
      obtain ⟨k, hk, rfl, HL, HB⟩ := hrel
      by_cases hlt : k < n
      · obtain ⟨e, he⟩ : ∃ e, l[k]? = some e := ⟨l[k]'(by omega), List.getElem?_eq_getElem _⟩
        obtain ⟨e', he'⟩ : ∃ e, l'[k]? = some e := ⟨l'[k]'(by omega), List.getElem?_eq_getElem _⟩
        obtain ⟨b, off, rfl, hb, hcell⟩ := h.at_ (by omega)
        obtain ⟨b', off', rfl, hb', hcell'⟩ := h'.at_ (by omega)
        obtain ⟨d0, d1⟩ := hcell k e he
        obtain ⟨d2, d3⟩ := hcell' k e' he'
        have f0 := (HB.out.cell (p := ⟨b, off + k * 2, none⟩) (by show b < _; omega)).trans d0
        have f1 := (HB.out.cell (p := ⟨b, off + k * 2 + 1, none⟩) (by show b < _; omega)).trans d1
        have f2 := (HB.out.cell (p := ⟨b', off' + k * 2, none⟩) (by show b' < _; omega)).trans d2
        have f3 := (HB.out.cell (p := ⟨b', off' + k * 2 + 1, none⟩) (by show b' < _; omega)).trans d3
        clear d0 d1 d2 d3 hcell hcell'
        have hg := gu_ent
        have HQ := Lib.hid (fun w => neq_two w e e')
        have hone : l.take (k + 1) = l.take k ++ [e] := by rw [List.take_add_one, he]; rfl
        have hone' : l'.take (k + 1) = l'.take k ++ [e'] := by rw [List.take_add_one, he']; rfl
        by_cases hee : e = e'
        · subst hee
          have hq := HQ.out
          rw [decide_eq_true rfl] at hq
          have HN : Hid (l.take (k + 1) = l'.take (k + 1)) := by show _ = _; rw [hone, hone', HL.out]
          clear HQ hone hone' he he'
          go_wp2_with fail
          go_quiet (fail)
          go_wp2_with fail
          go_roundw
          case rel => exact ⟨k + 1, by omega, by go_num, HN, Lib.hid (below_drewN HB.out nq)⟩
          case measure => simp [intOf]; omega
        · have hq := HQ.out
          rw [decide_eq_false hee] at hq
          have HN : Hid (decide (l = l') = false) := by
            refine decide_eq_false fun h => hee ?_
            rw [h, he'] at he
            injection he with he
            exact he.symm
          clear HQ hone hone' he he' hee
          go_wp2_with fail
          go_quiet (fail)
          go_wp2_with fail
          go_ret
          exact ⟨by rw [HN.out]; rfl, below_drewN HB.out nq⟩
      · obtain rfl : k = n := by omega
        rw [List.take_of_length_le (by omega), List.take_of_length_le (by omega)] at HL
        have HN : Hid (decide (l = l') = true) := decide_eq_true HL.out
        clear HL
        go_wp2_with fail
        go_ret
        exact ⟨by rw [HN.out]; rfl, HB.out⟩
  · have HN : Hid (decide (l = l') = false) := decide_eq_false fun e => hn (by rw [← hlen, ← hlen', e])
    have q1 : ((n : Int) != (n' : Int)) = true := by simp; omega
    clear h h'
    go_enter Tryd.func33, Tryd.ntmps33
    go_wp2_with fail
    go_ret
    exact ⟨by rw [HN.out]; rfl, brefl w⟩
theorem Same_any (w : World) (B : Nat) (hB : B ≤ w.heap.size) (A A' : Option Addr) (n c n' c' : Nat) (l l' : List Ent) (h : Ents w B A n c l) (h' : Ents w B A' n' c' l') :
    Calls Tryd.prog 12 #[.slice A n c, .slice A' n' c'] w fun e w' => e = .returned (.bool (decide (l = l'))) ∧ Below w.heap.size w w' := by
  have HS := Lib.hid (same_any w B hB A A' n c n' c' l l' h h')
  clear h h'
  go_enter Tryd.func12, Tryd.ntmps12
  go_wp2_with fail
  refine HS.out.mono ?_
  rintro e w1 ⟨rfl, hb⟩
  go_wp2_with fail
  go_ret
  exact ⟨rfl, hb⟩
end Go.Proofs.YtheickndnniomaaDoor
