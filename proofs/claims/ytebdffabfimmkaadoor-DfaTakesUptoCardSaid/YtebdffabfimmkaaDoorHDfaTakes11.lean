/- dfa.join: one arc more. -/
import Derived.Test.YtebdffabfimmkaaDoorHDfaTakes7
import Derived.Test.YtebdffabfimmkaaDoorHDfaTakes10
import Derived.Deep.RegionLaw
namespace Go.Proofs.YtebdffabfimmkaaDoor
open Go.RowKit

theorem el_arc : Elem Tryd.prog 37 41 3 24 := Elem.mk_ Tryd.underlying37 (z := .agg #[.int .i64 0, .int .i64 0, .int .i64 0]) (by kernel_rfl) rfl (by omega)
/-- What join promises. -/
def JoinPost (w : World) (base : Nat) (v : Value) (l : List Arc3) : Ending → World → Prop := fun e w' => ∃ v', e = .returned v' ∧ w'.ownsRow base 41 3 v' l.length (arcsC l) ∧ w.grownBy w' v.ownBlock ∧ (v'.ownBlock = v.ownBlock ∨ ∃ g, v'.ownBlock = some g ∧ w.heap.size ≤ g)
set_option maxRecDepth 100000 in
set_option maxHeartbeats 8000000 in
theorem join_any (w : World) (base : Nat) (hbase : base ≤ w.heap.size) (A : Option Addr) (n c : Nat) (l : List Arc3) (hown : w.ownsRow base 41 3 (.slice A n c) n (arcsC l)) (hn : n ≤ 1099511627776) (lo hi tt : Int) (hlo : 0 ≤ lo ∧ lo ≤ 256) (hh : ∀ a ∈ l, 0 ≤ a.2.1 ∧ a.2.1 ≤ 256) :
    Calls Tryd.prog 30 #[.slice A n c, .agg #[.int .i64 lo, .int .i64 hi, .int .i64 tt]] w (JoinPost w base (.slice A n c) (joinA l (lo, hi, tt))) := by
  have hll : l.length = n := by have := hown.1; rw [arcsC_len] at this; omega
  have HO := Lib.hid hown
  have HBW : Hid (Below base w (w.alloc (.cells #[.int .i64 lo, .int .i64 hi, .int .i64 tt] 41))) := (Below.refl _ _).alloc hbase _
  have HO1 := Lib.hid (own_kept hown (bnew (brefl w) (.cells #[.int .i64 lo, .int .i64 hi, .int .i64 tt] 41)))
  have HGA : Hid (w.grownBy (w.alloc (.cells #[.int .i64 lo, .int .i64 hi, .int .i64 tt] 41)) (Value.slice A n c).ownBlock) := World.grownBy_alloc w _ _
  have hblk := heap_alloc_new w (.cells #[.int .i64 lo, .int .i64 hi, .int .i64 tt] 41)
  have e0 : (w.alloc (.cells #[.int .i64 lo, .int .i64 hi, .int .i64 tt] 41)).cell? ⟨w.heap.size, 0, none⟩ = some (.int .i64 lo) := cell_of_row _ w.heap.size 0 _ _ (0, 0) hblk
  have e1 : (w.alloc (.cells #[.int .i64 lo, .int .i64 hi, .int .i64 tt] 41)).cell? ⟨w.heap.size, 1, none⟩ = some (.int .i64 hi) := cell_of_row _ w.heap.size 1 _ _ (0, 0) hblk
  have e2 : (w.alloc (.cells #[.int .i64 lo, .int .i64 hi, .int .i64 tt] 41)).cell? ⟨w.heap.size, 2, none⟩ = some (.int .i64 tt) := cell_of_row _ w.heap.size 2 _ _ (0, 0) hblk
  obtain ⟨hlo0, hlo1⟩ := hlo
  by_cases h0 : n = 0
  · subst h0
    have hl0 : l = [] := List.eq_nil_of_length_eq_zero hll
    have HJ : Hid ((joinA l (lo, hi, tt)).length = 0 + 1 ∧ arcsC (joinA l (lo, hi, tt)) = arcsC l ++ [.int .i64 lo, .int .i64 hi, .int .i64 tt]) := by
      rw [hl0]
      exact ⟨rfl, rfl⟩
    clear hh hl0 hown hblk hll
    go_enter Tryd.func30, Tryd.ntmps30
    go_wp2_with fail
    generalize w.alloc (.cells #[.int .i64 lo, .int .i64 hi, .int .i64 tt] 41) = W1 at *
    go_region
    have HO2 : Hid (W1.drew.ownsRow base 41 3 (.slice A 0 c) 0 (arcsC l)) := HO1.out
    have HGA2 : Hid (w.grownBy W1.drew (Value.slice A 0 c).ownBlock) := ⟨HGA.out.os, HGA.out.tape, HGA.out.output, HGA.out.size, HGA.out.block⟩
    have HBW2 : Hid (Below base w W1.drew) := Below.drew HBW.out
    have d0 : W1.drew.cell? ⟨w.heap.size, 0, none⟩ = some (.int .i64 lo) := e0
    have d1 : W1.drew.cell? ⟨w.heap.size, 1, none⟩ = some (.int .i64 hi) := e1
    have d2 : W1.drew.cell? ⟨w.heap.size, 2, none⟩ = some (.int .i64 tt) := e2
    generalize W1.drew = W2 at *
    clear e0 e1 e2
    go_wp2_with (at_builtin; refine wpList_push w W2 _ rfl _ _ _ rfl el_arc _ _ _ rfl HO2.out rfl (by simp) rfl (by simp [Value.oneCell']) (by unfold maxLen; omega) (by omega) (Nat.le_trans hbase HBW2.out.size) HBW2.out ?_; intro v9 w9 hown9 _ hg9 hor9; have HO9 := Lib.hid hown9; have HG9 := Lib.hid hg9; have HR9 := Lib.hid hor9; clear hown9 hg9 hor9)
    go_ret
    exact ⟨v9, rfl, by rw [HJ.out.1, HJ.out.2]; exact HO9.out, HGA2.out.trans HG9.out, HR9.out.imp id fun ⟨g, h1, h2⟩ => ⟨g, h1, Nat.le_trans HBW2.out.size h2⟩⟩
  obtain ⟨m, b, rfl⟩ : ∃ m b, l = m ++ [b] := ⟨l.dropLast, l.getLast (by intro e; rw [e] at hll; exact h0 hll.symm), (List.dropLast_concat_getLast _).symm⟩
  rw [List.length_append, List.length_singleton] at hll
  have hb := hh b (by simp)
  obtain ⟨k, hk⟩ : ∃ k, m.length = k := ⟨_, rfl⟩
  have hidx : (n : Int) - 1 = (k : Int) := by omega
  obtain ⟨g, rfl, hbg, hgl⟩ := own_head HO1.out (by omega)
  have hcell : ∀ j u, (arcC b)[j]? = some u → j < 3 → (w.alloc (.cells #[.int .i64 lo, .int .i64 hi, .int .i64 tt] 41)).cell? ⟨g, k * 3 + j, none⟩ = some u := fun j u hu hj => by
    have := HO1.out.cells (g := g) rfl (k * 3 + j) u (by unfold arcsC; rw [flat_at arcC 3 (fun _ => rfl) (m ++ [b]) k j b (by rw [← hk]; simp) hj]; exact hu)
    rwa [Addr.add_lit, Nat.zero_add] at this
  have f1 := hcell 1 _ rfl (by omega)
  have f2 := hcell 2 _ rfl (by omega)
  have hfr : (w.alloc (.cells #[.int .i64 lo, .int .i64 hi, .int .i64 tt] 41)).frozen? ⟨g, k * 3 + 1, none⟩ = false := by
    rcases HO1.out.2 with ⟨hv, _⟩ | ⟨g', cap, cur, hv, _, hg, _⟩
    · cases hv
    · injection hv with hv _ _
      injection hv with hv
      injection hv with hv _ _
      subst hv
      exact free_at hg _
  have i0 : (0 : Int) ≤ (k : Int) := by omega
  have i1 : (k : Int) < (n : Int) := by omega
  have q0 : decide ((k : Int) ≥ 0) = true := decide_eq_true (by omega)
  have HLAST : (m ++ [b]).getLast? = some b := by simp
  obtain ⟨blo, bhi, bto⟩ := b
  simp only at hb hcell f1 f2 HLAST
  have hwr : IntKind.i64.wrap (bhi + 1) = bhi + 1 := IntWalk.i64_in _ (by omega)
  clear hown hblk hh hcell
  by_cases hj : bto = tt ∧ bhi + 1 = lo
  · have HJ : Hid (joinA (m ++ [(blo, bhi, bto)]) (lo, hi, tt) = m ++ [(blo, hi, bto)]) := by
      show _ = _
      unfold joinA
      rw [HLAST]
      simp only
      rw [if_pos hj, List.dropLast_concat]
    have q1 : (bto == tt) = true := by simpa using hj.1
    have q2 : (bhi + 1 == lo) = true := by simpa using hj.2
    have HSET : Hid (((w.alloc (.cells #[.int .i64 lo, .int .i64 hi, .int .i64 tt] 41)).setCell ⟨g, k * 3 + 1, none⟩ (.int .i64 hi)).ownsRow base 41 3 (.slice (some ⟨g, 0, none⟩) n c) n (arcsC (m ++ [(blo, hi, bto)]))) := by
      have h1 := own_put (j := k * 3 + 1) (u := .int .i64 hi) HO1.out
      have h2 : (arcsC (m ++ [(blo, bhi, bto)])).set (k * 3 + 1) (.int .i64 hi) = arcsC (m ++ [(blo, hi, bto)]) := by
        rw [arcsC_app, arcsC_app, List.set_append, if_neg (by rw [arcsC_len]; omega), arcsC_len, hk, Nat.add_sub_cancel_left]
        rfl
      rw [h2] at h1
      exact h1
    have HLN : Hid ((m ++ [(blo, hi, bto)]).length = n) := by show _ = _; rw [List.length_append, List.length_singleton]; omega
    have HGS : Hid (w.grownBy ((w.alloc (.cells #[.int .i64 lo, .int .i64 hi, .int .i64 tt] 41)).setCell ⟨g, k * 3 + 1, none⟩ (.int .i64 hi)) (Value.slice (some ⟨g, 0, none⟩) n c).ownBlock) := HGA.out.trans (set_grown _ ⟨g, k * 3 + 1, none⟩ _)
    clear hj HLAST hll hk
    go_enter Tryd.func30, Tryd.ntmps30
    go_wp2_with fail
    generalize w.alloc (.cells #[.int .i64 lo, .int .i64 hi, .int .i64 tt] 41) = W1 at *
    go_region
    all_goals
      go_wp2_with fail
      go_ret
      exact ⟨_, rfl, by rw [HJ.out, HLN.out]; exact HSET.out, ⟨HGS.out.os, HGS.out.tape, HGS.out.output, HGS.out.size, HGS.out.block⟩, .inl rfl⟩
  · have HJ : Hid ((joinA (m ++ [(blo, bhi, bto)]) (lo, hi, tt)).length = n + 1 ∧ arcsC (joinA (m ++ [(blo, bhi, bto)]) (lo, hi, tt)) = arcsC (m ++ [(blo, bhi, bto)]) ++ [.int .i64 lo, .int .i64 hi, .int .i64 tt]) := by
      have e : joinA (m ++ [(blo, bhi, bto)]) (lo, hi, tt) = m ++ [(blo, bhi, bto)] ++ [(lo, hi, tt)] := by
        unfold joinA
        rw [HLAST]
        simp only
        rw [if_neg hj]
      rw [e, arcsC_app]
      exact ⟨by rw [List.length_append, List.length_append]; simp only [List.length_singleton]; omega, rfl⟩
    by_cases hj1 : bto = tt
    · have q1 : (bto == tt) = true := by simpa using hj1
      have q2 : (bhi + 1 == lo) = false := by simpa using fun e => hj ⟨hj1, e⟩
      clear hj HLAST hll hk hj1 hfr
      go_enter Tryd.func30, Tryd.ntmps30
      go_wp2_with fail
      generalize w.alloc (.cells #[.int .i64 lo, .int .i64 hi, .int .i64 tt] 41) = W1 at *
      go_region
      have HO2 : Hid (W1.drew.ownsRow base 41 3 (.slice (some ⟨g, 0, none⟩) n c) n (arcsC (m ++ [(blo, bhi, bto)]))) := HO1.out
      have HGA2 : Hid (w.grownBy W1.drew (Value.slice (some ⟨g, 0, none⟩) n c).ownBlock) := ⟨HGA.out.os, HGA.out.tape, HGA.out.output, HGA.out.size, HGA.out.block⟩
      have HBW2 : Hid (Below base w W1.drew) := Below.drew HBW.out
      have d0 : W1.drew.cell? ⟨w.heap.size, 0, none⟩ = some (.int .i64 lo) := e0
      have d1 : W1.drew.cell? ⟨w.heap.size, 1, none⟩ = some (.int .i64 hi) := e1
      have d2 : W1.drew.cell? ⟨w.heap.size, 2, none⟩ = some (.int .i64 tt) := e2
      generalize W1.drew = W2 at *
      clear e0 f1 f2 e1 e2
      go_wp2_with (at_builtin; refine wpList_push w W2 _ rfl _ _ _ rfl el_arc _ _ _ rfl HO2.out rfl (by simp) rfl (by simp [Value.oneCell']) (by unfold maxLen; omega) (by omega) (Nat.le_trans hbase HBW2.out.size) HBW2.out ?_; intro v9 w9 hown9 _ hg9 hor9; have HO9 := Lib.hid hown9; have HG9 := Lib.hid hg9; have HR9 := Lib.hid hor9; clear hown9 hg9 hor9)
      go_ret
      exact ⟨v9, rfl, by rw [HJ.out.1, HJ.out.2]; exact HO9.out, HGA2.out.trans HG9.out, HR9.out.imp id fun ⟨g, h1, h2⟩ => ⟨g, h1, Nat.le_trans HBW2.out.size h2⟩⟩
    · have q1 : (bto == tt) = false := by simpa using hj1
      clear hj HLAST hll hk hj1 hfr
      go_enter Tryd.func30, Tryd.ntmps30
      go_wp2_with fail
      generalize w.alloc (.cells #[.int .i64 lo, .int .i64 hi, .int .i64 tt] 41) = W1 at *
      go_region
      have HO2 : Hid (W1.drew.ownsRow base 41 3 (.slice (some ⟨g, 0, none⟩) n c) n (arcsC (m ++ [(blo, bhi, bto)]))) := HO1.out
      have HGA2 : Hid (w.grownBy W1.drew (Value.slice (some ⟨g, 0, none⟩) n c).ownBlock) := ⟨HGA.out.os, HGA.out.tape, HGA.out.output, HGA.out.size, HGA.out.block⟩
      have HBW2 : Hid (Below base w W1.drew) := Below.drew HBW.out
      have d0 : W1.drew.cell? ⟨w.heap.size, 0, none⟩ = some (.int .i64 lo) := e0
      have d1 : W1.drew.cell? ⟨w.heap.size, 1, none⟩ = some (.int .i64 hi) := e1
      have d2 : W1.drew.cell? ⟨w.heap.size, 2, none⟩ = some (.int .i64 tt) := e2
      generalize W1.drew = W2 at *
      clear e0 f1 f2 e1 e2
      go_wp2_with (at_builtin; refine wpList_push w W2 _ rfl _ _ _ rfl el_arc _ _ _ rfl HO2.out rfl (by simp) rfl (by simp [Value.oneCell']) (by unfold maxLen; omega) (by omega) (Nat.le_trans hbase HBW2.out.size) HBW2.out ?_; intro v9 w9 hown9 _ hg9 hor9; have HO9 := Lib.hid hown9; have HG9 := Lib.hid hg9; have HR9 := Lib.hid hor9; clear hown9 hg9 hor9)
      go_ret
      exact ⟨v9, rfl, by rw [HJ.out.1, HJ.out.2]; exact HO9.out, HGA2.out.trans HG9.out, HR9.out.imp id fun ⟨g, h1, h2⟩ => ⟨g, h1, Nat.le_trans HBW2.out.size h2⟩⟩
end Go.Proofs.YtebdffabfimmkaaDoor
