/- dfa.join: one arc more. -/
import Derived.Test.YtclahhkcbkpofaaDoorHWild11
import Derived.Deep.RegionLaw
namespace Go.Proofs.YtclahhkcbkpofaaDoor
open Go.RowKit

theorem el_arc : Elem Tryd.prog 22 63 3 24 := Elem.mk_ Tryd.underlying22 (z := .agg #[.int .i64 0, .int .i64 0, .int .i64 0]) (by kernel_rfl) rfl (by omega)
/-- What join promises. -/
def JoinPost (w : World) (base : Nat) (v : Value) (l : List Arc3) : Ending → World → Prop := fun e w' => ∃ v', e = .returned v' ∧ w'.ownsRow base 63 3 v' l.length (arcsC l) ∧ w.grownBy w' v.ownBlock ∧ (v'.ownBlock = v.ownBlock ∨ ∃ g, v'.ownBlock = some g ∧ w.heap.size ≤ g)
set_option maxRecDepth 100000 in
set_option maxHeartbeats 8000000 in
theorem join_any (w : World) (base : Nat) (hbase : base ≤ w.heap.size) (A : Option Addr) (n c : Nat) (l : List Arc3) (hown : w.ownsRow base 63 3 (.slice A n c) n (arcsC l)) (hn : n ≤ 1099511627776) (lo hi tt : Int) (hlo : 0 ≤ lo ∧ lo ≤ 256) (hh : ∀ a ∈ l, 0 ≤ a.2.1 ∧ a.2.1 ≤ 256) :
    Calls Tryd.prog 41 #[.slice A n c, .agg #[.int .i64 lo, .int .i64 hi, .int .i64 tt]] w (JoinPost w base (.slice A n c) (joinA l (lo, hi, tt))) := by
  have hll : l.length = n := by have := hown.1; rw [arcsC_len] at this; omega
  have HO := Lib.hid hown
  have HBW : Hid (Below base w (w.alloc (.cells #[.int .i64 lo, .int .i64 hi, .int .i64 tt] 63))) := (Below.refl _ _).alloc hbase _
  have HO1 := Lib.hid (own_kept hown (bnew (brefl w) (.cells #[.int .i64 lo, .int .i64 hi, .int .i64 tt] 63)))
  have HGA : Hid (w.grownBy (w.alloc (.cells #[.int .i64 lo, .int .i64 hi, .int .i64 tt] 63)) (Value.slice A n c).ownBlock) := World.grownBy_alloc w _ _
  have hblk := heap_alloc_new w (.cells #[.int .i64 lo, .int .i64 hi, .int .i64 tt] 63)
  have e0 : (w.alloc (.cells #[.int .i64 lo, .int .i64 hi, .int .i64 tt] 63)).cell? ⟨w.heap.size, 0, none⟩ = some (.int .i64 lo) := cell_of_row _ w.heap.size 0 _ _ (0, 0) hblk
  have e1 : (w.alloc (.cells #[.int .i64 lo, .int .i64 hi, .int .i64 tt] 63)).cell? ⟨w.heap.size, 1, none⟩ = some (.int .i64 hi) := cell_of_row _ w.heap.size 1 _ _ (0, 0) hblk
  have e2 : (w.alloc (.cells #[.int .i64 lo, .int .i64 hi, .int .i64 tt] 63)).cell? ⟨w.heap.size, 2, none⟩ = some (.int .i64 tt) := cell_of_row _ w.heap.size 2 _ _ (0, 0) hblk
  obtain ⟨hlo0, hlo1⟩ := hlo
  by_cases h0 : n = 0
  · subst h0
    have hl0 : l = [] := List.eq_nil_of_length_eq_zero hll
    have HJ : Hid ((joinA l (lo, hi, tt)).length = 0 + 1 ∧ arcsC (joinA l (lo, hi, tt)) = arcsC l ++ [.int .i64 lo, .int .i64 hi, .int .i64 tt]) := by
      rw [hl0]
      exact ⟨rfl, rfl⟩
    clear hh hl0 hown hblk hll
    go_enter Tryd.func41, Tryd.ntmps41
    go_wp2_with fail
    generalize w.alloc (.cells #[.int .i64 lo, .int .i64 hi, .int .i64 tt] 63) = W1 at *
    go_region
    have HO2 : Hid (W1.drew.ownsRow base 63 3 (.slice A 0 c) 0 (arcsC l)) := HO1.out
    have HGA2 : Hid (w.grownBy W1.drew (Value.slice A 0 c).ownBlock) := ⟨HGA.out.os, HGA.out.tape, HGA.out.output, HGA.out.size, HGA.out.block⟩
    have HBW2 : Hid (Below base w W1.drew) := Below.drew HBW.out
    have d0 : W1.drew.cell? ⟨w.heap.size, 0, none⟩ = some (.int .i64 lo) := e0
    have d1 : W1.drew.cell? ⟨w.heap.size, 1, none⟩ = some (.int .i64 hi) := e1
    have d2 : W1.drew.cell? ⟨w.heap.size, 2, none⟩ = some (.int .i64 tt) := e2
    generalize W1.drew = W2 at *
    clear e0 e1 e2
    go_wp2_with (at_builtin; refine wpList_push w W2 _ rfl _ _ _ rfl el_arc _ _ _ rfl HO2.out rfl (by simp) rfl (by simp [Value.oneCell']) (by unfold maxLen; omega) (by omega) (Nat.le_trans hbase HBW2.out.size) HBW2.out ?_; intro v9 w9 hown9 _ hg9 hor9; have HO9 := Lib.hid hown9; have HG9 := Lib.hid hg9; have HR9 := Lib.hid hor9; clear hown9 hg9 hor9)
    go_ret
    exact ⟨v9, rfl, by rw [HJ.out.1, HJ.out.2]; exact HO9.out, HGA2.out.trans HG9.out, HR9.out.imp id fun ⟨g, h1, h2⟩ => ⟨g, h1, Nat.le_trans HBW2.out.size h2⟩⟩
  obtain ⟨m, b, rfl⟩ : ∃ m b, l = m ++ [b] := ⟨l.dropLast, l.getLast (by intro e; rw [e] at hll; exact h0 hll.symm), (List.dropLast_concat_getLast _).symm⟩
  rw [List.length_append, List.length_singleton] at hll
  have hb := hh b (by simp)
  obtain ⟨k, hk⟩ : ∃ k, m.length = k := ⟨_, rfl⟩
  have hidx : (n : Int) - 1 = (k : Int) := by omega
  obtain ⟨g, rfl, hbg, hgl⟩ := own_head HO1.out (by omega)
  have hcell : ∀ j u, (arcC b)[j]? = some u → j < 3 → (w.alloc (.cells #[.int .i64 lo, .int .i64 hi, .int .i64 tt] 63)).cell? ⟨g, k * 3 + j, none⟩ = some u := fun j u hu hj => by
    have := HO1.out.cells (g := g) rfl (k * 3 + j) u (by unfold arcsC; rw [flat_at arcC 3 (fun _ => rfl) (m ++ [b]) k j b (by rw [← hk]; simp) hj]; exact hu)
    rwa [Addr.add_lit, Nat.zero_add] at this
  have f1 := hcell 1 _ rfl (by omega)
  have f2 := hcell 2 _ rfl (by omega)
  have hfr : (w.alloc (.cells #[.int .i64 lo, .int .i64 hi, .int .i64 tt] 63)).frozen? ⟨g, k * 3 + 1, none⟩ = false := by
    rcases HO1.out.2 with ⟨hv, _⟩ | ⟨g', cap, cur, hv, _, hg, _⟩
    · cases hv
    · injection hv with hv _ _
      injection hv with hv
      injection hv with hv _ _
      subst hv
      exact free_at hg _
  have i0 : (0 : Int) ≤ (k : Int) := by omega
  have i1 : (k : Int) < (n : Int) := by omega
  have q0 : decide ((k : Int) ≥ 0) = true := decide_eq_true (by omega)
  have HLAST : (m ++ [b]).getLast? = some b := by simp
  obtain ⟨blo, bhi, bto⟩ := b
  simp only at hb hcell f1 f2 HLAST
  have hwr : IntKind.i64.wrap (bhi + 1) = bhi + 1 := IntWalk.i64_in _ (by omega)
  clear hown hblk hh hcell
  by_cases hj : bto = tt ∧ bhi + 1 = lo
  · have HJ : Hid (joinA (m ++ [(blo, bhi, bto)]) (lo, hi, tt) = m ++ [(blo, hi, bto)]) := by
      show _ = _
      unfold joinA
      rw [HLAST]
      simp only
      rw [if_pos hj, List.dropLast_concat]
    have q1 : (bto == tt) = true := by simpa using hj.1
    have q2 : (bhi + 1 == lo) = true := by simpa using hj.2
    have HSET : Hid (((w.alloc (.cells #[.int .i64 lo, .int .i64 hi, .int .i64 tt] 63)).setCell ⟨g, k * 3 + 1, none⟩ (.int .i64 hi)).ownsRow base 63 3 (.slice (some ⟨g, 0, none⟩) n c) n (arcsC (m ++ [(blo, hi, bto)]))) := by
      have h1 := own_put (j := k * 3 + 1) (u := .int .i64 hi) HO1.out
      have h2 : (arcsC (m ++ [(blo, bhi, bto)])).set (k * 3 + 1) (.int .i64 hi) = arcsC (m ++ [(blo, hi, bto)]) := by
        rw [arcsC_app, arcsC_app, List.set_append, if_neg (by rw [arcsC_len]; omega), arcsC_len, hk, Nat.add_sub_cancel_left]
        rfl
      rw [h2] at h1
      exact h1
    have HLN : Hid ((m ++ [(blo, hi, bto)]).length = n) := by show _ = _; rw [List.length_append, List.length_singleton]; omega
    have HGS : Hid (w.grownBy ((w.alloc (.cells #[.int .i64 lo, .int .i64 hi, .int .i64 tt] 63)).setCell ⟨g, k * 3 + 1, none⟩ (.int .i64 hi)) (Value.slice (some ⟨g, 0, none⟩) n c).ownBlock) := HGA.out.trans (set_grown _ ⟨g, k * 3 + 1, none⟩ _)
    clear hj HLAST hll hk
    go_enter Tryd.func41, Tryd.ntmps41
    go_wp2_with fail
    generalize w.alloc (.cells #[.int .i64 lo, .int .i64 hi, .int .i64 tt] 63) = W1 at *
    go_region
    all_goals
      go_wp2_with fail
      go_ret
      exact ⟨_, rfl, by rw [HJ.out, HLN.out]; exact HSET.out, ⟨HGS.out.os, HGS.out.tape, HGS.out.output, HGS.out.size, HGS.out.block⟩, .inl rfl⟩
  · have HJ : Hid ((joinA (m ++ [(blo, bhi, bto)]) (lo, hi, tt)).length = n + 1 ∧ arcsC (joinA (m ++ [(blo, bhi, bto)]) (lo, hi, tt)) = arcsC (m ++ [(blo, bhi, bto)]) ++ [.int .i64 lo, .int .i64 hi, .int .i64 tt]) := by
      have e : joinA (m ++ [(blo, bhi, bto)]) (lo, hi, tt) = m ++ [(blo, bhi, bto)] ++ [(lo, hi, tt)] := by
        unfold joinA
        rw [HLAST]
        simp only
        rw [if_neg hj]
      rw [e, arcsC_app]
      exact ⟨by rw [List.length_append, List.length_append]; simp only [List.length_singleton]; omega, rfl⟩
    by_cases hj1 : bto = tt
    · have q1 : (bto == tt) = true := by simpa using hj1
      have q2 : (bhi + 1 == lo) = false := by simpa using fun e => hj ⟨hj1, e⟩
      clear hj HLAST hll hk hj1 hfr
      go_enter Tryd.func41, Tryd.ntmps41
      go_wp2_with fail
      generalize w.alloc (.cells #[.int .i64 lo, .int .i64 hi, .int .i64 tt] 63) = W1 at *
      go_region
      have HO2 : Hid (W1.drew.ownsRow base 63 3 (.slice (some ⟨g, 0, none⟩) n c) n (arcsC (m ++ [(blo, bhi, bto)]))) := HO1.out
      have HGA2 : Hid (w.grownBy W1.drew (Value.slice (some ⟨g, 0, none⟩) n c).ownBlock) := ⟨HGA.out.os, HGA.out.tape, HGA.out.output, HGA.out.size, HGA.out.block⟩
      have HBW2 : Hid (Below base w W1.drew) := Below.drew HBW.out
      have d0 : W1.drew.cell? ⟨w.heap.size, 0, none⟩ = some (.int .i64 lo) := e0
      have d1 : W1.drew.cell? ⟨w.heap.size, 1, none⟩ = some (.int .i64 hi) := e1
      have d2 : W1.drew.cell? ⟨w.heap.size, 2, none⟩ = some (.int .i64 tt) := e2
      generalize W1.drew = W2 at *
      clear e0 f1 f2 e1 e2
      go_wp2_with (at_builtin; refine wpList_push w W2 _ rfl _ _ _ rfl el_arc _ _ _ rfl HO2.out rfl (by simp) rfl (by simp [Value.oneCell']) (by unfold maxLen; omega) (by omega) (Nat.le_trans hbase HBW2.out.size) HBW2.out ?_; intro v9 w9 hown9 _ hg9 hor9; have HO9 := Lib.hid hown9; have HG9 := Lib.hid hg9; have HR9 := Lib.hid hor9; clear hown9 hg9 hor9)
      go_ret
      exact ⟨v9, rfl, by rw [HJ.out.1, HJ.out.2]; exact HO9.out, HGA2.out.trans HG9.out, HR9.out.imp id fun ⟨g, h1, h2⟩ => ⟨g, h1, Nat.le_trans HBW2.out.size h2⟩⟩
    · have q1 : (bto == tt) = false := by simpa using hj1
      clear hj HLAST hll hk hj1 hfr
      go_enter Tryd.func41, Tryd.ntmps41
      go_wp2_with fail
      generalize w.alloc (.cells #[.int .i64 lo, .int .i64 hi, .int .i64 tt] 63) = W1 at *
      go_region
      have HO2 : Hid (W1.drew.ownsRow base 63 3 (.slice (some ⟨g, 0, none⟩) n c) n (arcsC (m ++ [(blo, bhi, bto)]))) := HO1.out
      have HGA2 : Hid (w.grownBy W1.drew (Value.slice (some ⟨g, 0, none⟩) n c).ownBlock) := ⟨HGA.out.os, HGA.out.tape, HGA.out.output, HGA.out.size, HGA.out.block⟩
      have HBW2 : Hid (Below base w W1.drew) := Below.drew HBW.out
      have d0 : W1.drew.cell? ⟨w.heap.size, 0, none⟩ = some (.int .i64 lo) := e0
      have d1 : W1.drew.cell? ⟨w.heap.size, 1, none⟩ = some (.int .i64 hi) := e1
      have d2 : W1.drew.cell? ⟨w.heap.size, 2, none⟩ = some (.int .i64 tt) := e2
      generalize W1.drew = W2 at *
      clear e0 f1 f2 e1 e2
      go_wp2_with (at_builtin; refine wpList_push w W2 _ rfl _ _ _ rfl el_arc _ _ _ rfl HO2.out rfl (by simp) rfl (by simp [Value.oneCell']) (by unfold maxLen; omega) (by omega) (Nat.le_trans hbase HBW2.out.size) HBW2.out ?_; intro v9 w9 hown9 _ hg9 hor9; have HO9 := Lib.hid hown9; have HG9 := Lib.hid hg9; have HR9 := Lib.hid hor9; clear hown9 hg9 hor9)
      go_ret
      exact ⟨v9, rfl, by rw [HJ.out.1, HJ.out.2]; exact HO9.out, HGA2.out.trans HG9.out, HR9.out.imp id fun ⟨g, h1, h2⟩ => ⟨g, h1, Nat.le_trans HBW2.out.size h2⟩⟩
end Go.Proofs.YtclahhkcbkpofaaDoor
/- dfa.merged: arcs to classes. -/
namespace Go.Proofs.YtclahhkcbkpofaaDoor
open Go.RowKit

/-- Arcs that are read. -/
structure ArcsIn (w : World) (B : Nat) (A : Option Addr) (m c : Nat) (l : List Arc3) : Prop where
  len : l.length = m
  sl : Sl w B 3 A m (arcsC l)
  cm : m ≤ 140737488355328
theorem ArcsIn.keep {w w' : World} {B B' m c : Nat} {A : Option Addr} {l : List Arc3} (h : ArcsIn w B A m c l) (hb : Below B w w') (hB : B ≤ B') : ArcsIn w' B' A m c l := ⟨h.len, (h.sl.below hb).more hB, h.cm⟩
theorem ArcsIn.at_ {w : World} {B m c : Nat} {A : Option Addr} {l : List Arc3} (h : ArcsIn w B A m c l) (hn : 0 < m) : ∃ b off, A = some ⟨b, off, none⟩ ∧ b < B ∧ ∀ k a, l[k]? = some a → w.cell? ⟨b, off + k * 3, none⟩ = some (.int .i64 a.1) ∧ w.cell? ⟨b, off + k * 3 + 1, none⟩ = some (.int .i64 a.2.1) ∧ w.cell? ⟨b, off + k * 3 + 2, none⟩ = some (.int .i64 a.2.2) := by
  obtain ⟨b, off, hA, hb, hc⟩ := h.sl.at_ hn
  refine ⟨b, off, hA, hb, fun k e he => ?_⟩
  have g : ∀ j u, (arcC e)[j]? = some u → j < 3 → w.cell? ⟨b, off + (k * 3 + j), none⟩ = some u := fun j u hu hj =>
    hc _ _ (by unfold arcsC; rw [flat_at arcC 3 (fun _ => rfl) l k j e he hj]; exact hu)
  exact ⟨g 0 _ rfl (by omega), by have := g 1 _ rfl (by omega); rwa [← Nat.add_assoc] at this, by have := g 2 _ rfl (by omega); rwa [← Nat.add_assoc] at this⟩
/-- A row of bools, of numbers. -/
def Bools (w : World) (B : Nat) (A : Option Addr) (n : Nat) (L : List Bool) : Prop := L.length = n ∧ Sl w B 1 A n (L.map .bool)
def Ints (w : World) (B : Nat) (A : Option Addr) (n : Nat) (L : List Int) : Prop := L.length = n ∧ Sl w B 1 A n (L.map (.int .i64))
theorem Bools.at_ {w : World} {B n : Nat} {A : Option Addr} {L : List Bool} (h : Bools w B A n L) (hn : 0 < n) : ∃ b off, A = some ⟨b, off, none⟩ ∧ b < B ∧ ∀ k x, L[k]? = some x → w.cell? ⟨b, off + k, none⟩ = some (.bool x) := by
  obtain ⟨b, off, hA, hb, hc⟩ := h.2.at_ hn
  exact ⟨b, off, hA, hb, fun k x hx => hc k _ (by rw [List.getElem?_map, hx]; rfl)⟩
theorem Ints.at_ {w : World} {B n : Nat} {A : Option Addr} {L : List Int} (h : Ints w B A n L) (hn : 0 < n) : ∃ b off, A = some ⟨b, off, none⟩ ∧ b < B ∧ ∀ k x, L[k]? = some x → w.cell? ⟨b, off + k, none⟩ = some (.int .i64 x) := by
  obtain ⟨b, off, hA, hb, hc⟩ := h.2.at_ hn
  exact ⟨b, off, hA, hb, fun k x hx => hc k _ (by rw [List.getElem?_map, hx]; rfl)⟩
theorem Bools.keep {w w' : World} {B B' n : Nat} {A : Option Addr} {L : List Bool} (h : Bools w B A n L) (hb : Below B w w') (hB : B ≤ B') : Bools w' B' A n L := ⟨h.1, (h.2.below hb).more hB⟩
theorem Ints.keep {w w' : World} {B B' n : Nat} {A : Option Addr} {L : List Int} (h : Ints w B A n L) (hb : Below B w w') (hB : B ≤ B') : Ints w' B' A n L := ⟨h.1, (h.2.below hb).more hB⟩
/-- Which class a state leads to, if it lives. -/
def ledF (L : List Bool) (C : List Int) (t : Int) : Option Nat := if L.getD t.toNat false then some (C.getD t.toNat 0).toNat else none
theorem joinA_len (l : List Arc3) (a : Arc3) : (joinA l a).length ≤ l.length + 1 := by
  unfold joinA
  split
  · rename_i b hb
    split
    · rw [List.length_append, List.length_dropLast, List.length_singleton]; omega
    · rw [List.length_append, List.length_singleton]; exact Nat.le_refl _
  · simp
theorem ledA_len (f : Int → Option Nat) (l : List Arc3) : (ledA f l).length ≤ l.length := by
  induction l using rev_ind with
  | h0 => exact Nat.le_refl _
  | h1 l a ih =>
    rw [ledA_snoc, List.length_append, List.length_singleton]
    split
    · exact Nat.le_trans (joinA_len _ _) (by omega)
    · omega
theorem joinA_hi {l : List Arc3} {a : Arc3} {P : Int → Prop} (h : ∀ b ∈ l, P b.2.1) (ha : P a.2.1) : ∀ b ∈ joinA l a, P b.2.1 := by
  intro b hb
  unfold joinA at hb
  split at hb
  · split at hb
    · rcases List.mem_append.1 hb with hb | hb
      · exact h b (List.dropLast_subset _ hb)
      · rw [List.mem_singleton.1 hb]; exact ha
    · rcases List.mem_append.1 hb with hb | hb
      · exact h b hb
      · rw [List.mem_singleton.1 hb]; exact ha
  · rw [List.mem_singleton.1 hb]; exact ha
theorem ledA_hi {f : Int → Option Nat} {P : Int → Prop} {l : List Arc3} (h : ∀ b ∈ l, P b.2.1) : ∀ b ∈ ledA f l, P b.2.1 := by
  induction l using rev_ind with
  | h0 => intro b hb; cases hb
  | h1 l a ih =>
    rw [ledA_snoc]
    have hl := ih fun b hb => h b (List.mem_append_left _ hb)
    split
    · exact joinA_hi hl (h a (by simp))
    · exact hl
set_option maxRecDepth 100000 in
set_option maxHeartbeats 8000000 in
theorem merged_any (w : World) (B : Nat) (hB : B ≤ w.heap.size) (A : Option Addr) (m c : Nat) (l : List Arc3) (h : ArcsIn w B A m c l) (hasc : Asc l 256) (hm : m ≤ 1000000)
    (Al : Option Addr) (n cl : Nat) (L : List Bool) (hL : Bools w B Al n L) (Ac : Option Addr) (cc : Nat) (C : List Int) (hC : Ints w B Ac n C) (hto : ∀ a ∈ l, 0 ≤ a.2.2 ∧ a.2.2 < (n : Int)) (hcp : ∀ x ∈ C, 0 ≤ x) :
    Calls Tryd.prog 76 #[.slice A m c, .slice Al n cl, .slice Ac n cc] w fun e w' => ∃ v, e = .returned v ∧ w'.ownsRow w.heap.size 63 3 v (ledA (ledF L C) l).length (arcsC (ledA (ledF L C) l)) ∧ Below w.heap.size w w' := by
  have HA := Lib.hid h
  have HL := Lib.hid hL
  have HC := Lib.hid hC
  have HASC := Lib.hid hasc
  have HTO := Lib.hid hto
  have HCP := Lib.hid hcp
  have hlen := h.len
  clear h hL hC hasc hto hcp
  go_enter Tryd.func76, Tryd.ntmps76
  go_wp2_with fail
  go_loopw [7, 12] (fun ov jv wr => ∃ (j : Nat) (Ao : Option Addr) (p co : Nat) (acc : List Arc3), j ≤ m ∧ jv = .int .i64 j ∧ ov = .slice Ao p co ∧ Hid (acc = ledA (ledF L C) (l.take j) ∧ acc.length = p ∧ p ≤ m) ∧ Hid (wr.ownsRow w.heap.size 63 3 (.slice Ao p co) p (arcsC acc)) ∧ Hid (Below w.heap.size w wr)) (fun _ jv _ => m - (intOf jv).toNat)
  case atStart => exact ⟨0, none, 0, 0, [], Nat.zero_le _, rfl, rfl, ⟨rfl, rfl, Nat.zero_le _⟩, ⟨rfl, .inl ⟨rfl, rfl⟩⟩, brefl w⟩
  case round =>
    obtain ⟨j, Ao, p, co, acc, hj, rfl, rfl, HACC, HO, HB⟩ := hrel
    by_cases hjm : j < m
    · have HWJ := HA.out.keep (HB.out.mono hB) (Nat.le_refl _)
      obtain ⟨ab, aoff, rfl, hab, hac⟩ := HWJ.at_ (by omega)
      obtain ⟨a, ha⟩ : ∃ a, l[j]? = some a := ⟨l[j]'(by omega), List.getElem?_eq_getElem _⟩
      obtain ⟨a0, a1, a2⟩ := hac j a ha
      have habw : ab < wr.heap.size := Nat.lt_of_lt_of_le hab (Nat.le_trans hB HB.out.size)
      have htake : l.take (j + 1) = l.take j ++ [a] := by rw [List.take_add_one, ha]; rfl
      have hao := HASC.out.ok a (List.mem_of_getElem? ha)
      have hat := HTO.out a (List.mem_of_getElem? ha)
      obtain ⟨lo, hi, tt⟩ := a
      simp only at a0 a1 a2 hao hat
      obtain ⟨tk, rfl⟩ := Int.eq_ofNat_of_zero_le hat.1
      have htn : tk < n := by omega
      obtain ⟨lb, loff, rfl, hlb, hlc⟩ := (HL.out.keep (HB.out.mono hB) (Nat.le_refl _)).at_ (by omega)
      obtain ⟨cb, coff, rfl, hcb, hcc⟩ := (HC.out.keep (HB.out.mono hB) (Nat.le_refl _)).at_ (by omega)
      obtain ⟨lv, hlv⟩ : ∃ x, L[tk]? = some x := ⟨L[tk]'(by have := HL.out.1; omega), List.getElem?_eq_getElem _⟩
      obtain ⟨cv, hcv⟩ : ∃ x, C[tk]? = some x := ⟨C[tk]'(by have := HC.out.1; omega), List.getElem?_eq_getElem _⟩
      have l0 := hlc tk lv hlv
      have c0 := hcc tk cv hcv
      have hlbw : lb < wr.heap.size := Nat.lt_of_lt_of_le hlb (Nat.le_trans hB HB.out.size)
      have hcbw : cb < wr.heap.size := Nat.lt_of_lt_of_le hcb (Nat.le_trans hB HB.out.size)
      have hcv0 := HCP.out cv (List.mem_of_getElem? hcv)
      obtain ⟨ck, rfl⟩ := Int.eq_ofNat_of_zero_le hcv0
      have hf : ledF L C ((tk : Nat) : Int) = if lv then some ck else none := by
        unfold ledF
        rw [Int.toNat_natCast, List.getD_eq_getElem?_getD, List.getD_eq_getElem?_getD, hlv, hcv]
        rfl
      have HN : Hid (ledA (ledF L C) (l.take (j + 1)) = if lv then joinA acc (lo, hi, (ck : Int)) else acc) := by
        show _ = _
        rw [htake, ledA_snoc, ← HACC.out.1, hf]
        cases lv <;> rfl
      have i0 : (0 : Int) ≤ (tk : Int) := by omega
      have i1 : (tk : Int) < (n : Int) := by omega
      have HB1 := Lib.hid (bnew HB.out (.cells #[.int .i64 lo, .int .i64 hi, .int .i64 (tk : Int)] 63))
      have HO1 := Lib.hid (own_kept HO.out (bnew (brefl wr) (.cells #[.int .i64 lo, .int .i64 hi, .int .i64 (tk : Int)] 63)))
      obtain ⟨hp, hpm⟩ := HACC.out.2
      have hhi : ∀ b ∈ acc, 0 ≤ b.2.1 ∧ b.2.1 ≤ 256 := by
        rw [HACC.out.1]
        exact ledA_hi (P := fun z => 0 ≤ z ∧ z ≤ 256) fun b hb => by
          have := HASC.out.ok b (List.mem_of_mem_take hb)
          omega
      have HHI := Lib.hid hhi
      clear hac ha htake hlc hcc hlv hcv hf hcv0 HWJ hhi
      cases lv with
      | true =>
        have HJN : Hid (joinA acc (lo, hi, (ck : Int)) = ledA (ledF L C) (l.take (j + 1)) ∧ (joinA acc (lo, hi, (ck : Int))).length ≤ m) := by
          have h1 : joinA acc (lo, hi, (ck : Int)) = ledA (ledF L C) (l.take (j + 1)) := HN.out.symm
          refine ⟨h1, ?_⟩
          rw [h1]
          exact Nat.le_trans (ledA_len _ _) (by rw [List.length_take]; omega)
        go_wp2_with fail
        have hxb := heap_alloc_new wr (.cells #[.int .i64 lo, .int .i64 hi, .int .i64 (tk : Int)] 63)
        have hxs : (wr.alloc (.cells #[.int .i64 lo, .int .i64 hi, .int .i64 (tk : Int)] 63)).heap.size = wr.heap.size + 1 := by simp
        have hlN : ∀ q, (Value.slice Ao p co).ownBlock = some q → q < wr.heap.size := fun q hq => (HO.out.lt q hq).2
        clear a0 a1 a2 l0 habw hlbw
        generalize wr.alloc (.cells #[.int .i64 lo, .int .i64 hi, .int .i64 (tk : Int)] 63) = WX at *
        generalize wr.heap.size = N at *
        have hbx : w.heap.size ≤ WX.heap.size := HB1.out.size
        have hcbl : cb < w.heap.size := Nat.lt_of_lt_of_le hcb hB
        have hcx : WX.cell? ⟨cb, coff + tk, none⟩ = some (.int .i64 (ck : Int)) := by
          have h1 := HB1.out.cell (p := ⟨cb, coff + tk, none⟩) hcbl
          have h2 := HB.out.cell (p := ⟨cb, coff + tk, none⟩) hcbl
          rw [h1, ← h2]
          exact c0
        have HGX : Hid (∀ w', WX.grownBy w' (Value.slice Ao p co).ownBlock → (w'.cell? ⟨N, 0, none⟩ = some (.int .i64 lo) ∧ w'.cell? ⟨N, 1, none⟩ = some (.int .i64 hi) ∧ w'.cell? ⟨N, 2, none⟩ = some (.int .i64 (tk : Int)) ∧ w'.cell? ⟨cb, coff + tk, none⟩ = some (.int .i64 (ck : Int))) ∧ Below w.heap.size w w') := fun w' hg => by
          have kb := (hg.block N (by omega) (fun e => by have := hlN N e.symm; omega)).trans hxb
          have hbb := HB1.out.grown hg hbx fun q hq => by have := (HO1.out.lt q hq).1; omega
          have hc1 := (hbb.cell (p := ⟨cb, coff + tk, none⟩) hcbl)
          have hc2 := HB1.out.cell (p := ⟨cb, coff + tk, none⟩) hcbl
          exact ⟨⟨cell_of_row _ N 0 _ _ (0, 0) kb, cell_of_row _ N 1 _ _ (0, 0) kb, cell_of_row _ N 2 _ _ (0, 0) kb, by rw [hc1, ← hc2]; exact hcx⟩, hbb⟩
        have K3 := Lib.hid (HGX.out WX ⟨rfl, rfl, rfl, Nat.le_refl _, fun _ _ _ => rfl⟩).1
        clear hxb hxs hlN c0 hcx
        go_region_held3 (fun w' => w'.cell? ⟨N, 0, none⟩ = some (.int .i64 lo) ∧ w'.cell? ⟨N, 1, none⟩ = some (.int .i64 hi) ∧ w'.cell? ⟨N, 2, none⟩ = some (.int .i64 (tk : Int)) ∧ w'.cell? ⟨cb, coff + tk, none⟩ = some (.int .i64 (ck : Int)))
          (first
            | assumption
            | exact K3.out
            | exact HS7.out.1)
          (first | (go_at_call 41; refine (join_any _ w.heap.size (by exact hbx) Ao p co acc (by exact HO1.out) (by omega) lo hi (ck : Int) ⟨by omega, by omega⟩ HHI.out).mono ?_; rintro e w7 ⟨v7, rfl, hown7, hg7, _⟩; have HO7 := Lib.hid hown7; have HS7 := Lib.hid (HGX.out w7 (by exact ⟨hg7.os, hg7.tape, hg7.output, hg7.size, hg7.block⟩)); clear hown7 hg7))
        all_goals
          obtain ⟨A7, c7, rfl, _⟩ := own_shape HO7.out
          have HN2 : Hid (joinA acc (lo, hi, (ck : Int)) = ledA (ledF L C) (l.take (j + 1)) ∧ (joinA acc (lo, hi, (ck : Int))).length = (joinA acc (lo, hi, (ck : Int))).length ∧ (joinA acc (lo, hi, (ck : Int))).length ≤ m) := ⟨HJN.out.1, rfl, HJN.out.2⟩
          have HB7 := Lib.hid HS7.out.2
          go_wp2_with fail
          go_roundw
          case rel => exact ⟨j + 1, A7, _, c7, joinA acc (lo, hi, (ck : Int)), by omega, by go_num, rfl, HN2, HO7, HB7⟩
          case measure => simp [intOf]; omega
      | false =>
        have HN2 : Hid (acc = ledA (ledF L C) (l.take (j + 1)) ∧ acc.length = p ∧ p ≤ m) := ⟨by rw [HN.out]; rfl, hp, hpm⟩
        go_wp2_with fail
        go_roundw
        case rel => exact ⟨j + 1, Ao, p, co, acc, by omega, by go_num, rfl, HN2, HO1, HB1⟩
        case measure => simp [intOf]; omega
    · obtain rfl : j = m := by omega
      have hall : l.take j = l := List.take_of_length_le (by omega)
      have HE := Lib.hid HACC.out.1
      rw [hall] at HE
      have HP := Lib.hid HACC.out.2.1
      go_wp2_with fail
      go_ret
      exact ⟨_, rfl, by rw [← HE.out, HP.out]; exact HO.out, HB.out⟩
end Go.Proofs.YtclahhkcbkpofaaDoor
