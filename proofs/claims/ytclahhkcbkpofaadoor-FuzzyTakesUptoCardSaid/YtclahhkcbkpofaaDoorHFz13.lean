/- dfa.merged: arcs to classes. -/
import Derived.Test.YtclahhkcbkpofaaDoorHFz12
namespace Go.Proofs.YtclahhkcbkpofaaDoor
open Go.RowKit
/-- Arcs that are read. -/
structure ArcsIn (w : World) (B : Nat) (A : Option Addr) (m c : Nat) (l : List Arc3) : Prop where
  len : l.length = m
  sl : Sl w B 3 A m (arcsC l)
  cm : m ≤ 140737488355328
theorem ArcsIn.keep {w w' : World} {B B' m c : Nat} {A : Option Addr} {l : List Arc3} (h : ArcsIn w B A m c l) (hb : Below B w w') (hB : B ≤ B') : ArcsIn w' B' A m c l := ⟨h.len, (h.sl.below hb).more hB, h.cm⟩
theorem ArcsIn.at_ {w : World} {B m c : Nat} {A : Option Addr} {l : List Arc3} (h : ArcsIn w B A m c l) (hn : 0 < m) : ∃ b off, A = some ⟨b, off, none⟩ ∧ b < B ∧ ∀ k a, l[k]? = some a → w.cell? ⟨b, off + k * 3, none⟩ = some (.int .i64 a.1) ∧ w.cell? ⟨b, off + k * 3 + 1, none⟩ = some (.int .i64 a.2.1) ∧ w.cell? ⟨b, off + k * 3 + 2, none⟩ = some (.int .i64 a.2.2) := by
  obtain ⟨b, off, hA, hb, hc⟩ := h.sl.at_ hn
  refine ⟨b, off, hA, hb, fun k e he => ?_⟩
  have g : ∀ j u, (arcC e)[j]? = some u → j < 3 → w.cell? ⟨b, off + (k * 3 + j), none⟩ = some u := fun j u hu hj =>
    hc _ _ (by unfold arcsC; rw [flat_at arcC 3 (fun _ => rfl) l k j e he hj]; exact hu)
  exact ⟨g 0 _ rfl (by omega), by have := g 1 _ rfl (by omega); rwa [← Nat.add_assoc] at this, by have := g 2 _ rfl (by omega); rwa [← Nat.add_assoc] at this⟩
/-- A row of bools, of numbers. -/
def Bools (w : World) (B : Nat) (A : Option Addr) (n : Nat) (L : List Bool) : Prop := L.length = n ∧ Sl w B 1 A n (L.map .bool)
def Ints (w : World) (B : Nat) (A : Option Addr) (n : Nat) (L : List Int) : Prop := L.length = n ∧ Sl w B 1 A n (L.map (.int .i64))
theorem Bools.at_ {w : World} {B n : Nat} {A : Option Addr} {L : List Bool} (h : Bools w B A n L) (hn : 0 < n) : ∃ b off, A = some ⟨b, off, none⟩ ∧ b < B ∧ ∀ k x, L[k]? = some x → w.cell? ⟨b, off + k, none⟩ = some (.bool x) := by
  obtain ⟨b, off, hA, hb, hc⟩ := h.2.at_ hn
  exact ⟨b, off, hA, hb, fun k x hx => hc k _ (by rw [List.getElem?_map, hx]; rfl)⟩
theorem Ints.at_ {w : World} {B n : Nat} {A : Option Addr} {L : List Int} (h : Ints w B A n L) (hn : 0 < n) : ∃ b off, A = some ⟨b, off, none⟩ ∧ b < B ∧ ∀ k x, L[k]? = some x → w.cell? ⟨b, off + k, none⟩ = some (.int .i64 x) := by
  obtain ⟨b, off, hA, hb, hc⟩ := h.2.at_ hn
  exact ⟨b, off, hA, hb, fun k x hx => hc k _ (by rw [List.getElem?_map, hx]; rfl)⟩
theorem Bools.keep {w w' : World} {B B' n : Nat} {A : Option Addr} {L : List Bool} (h : Bools w B A n L) (hb : Below B w w') (hB : B ≤ B') : Bools w' B' A n L := ⟨h.1, (h.2.below hb).more hB⟩
theorem Ints.keep {w w' : World} {B B' n : Nat} {A : Option Addr} {L : List Int} (h : Ints w B A n L) (hb : Below B w w') (hB : B ≤ B') : Ints w' B' A n L := ⟨h.1, (h.2.below hb).more hB⟩
/-- Which class a state leads to, if it lives. -/
def ledF (L : List Bool) (C : List Int) (t : Int) : Option Nat := if L.getD t.toNat false then some (C.getD t.toNat 0).toNat else none
theorem joinA_len (l : List Arc3) (a : Arc3) : (joinA l a).length ≤ l.length + 1 := by
  unfold joinA
  split
  · rename_i b hb
    split
    · rw [List.length_append, List.length_dropLast, List.length_singleton]; omega
    · rw [List.length_append, List.length_singleton]; exact Nat.le_refl _
  · simp
theorem ledA_len (f : Int → Option Nat) (l : List Arc3) : (ledA f l).length ≤ l.length := by
  induction l using rev_ind with
  | h0 => exact Nat.le_refl _
  | h1 l a ih =>
    rw [ledA_snoc, List.length_append, List.length_singleton]
    split
    · exact Nat.le_trans (joinA_len _ _) (by omega)
    · omega
theorem joinA_hi {l : List Arc3} {a : Arc3} {P : Int → Prop} (h : ∀ b ∈ l, P b.2.1) (ha : P a.2.1) : ∀ b ∈ joinA l a, P b.2.1 := by
  intro b hb
  unfold joinA at hb
  split at hb
  · split at hb
    · rcases List.mem_append.1 hb with hb | hb
      · exact h b (List.dropLast_subset _ hb)
      · rw [List.mem_singleton.1 hb]; exact ha
    · rcases List.mem_append.1 hb with hb | hb
      · exact h b hb
      · rw [List.mem_singleton.1 hb]; exact ha
  · rw [List.mem_singleton.1 hb]; exact ha
theorem ledA_hi {f : Int → Option Nat} {P : Int → Prop} {l : List Arc3} (h : ∀ b ∈ l, P b.2.1) : ∀ b ∈ ledA f l, P b.2.1 := by
  induction l using rev_ind with
  | h0 => intro b hb; cases hb
  | h1 l a ih =>
    rw [ledA_snoc]
    have hl := ih fun b hb => h b (List.mem_append_left _ hb)
    split
    · exact joinA_hi hl (h a (by simp))
    · exact hl
set_option maxRecDepth 100000 in
set_option maxHeartbeats 8000000 in
theorem merged_any (w : World) (B : Nat) (hB : B ≤ w.heap.size) (A : Option Addr) (m c : Nat) (l : List Arc3) (h : ArcsIn w B A m c l) (hasc : Asc l 256) (hm : m ≤ 1000000)
    (Al : Option Addr) (n cl : Nat) (L : List Bool) (hL : Bools w B Al n L) (Ac : Option Addr) (cc : Nat) (C : List Int) (hC : Ints w B Ac n C) (hto : ∀ a ∈ l, 0 ≤ a.2.2 ∧ a.2.2 < (n : Int)) (hcp : ∀ x ∈ C, 0 ≤ x) :
    Calls Tryd.prog 76 #[.slice A m c, .slice Al n cl, .slice Ac n cc] w fun e w' => ∃ v, e = .returned v ∧ w'.ownsRow w.heap.size 63 3 v (ledA (ledF L C) l).length (arcsC (ledA (ledF L C) l)) ∧ Below w.heap.size w w' := by
  have HA := Lib.hid h
  have HL := Lib.hid hL
  have HC := Lib.hid hC
  have HASC := Lib.hid hasc
  have HTO := Lib.hid hto
  have HCP := Lib.hid hcp
  have hlen := h.len
  clear h hL hC hasc hto hcp
  go_enter Tryd.func76, Tryd.ntmps76
  go_wp2_with fail
  go_loopw [7, 12] (fun ov jv wr => ∃ (j : Nat) (Ao : Option Addr) (p co : Nat) (acc : List Arc3), j ≤ m ∧ jv = .int .i64 j ∧ ov = .slice Ao p co ∧ Hid (acc = ledA (ledF L C) (l.take j) ∧ acc.length = p ∧ p ≤ m) ∧ Hid (wr.ownsRow w.heap.size 63 3 (.slice Ao p co) p (arcsC acc)) ∧ Hid (Below w.heap.size w wr)) (fun _ jv _ => m - (intOf jv).toNat)
  case atStart => exact ⟨0, none, 0, 0, [], Nat.zero_le _, rfl, rfl, ⟨rfl, rfl, Nat.zero_le _⟩, ⟨rfl, .inl ⟨rfl, rfl⟩⟩, brefl w⟩
  case round =>
    obtain ⟨j, Ao, p, co, acc, hj, rfl, rfl, HACC, HO, HB⟩ := hrel
    by_cases hjm : j < m
    · have HWJ := HA.out.keep (HB.out.mono hB) (Nat.le_refl _)
      obtain ⟨ab, aoff, rfl, hab, hac⟩ := HWJ.at_ (by omega)
      obtain ⟨a, ha⟩ : ∃ a, l[j]? = some a := ⟨l[j]'(by omega), List.getElem?_eq_getElem _⟩
      obtain ⟨a0, a1, a2⟩ := hac j a ha
      have habw : ab < wr.heap.size := Nat.lt_of_lt_of_le hab (Nat.le_trans hB HB.out.size)
      have htake : l.take (j + 1) = l.take j ++ [a] := by rw [List.take_add_one, ha]; rfl
      have hao := HASC.out.ok a (List.mem_of_getElem? ha)
      have hat := HTO.out a (List.mem_of_getElem? ha)
      obtain ⟨lo, hi, tt⟩ := a
      simp only at a0 a1 a2 hao hat
      obtain ⟨tk, rfl⟩ := Int.eq_ofNat_of_zero_le hat.1
      have htn : tk < n := by omega
      obtain ⟨lb, loff, rfl, hlb, hlc⟩ := (HL.out.keep (HB.out.mono hB) (Nat.le_refl _)).at_ (by omega)
      obtain ⟨cb, coff, rfl, hcb, hcc⟩ := (HC.out.keep (HB.out.mono hB) (Nat.le_refl _)).at_ (by omega)
      obtain ⟨lv, hlv⟩ : ∃ x, L[tk]? = some x := ⟨L[tk]'(by have := HL.out.1; omega), List.getElem?_eq_getElem _⟩
      obtain ⟨cv, hcv⟩ : ∃ x, C[tk]? = some x := ⟨C[tk]'(by have := HC.out.1; omega), List.getElem?_eq_getElem _⟩
      have l0 := hlc tk lv hlv
      have c0 := hcc tk cv hcv
      have hlbw : lb < wr.heap.size := Nat.lt_of_lt_of_le hlb (Nat.le_trans hB HB.out.size)
      have hcbw : cb < wr.heap.size := Nat.lt_of_lt_of_le hcb (Nat.le_trans hB HB.out.size)
      have hcv0 := HCP.out cv (List.mem_of_getElem? hcv)
      obtain ⟨ck, rfl⟩ := Int.eq_ofNat_of_zero_le hcv0
      have hf : ledF L C ((tk : Nat) : Int) = if lv then some ck else none := by
        unfold ledF
        rw [Int.toNat_natCast, List.getD_eq_getElem?_getD, List.getD_eq_getElem?_getD, hlv, hcv]
        rfl
      have HN : Hid (ledA (ledF L C) (l.take (j + 1)) = if lv then joinA acc (lo, hi, (ck : Int)) else acc) := by
        show _ = _
        rw [htake, ledA_snoc, ← HACC.out.1, hf]
        cases lv <;> rfl
      have i0 : (0 : Int) ≤ (tk : Int) := by omega
      have i1 : (tk : Int) < (n : Int) := by omega
      have HB1 := Lib.hid (bnew HB.out (.cells #[.int .i64 lo, .int .i64 hi, .int .i64 (tk : Int)] 63))
      have HO1 := Lib.hid (own_kept HO.out (bnew (brefl wr) (.cells #[.int .i64 lo, .int .i64 hi, .int .i64 (tk : Int)] 63)))
      obtain ⟨hp, hpm⟩ := HACC.out.2
      have hhi : ∀ b ∈ acc, 0 ≤ b.2.1 ∧ b.2.1 ≤ 256 := by
        rw [HACC.out.1]
        exact ledA_hi (P := fun z => 0 ≤ z ∧ z ≤ 256) fun b hb => by
          have := HASC.out.ok b (List.mem_of_mem_take hb)
          omega
      have HHI := Lib.hid hhi
      clear hac ha htake hlc hcc hlv hcv hf hcv0 HWJ hhi
      cases lv with
      | true =>
        have HJN : Hid (joinA acc (lo, hi, (ck : Int)) = ledA (ledF L C) (l.take (j + 1)) ∧ (joinA acc (lo, hi, (ck : Int))).length ≤ m) := by
          have h1 : joinA acc (lo, hi, (ck : Int)) = ledA (ledF L C) (l.take (j + 1)) := HN.out.symm
          refine ⟨h1, ?_⟩
          rw [h1]
          exact Nat.le_trans (ledA_len _ _) (by rw [List.length_take]; omega)
        go_wp2_with fail
        have hxb := heap_alloc_new wr (.cells #[.int .i64 lo, .int .i64 hi, .int .i64 (tk : Int)] 63)
        have hxs : (wr.alloc (.cells #[.int .i64 lo, .int .i64 hi, .int .i64 (tk : Int)] 63)).heap.size = wr.heap.size + 1 := by simp
        have hlN : ∀ q, (Value.slice Ao p co).ownBlock = some q → q < wr.heap.size := fun q hq => (HO.out.lt q hq).2
        clear a0 a1 a2 l0 habw hlbw
        generalize wr.alloc (.cells #[.int .i64 lo, .int .i64 hi, .int .i64 (tk : Int)] 63) = WX at *
        generalize wr.heap.size = N at *
        have hbx : w.heap.size ≤ WX.heap.size := HB1.out.size
        have hcbl : cb < w.heap.size := Nat.lt_of_lt_of_le hcb hB
        have hcx : WX.cell? ⟨cb, coff + tk, none⟩ = some (.int .i64 (ck : Int)) := by
          have h1 := HB1.out.cell (p := ⟨cb, coff + tk, none⟩) hcbl
          have h2 := HB.out.cell (p := ⟨cb, coff + tk, none⟩) hcbl
          rw [h1, ← h2]
          exact c0
        have HGX : Hid (∀ w', WX.grownBy w' (Value.slice Ao p co).ownBlock → (w'.cell? ⟨N, 0, none⟩ = some (.int .i64 lo) ∧ w'.cell? ⟨N, 1, none⟩ = some (.int .i64 hi) ∧ w'.cell? ⟨N, 2, none⟩ = some (.int .i64 (tk : Int)) ∧ w'.cell? ⟨cb, coff + tk, none⟩ = some (.int .i64 (ck : Int))) ∧ Below w.heap.size w w') := fun w' hg => by
          have kb := (hg.block N (by omega) (fun e => by have := hlN N e.symm; omega)).trans hxb
          have hbb := HB1.out.grown hg hbx fun q hq => by have := (HO1.out.lt q hq).1; omega
          have hc1 := (hbb.cell (p := ⟨cb, coff + tk, none⟩) hcbl)
          have hc2 := HB1.out.cell (p := ⟨cb, coff + tk, none⟩) hcbl
          exact ⟨⟨cell_of_row _ N 0 _ _ (0, 0) kb, cell_of_row _ N 1 _ _ (0, 0) kb, cell_of_row _ N 2 _ _ (0, 0) kb, by rw [hc1, ← hc2]; exact hcx⟩, hbb⟩
        have K3 := Lib.hid (HGX.out WX ⟨rfl, rfl, rfl, Nat.le_refl _, fun _ _ _ => rfl⟩).1
        clear hxb hxs hlN c0 hcx
        go_region_held3 (fun w' => w'.cell? ⟨N, 0, none⟩ = some (.int .i64 lo) ∧ w'.cell? ⟨N, 1, none⟩ = some (.int .i64 hi) ∧ w'.cell? ⟨N, 2, none⟩ = some (.int .i64 (tk : Int)) ∧ w'.cell? ⟨cb, coff + tk, none⟩ = some (.int .i64 (ck : Int)))
          (first
            | assumption
            | exact K3.out
            | exact HS7.out.1)
          (first | (go_at_call 41; refine (join_any _ w.heap.size (by exact hbx) Ao p co acc (by exact HO1.out) (by omega) lo hi (ck : Int) ⟨by omega, by omega⟩ HHI.out).mono ?_; rintro e w7 ⟨v7, rfl, hown7, hg7, _⟩; have HO7 := Lib.hid hown7; have HS7 := Lib.hid (HGX.out w7 (by exact ⟨hg7.os, hg7.tape, hg7.output, hg7.size, hg7.block⟩)); clear hown7 hg7))
        all_goals
          obtain ⟨A7, c7, rfl, _⟩ := own_shape HO7.out
          have HN2 : Hid (joinA acc (lo, hi, (ck : Int)) = ledA (ledF L C) (l.take (j + 1)) ∧ (joinA acc (lo, hi, (ck : Int))).length = (joinA acc (lo, hi, (ck : Int))).length ∧ (joinA acc (lo, hi, (ck : Int))).length ≤ m) := ⟨HJN.out.1, rfl, HJN.out.2⟩
          have HB7 := Lib.hid HS7.out.2
          go_wp2_with fail
          go_roundw
          case rel => exact ⟨j + 1, A7, _, c7, joinA acc (lo, hi, (ck : Int)), by omega, by go_num, rfl, HN2, HO7, HB7⟩
          case measure => simp [intOf]; omega
      | false =>
        have HN2 : Hid (acc = ledA (ledF L C) (l.take (j + 1)) ∧ acc.length = p ∧ p ≤ m) := ⟨by rw [HN.out]; rfl, hp, hpm⟩
        go_wp2_with fail
        go_roundw
        case rel => exact ⟨j + 1, Ao, p, co, acc, by omega, by go_num, rfl, HN2, HO1, HB1⟩
        case measure => simp [intOf]; omega
    · obtain rfl : j = m := by omega
      have hall : l.take j = l := List.take_of_length_le (by omega)
      have HE := Lib.hid HACC.out.1
      rw [hall] at HE
      have HP := Lib.hid HACC.out.2.1
      go_wp2_with fail
      go_ret
      exact ⟨_, rfl, by rw [← HE.out, HP.out]; exact HO.out, HB.out⟩
end Go.Proofs.YtclahhkcbkpofaaDoor
/- Loose states in memory; dfa.loose. -/
namespace Go.Proofs.YtclahhkcbkpofaaDoor
open Go.RowKit
/-- A loose state. -/
structure Lst where
  fin : Bool
  arcs : List Arc3
  free : List Int
def okArc (n : Nat) (a : Arc3) : Bool := decide (0 ≤ a.1 ∧ a.1 ≤ a.2.1 ∧ a.2.1 ≤ 255 ∧ 0 ≤ a.2.2 ∧ a.2.2 < (n : Int))
def okTo (n : Nat) (t : Int) : Bool := decide (0 ≤ t ∧ t < (n : Int))
def looseB (l : List Lst) : Bool := !l.isEmpty && l.all fun s => s.arcs.all (okArc l.length) && s.free.all (okTo l.length)
/-- .. and where its arcs and its free steps lie. -/
structure Lsh where
  d : Lst
  A : Option Addr
  c : Nat
  F : Option Addr
  e : Nat
def Lsh.hdr (x : Lsh) : List Value := [.bool x.d.fin, .slice x.A x.d.arcs.length x.c, .slice x.F x.d.free.length x.e]
structure LoIn (w : World) (B : Nat) (A : Option Addr) (n c : Nat) (H : List Lsh) : Prop where
  len : H.length = n
  sl : Sl w B 3 A n (H.flatMap Lsh.hdr)
  nc : n ≤ c
  cm : n ≤ 2097152
  ar : ∀ x ∈ H, Sl w B 3 x.A x.d.arcs.length (arcsC x.d.arcs) ∧ x.d.arcs.length ≤ x.c ∧ x.d.arcs.length ≤ 2097152
  fr : ∀ x ∈ H, Sl w B 1 x.F x.d.free.length (x.d.free.map (.int .i64)) ∧ x.d.free.length ≤ x.e ∧ x.d.free.length ≤ 2097152 ∧ (x.F = none → x.d.free.length = 0)
section
variable {w w' : World} {B B' : Nat} {A : Option Addr} {n c : Nat} {H : List Lsh}
theorem LoIn.keep (h : LoIn w B A n c H) (hb : Below B w w') (hB : B ≤ B') : LoIn w' B' A n c H :=
  ⟨h.len, (h.sl.below hb).more hB, h.nc, h.cm, fun x hx => ⟨((h.ar x hx).1.below hb).more hB, (h.ar x hx).2⟩, fun x hx => ⟨((h.fr x hx).1.below hb).more hB, (h.fr x hx).2⟩⟩
theorem LoIn.at_ (h : LoIn w B A n c H) (hn : 0 < n) : ∃ b off, A = some ⟨b, off, none⟩ ∧ b < B ∧ ∀ k x, H[k]? = some x → w.cell? ⟨b, off + k * 3, none⟩ = some (.bool x.d.fin) ∧ w.cell? ⟨b, off + k * 3 + 1, none⟩ = some (.slice x.A x.d.arcs.length x.c) ∧ w.cell? ⟨b, off + k * 3 + 2, none⟩ = some (.slice x.F x.d.free.length x.e) := by
  obtain ⟨b, off, hA, hb, hc⟩ := h.sl.at_ hn
  refine ⟨b, off, hA, hb, fun k e he => ?_⟩
  have g : ∀ j u, e.hdr[j]? = some u → j < 3 → w.cell? ⟨b, off + (k * 3 + j), none⟩ = some u := fun j u hu hj =>
    hc _ _ (by rw [flat_at Lsh.hdr 3 (fun _ => rfl) H k j e he hj]; exact hu)
  exact ⟨g 0 _ rfl (by omega), by have := g 1 _ rfl (by omega); rwa [← Nat.add_assoc] at this, by have := g 2 _ rfl (by omega); rwa [← Nat.add_assoc] at this⟩
theorem LoIn.arcs (h : LoIn w B A n c H) {x : Lsh} (hx : x ∈ H) : ArcsIn w B x.A x.d.arcs.length x.c x.d.arcs := ⟨rfl, (h.ar x hx).1, by have := (h.ar x hx).2.2; omega⟩
theorem LoIn.frees (h : LoIn w B A n c H) {x : Lsh} (hx : x ∈ H) (hn : 0 < x.d.free.length) : ∃ b off, x.F = some ⟨b, off, none⟩ ∧ b < B ∧ ∀ k z, x.d.free[k]? = some z → w.cell? ⟨b, off + k, none⟩ = some (.int .i64 z) := by
  obtain ⟨b, off, hA, hb, hc⟩ := (h.fr x hx).1.at_ hn
  exact ⟨b, off, hA, hb, fun k z hz => hc k _ (by rw [List.getElem?_map, hz]; rfl)⟩
end
set_option maxRecDepth 100000 in
set_option maxHeartbeats 8000000 in
theorem loose_any (w : World) (B : Nat) (hB : B ≤ w.heap.size) (A : Option Addr) (n c : Nat) (H : List Lsh) (h : LoIn w B A n c H) :
    Calls Tryd.prog 37 #[.slice A n c] w fun e w' => e = .returned (.bool (looseB (H.map (·.d)))) ∧ Below w.heap.size w w' := by
  have HS := Lib.hid h
  have hlen := h.len
  have hcm := h.cm
  clear h
  go_enter Tryd.func37, Tryd.ntmps37
  go_wp2_with fail
  have HBAD : Hid (∀ x ∈ H, (x.d.arcs.all (okArc n) && x.d.free.all (okTo n)) = false → looseB (H.map (·.d)) = false) := fun x hx hf => by
    unfold looseB
    have : (H.map (·.d)).all (fun s => s.arcs.all (okArc (H.map (·.d)).length) && s.free.all (okTo (H.map (·.d)).length)) = false := by
      rw [List.all_eq_false]
      refine ⟨x.d, List.mem_map_of_mem hx, ?_⟩
      rw [List.length_map, hlen, hf]
      simp
    rw [this, Bool.and_false]
  go_loopw [11] (fun iv wr => ∃ k : Nat, k ≤ n ∧ iv = .int .i64 k ∧ Hid (∀ x ∈ H.take k, (x.d.arcs.all (okArc n) && x.d.free.all (okTo n)) = true) ∧ Hid (Below w.heap.size w wr)) (fun iv _ => n - (intOf iv).toNat)
  case atStart => exact ⟨0, Nat.zero_le _, rfl, fun x hx => by simp at hx, brefl w⟩
  case round =>
    obtain ⟨k, hk, rfl, HK, HB⟩ := hrel
    by_cases hlt : k < n
    · have HW := Lib.hid (HS.out.keep (HB.out.mono hB) (Nat.le_refl _))
      obtain ⟨b, off, rfl, hb, hcell⟩ := HW.out.at_ (by omega)
      obtain ⟨x, hx⟩ : ∃ x, H[k]? = some x := ⟨H[k]'(by omega), List.getElem?_eq_getElem _⟩
      obtain ⟨k0, k1, k2⟩ := hcell k x hx
      have hbw : b < wr.heap.size := Nat.lt_of_lt_of_le hb (Nat.le_trans hB HB.out.size)
      have hxm := List.mem_of_getElem? hx
      obtain ⟨m, hm⟩ : ∃ m, x.d.arcs.length = m := ⟨_, rfl⟩
      obtain ⟨q, hq⟩ : ∃ m, x.d.free.length = m := ⟨_, rfl⟩
      have hma := (HS.out.ar x hxm).2
      have hmf := (HS.out.fr x hxm).2
      rw [hm] at k1 hma
      rw [hq] at k2 hmf
      obtain ⟨hmc, hm20⟩ := hma
      obtain ⟨hqc, hq20, _⟩ := hmf
      have HM := Lib.hid hm
      have HQ := Lib.hid hq
      have HXM := Lib.hid hxm
      have HXK := Lib.hid hx
      clear hcell hx hxm hm hq
      go_wp2_with fail
      have HB1 := Lib.hid (bnew HB.out (.cells #[.bool x.d.fin, .slice x.A m x.c, .slice x.F q x.e] 25))
      have HC1 := Lib.hid (heap_alloc_new wr (.cells #[.bool x.d.fin, .slice x.A m x.c, .slice x.F q x.e] 25))
      clear k0 k1 k2 hbw HW
      generalize wr.heap.size = sp at *
      go_loopw [18] (fun jv wj => ∃ j : Nat, j ≤ m ∧ jv = .int .i64 j ∧ Hid ((x.d.arcs.take j).all (okArc n) = true) ∧ Hid (wj.heap[sp]? = some (.cells #[.bool x.d.fin, .slice x.A m x.c, .slice x.F q x.e] 25 (0, 0))) ∧ Hid (Below w.heap.size w wj)) (fun jv _ => m - (intOf jv).toNat)
      case atStart => exact ⟨0, Nat.zero_le _, rfl, rfl, HC1, HB1⟩
      case round =>
        clear HB1 HC1
        obtain ⟨j, hj, rfl, HO, HC, HBJ⟩ := hrel
        by_cases hjm : j < m
        · have HWJ := HS.out.keep (HBJ.out.mono hB) (Nat.le_refl _)
          obtain ⟨ab, aoff, hxA, hab, hac⟩ := (HWJ.arcs HXM.out).at_ (by rw [HM.out]; omega)
          obtain ⟨a, ha⟩ : ∃ a, x.d.arcs[j]? = some a := ⟨x.d.arcs[j]'(by rw [HM.out]; exact hjm), List.getElem?_eq_getElem _⟩
          obtain ⟨a0, a1, a2⟩ := hac j a ha
          have habw : ab < wr.heap.size := Nat.lt_of_lt_of_le hab (Nat.le_trans hB HBJ.out.size)
          have HTK : Hid (x.d.arcs.take (j + 1) = x.d.arcs.take j ++ [a]) := by show _ = _; rw [List.take_add_one, ha]; rfl
          have HBN := Lib.hid (bnew HBJ.out (.cells #[.int .i64 a.1, .int .i64 a.2.1, .int .i64 a.2.2] 63))
          have HCN : Hid ((wr.alloc (.cells #[.int .i64 a.1, .int .i64 a.2.1, .int .i64 a.2.2] 63)).heap[sp]? = some (.cells #[.bool x.d.fin, .slice x.A m x.c, .slice x.F q x.e] 25 (0, 0))) := ((bnew (brefl wr) _).block _ (Array.getElem?_eq_some_iff.1 HC.out).1).trans HC.out
          have HFL : Hid (okArc n a = false → looseB (H.map (·.d)) = false) := fun hf => HBAD.out x HXM.out (by
            have : x.d.arcs.all (okArc n) = false := List.all_eq_false.2 ⟨a, List.mem_of_getElem? ha, by rw [hf]; simp⟩
            rw [this, Bool.false_and])
          rw [hxA]
          rw [hxA] at HCN
          clear hac HWJ ha
          obtain ⟨lo, hi, tt⟩ := a
          simp only at a0 a1 a2 HBN HCN
          by_cases c1 : lo < 0
          · have p1 : decide (lo < 0) = true := decide_eq_true c1
            have HF := Lib.hid (HFL.out (decide_eq_false (by show ¬ (0 ≤ lo ∧ _); omega)))
            clear c1
            go_wp2_with fail
            go_ret
            exact ⟨by rw [HF.out]; rfl, HBN.out⟩
          have p1 : decide (lo < 0) = false := decide_eq_false c1
          by_cases c2 : hi < lo
          · have p2 : decide (hi < lo) = true := decide_eq_true c2
            have HF := Lib.hid (HFL.out (decide_eq_false (by show ¬ (0 ≤ lo ∧ lo ≤ hi ∧ _); omega)))
            clear c1 c2
            go_wp2_with fail
            go_ret
            exact ⟨by rw [HF.out]; rfl, HBN.out⟩
          have p2 : decide (hi < lo) = false := decide_eq_false c2
          by_cases c3 : 255 < hi
          · have p3 : decide (hi > 255) = true := decide_eq_true c3
            have HF := Lib.hid (HFL.out (decide_eq_false (by show ¬ (0 ≤ lo ∧ lo ≤ hi ∧ hi ≤ 255 ∧ _); omega)))
            clear c1 c2 c3
            go_wp2_with fail
            go_ret
            exact ⟨by rw [HF.out]; rfl, HBN.out⟩
          have p3 : decide (hi > 255) = false := decide_eq_false c3
          by_cases c4 : tt < 0
          · have p4 : decide (tt < 0) = true := decide_eq_true c4
            have HF := Lib.hid (HFL.out (decide_eq_false (by show ¬ (0 ≤ lo ∧ lo ≤ hi ∧ hi ≤ 255 ∧ 0 ≤ tt ∧ _); omega)))
            clear c1 c2 c3 c4
            go_wp2_with fail
            go_ret
            exact ⟨by rw [HF.out]; rfl, HBN.out⟩
          have p4 : decide (tt < 0) = false := decide_eq_false c4
          by_cases c5 : (n : Int) ≤ tt
          · have p5 : decide (tt ≥ (n : Int)) = true := decide_eq_true c5
            have HF := Lib.hid (HFL.out (decide_eq_false (by show ¬ (0 ≤ lo ∧ lo ≤ hi ∧ hi ≤ 255 ∧ 0 ≤ tt ∧ tt < (n : Int)); omega)))
            clear c1 c2 c3 c4 c5
            go_wp2_with fail
            go_ret
            exact ⟨by rw [HF.out]; rfl, HBN.out⟩
          have p5 : decide (tt ≥ (n : Int)) = false := decide_eq_false c5
          have HON : Hid ((x.d.arcs.take (j + 1)).all (okArc n) = true) := by
            show _ = _
            rw [HTK.out, List.all_append, HO.out, Bool.true_and, List.all_cons, List.all_nil, Bool.and_true]
            exact decide_eq_true (by show 0 ≤ lo ∧ lo ≤ hi ∧ hi ≤ 255 ∧ 0 ≤ tt ∧ tt < (n : Int); omega)
          clear c1 c2 c3 c4 c5
          go_wp2_with fail
          go_roundw
          case rel => exact ⟨j + 1, by omega, by go_num, HON, HCN, HBN⟩
          case measure => simp [intOf]; omega
        · obtain rfl : m = j := by omega
          have HAR : Hid (x.d.arcs.all (okArc n) = true) := by
            have := HO.out
            rw [List.take_of_length_le (by rw [HM.out]; exact Nat.le_refl _)] at this
            exact this
          have c2 := cell_of_row _ sp 2 _ _ (0, 0) HC.out
          have hsl := (Array.getElem?_eq_some_iff.1 HC.out).1
          simp at c2
          clear HO
          go_wp2_with fail
          go_loopw [53] (fun jv wj => ∃ j : Nat, j ≤ q ∧ jv = .int .i64 j ∧ Hid ((x.d.free.take j).all (okTo n) = true) ∧ Hid (Below w.heap.size w wj)) (fun jv _ => q - (intOf jv).toNat)
          case atStart => exact ⟨0, Nat.zero_le _, rfl, rfl, HBJ⟩
          case round =>
            clear HBJ HC c2 hsl
            obtain ⟨j, hj, rfl, HO, HBJ⟩ := hrel
            by_cases hjm : j < q
            · have HWJ := HS.out.keep (HBJ.out.mono hB) (Nat.le_refl _)
              obtain ⟨ab, aoff, hxA, hab, hac⟩ := HWJ.frees HXM.out (by rw [HQ.out]; omega)
              obtain ⟨tt, ha⟩ : ∃ a, x.d.free[j]? = some a := ⟨x.d.free[j]'(by rw [HQ.out]; exact hjm), List.getElem?_eq_getElem _⟩
              have a0 := hac j tt ha
              have habw : ab < wr.heap.size := Nat.lt_of_lt_of_le hab (Nat.le_trans hB HBJ.out.size)
              have HTK : Hid (x.d.free.take (j + 1) = x.d.free.take j ++ [tt]) := by show _ = _; rw [List.take_add_one, ha]; rfl
              have HFL : Hid (okTo n tt = false → looseB (H.map (·.d)) = false) := fun hf => HBAD.out x HXM.out (by
                have : x.d.free.all (okTo n) = false := List.all_eq_false.2 ⟨tt, List.mem_of_getElem? ha, by rw [hf]; simp⟩
                rw [this, Bool.and_false])
              rw [hxA]
              clear hac HWJ ha
              by_cases c4 : tt < 0
              · have p4 : decide (tt < 0) = true := decide_eq_true c4
                have HF := Lib.hid (HFL.out (decide_eq_false (by show ¬ (0 ≤ tt ∧ _); omega)))
                clear c4
                go_wp2_with fail
                go_ret
                exact ⟨by rw [HF.out]; rfl, HBJ.out⟩
              have p4 : decide (tt < 0) = false := decide_eq_false c4
              by_cases c5 : (n : Int) ≤ tt
              · have p5 : decide (tt ≥ (n : Int)) = true := decide_eq_true c5
                have HF := Lib.hid (HFL.out (decide_eq_false (by show ¬ (0 ≤ tt ∧ tt < (n : Int)); omega)))
                clear c4 c5
                go_wp2_with fail
                go_ret
                exact ⟨by rw [HF.out]; rfl, HBJ.out⟩
              have p5 : decide (tt ≥ (n : Int)) = false := decide_eq_false c5
              have HON : Hid ((x.d.free.take (j + 1)).all (okTo n) = true) := by
                show _ = _
                rw [HTK.out, List.all_append, HO.out, Bool.true_and, List.all_cons, List.all_nil, Bool.and_true]
                exact decide_eq_true (by show 0 ≤ tt ∧ tt < (n : Int); omega)
              clear c4 c5
              go_wp2_with fail
              go_roundw
              case rel => exact ⟨j + 1, by omega, by go_num, HON, HBJ⟩
              case measure => simp [intOf]; omega
            · obtain rfl : q = j := by omega
              have HFR : Hid (x.d.free.all (okTo n) = true) := by
                have := HO.out
                rw [List.take_of_length_le (by rw [HQ.out]; exact Nat.le_refl _)] at this
                exact this
              have HKN : Hid (∀ y ∈ H.take (k + 1), (y.d.arcs.all (okArc n) && y.d.free.all (okTo n)) = true) := fun y hy => by
                rw [List.take_add_one, HXK.out] at hy
                rcases List.mem_append.1 hy with hy | hy
                · exact HK.out y hy
                · have : y = x := by simpa using hy
                  rw [this, HAR.out, HFR.out]
                  rfl
              clear HO
              go_wp2_with fail
              go_roundw
              case rel => exact ⟨k + 1, by omega, by go_num, HKN, HBJ⟩
              case measure => simp [intOf]; omega
    · obtain rfl : n = k := by omega
      have hall : H.take n = H := List.take_of_length_le (by omega)
      rw [hall] at HK
      have HE : Hid (looseB (H.map (·.d)) = decide (0 < n)) := by
        show _ = _
        unfold looseB
        have : (H.map (·.d)).all (fun s => s.arcs.all (okArc (H.map (·.d)).length) && s.free.all (okTo (H.map (·.d)).length)) = true := by
          rw [List.all_eq_true]
          intro s hs
          obtain ⟨y, hy, rfl⟩ := List.mem_map.1 hs
          rw [List.length_map, hlen]
          exact HK.out y hy
        rw [this, Bool.and_true]
        cases hH : H with
        | nil => rw [hH] at hlen; rw [← hlen]; rfl
        | cons y r => rw [hH] at hlen; rw [← hlen]; simp
      clear hall
      have q1 : decide ((n : Int) > 0) = decide (0 < n) := decide_eq_decide.2 (by omega)
      go_wp2_with fail
      go_ret
      exact ⟨by rw [HE.out]; first | rfl | (simp; done), HB.out⟩
end Go.Proofs.YtclahhkcbkpofaaDoor
