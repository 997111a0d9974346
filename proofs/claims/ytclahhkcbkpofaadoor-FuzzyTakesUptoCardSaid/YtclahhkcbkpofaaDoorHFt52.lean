/- The word fox with an edit behind one character: how few sets are met, three texts (plain Lean). -/
import Derived.Test.YtclahhkcbkpofaaDoorHFt22
import Derived.Test.YtclahhkcbkpofaaDoorHFt20
import Derived.Test.YtclahhkcbkpofaaDoorHFt32
import Derived.Test.YtclahhkcbkpofaaDoorHFt45
import Derived.Test.YtclahhkcbkpofaaDoorHFt48
import Derived.Test.YtclahhkcbkpofaaDoorHFt1
import Derived.SizedLaws
import Derived.ChangeArms
import Derived.Test.YtclahhkcbkpofaaDoorChecked
namespace Go.Proofs.YtclahhkcbkpofaaDoor
open Sp
def foxL : List Lst := [⟨false, [], []⟩, ⟨false, [], []⟩, ⟨false, [], [5]⟩, ⟨false, [], []⟩, ⟨false, [], [7]⟩, ⟨false, [], []⟩, ⟨true, [], []⟩, ⟨true, [], []⟩]
def foxE : List Ld := [(0, 2, 102, 102), (1, 3, 102, 102), (2, 4, 111, 111), (2, 3, 0, 1114111), (2, 5, 0, 1114111), (3, 5, 111, 111), (4, 6, 120, 120), (4, 5, 0, 1114111), (4, 7, 0, 1114111), (5, 7, 120, 120), (6, 7, 0, 1114111)]
theorem fox_L : fuzL 3 1 1 ((3 + 1) * (1 + 1)) = foxL := by rfl
theorem fox_E : fuzE [102, 111, 120] 1 1 ((3 + 1) * (1 + 1)) = foxE := by decide
/-- Where one comes without a character. -/
def foxC (x y : Nat) : Bool := x == y || (x == 2 && y == 5) || (x == 4 && y == 7)
theorem fox_at {x : Nat} {s : Lst} (h : foxL[x]? = some s) : s.arcs = [] ∧ ∀ y : Nat, ((y : Nat) : Int) ∈ s.free ↔ (x = 2 ∧ y = 5) ∨ (x = 4 ∧ y = 7) := by
  have hx := (List.getElem?_eq_some_iff.1 h).1
  have hx : x < 8 := hx
  match x, hx, h with
  | 0, _, h => injection h with h; subst h; exact ⟨rfl, fun y => by simp⟩
  | 1, _, h => injection h with h; subst h; exact ⟨rfl, fun y => by simp⟩
  | 2, _, h => injection h with h; subst h; exact ⟨rfl, fun y => by simp; omega⟩
  | 3, _, h => injection h with h; subst h; exact ⟨rfl, fun y => by simp⟩
  | 4, _, h => injection h with h; subst h; exact ⟨rfl, fun y => by simp; omega⟩
  | 5, _, h => injection h with h; subst h; exact ⟨rfl, fun y => by simp⟩
  | 6, _, h => injection h with h; subst h; exact ⟨rfl, fun y => by simp⟩
  | 7, _, h => injection h with h; subst h; exact ⟨rfl, fun y => by simp⟩
def foxF (x y : Nat) : Prop := (x = 2 ∧ y = 5) ∨ (x = 4 ∧ y = 7)
theorem fox_edge (x : Nat) (t : List Nat) (y : Nat) : edgeL foxL x t y ↔ t = [] ∧ foxF x y := by
  constructor
  · rintro ⟨s, hs, h⟩
    obtain ⟨h1, h2⟩ := fox_at hs
    rcases h with ⟨h3, h4⟩ | ⟨_, _, a, h3, _⟩
    · exact ⟨h3, (h2 y).1 h4⟩
    · rw [h1] at h3; cases h3
  · rintro ⟨rfl, h⟩
    have hx : x < foxL.length := by
      show x < 8
      rcases h with ⟨rfl, _⟩ | ⟨rfl, _⟩ <;> omega
    obtain ⟨s, hs⟩ : ∃ s, foxL[x]? = some s := ⟨foxL[x], List.getElem?_eq_getElem hx⟩
    exact ⟨s, hs, .inl ⟨rfl, ((fox_at hs).2 y).2 h⟩⟩
theorem fox_clo (z y : Nat) : Way (orE (edgeL foxL) (esE foxE)) z [] y ↔ foxC z y = true := by
  have e : foxC z y = true ↔ z = y ∨ foxF z y := by
    unfold foxC foxF
    simp only [Bool.or_eq_true, Bool.and_eq_true, beq_iff_eq, or_assoc]
  rw [e]
  constructor
  · intro h
    have key : ∀ {z y : Nat} {t : List Nat}, Way (orE (edgeL foxL) (esE foxE)) z t y → t = [] → z = y ∨ foxF z y := by
      intro z y t h
      induction h with
      | nil => exact fun _ => .inl rfl
      | @cons x y z t u h1 _ ih =>
        intro ht
        obtain ⟨e1, e2⟩ := List.append_eq_nil_iff.1 ht
        rcases h1 with h1 | h1
        · obtain ⟨_, h2⟩ := (fox_edge _ _ _).1 h1
          rcases ih e2 with rfl | h3
          · exact .inr h2
          · exfalso
            unfold foxF at h2 h3
            omega
        · exact absurd e1 (seg_ne (esE_seg h1))
    exact key h rfl
  · rintro (rfl | h)
    · exact .nil _
    · exact .one (.inl ((fox_edge _ _ _).2 ⟨rfl, h⟩))
def foxS : List (List Nat) := [[], [0], [2, 5], [3, 4, 5, 7], [3, 5, 7], [3, 5], [5, 7], [5, 6, 7], [5], [7]]
def stepB (S : List Nat) (k : Nat) (y : Nat) : Bool := foxE.any fun e => S.contains e.1 && fires k e && foxC e.2.1 y
theorem fox_step : ∀ S ∈ foxS, ∀ k ∈ [102, 111, 120, 1000], ∃ T ∈ foxS, ∀ y ∈ List.range 8, T.contains y = stepB S k y := by decide
theorem fox_few : FewC foxL foxE foxC foxS [102, 111, 120, 1000] where
  ok := by
    intro e he
    show e.1 < 8 ∧ e.2.1 < 8
    have : ∀ e ∈ foxE, e.1 < 8 ∧ e.2.1 < 8 := by decide
    exact this e he
  emp := fun x t y h => ((fox_edge x t y).1 h).1
  inl := fun x t y h => by
    obtain ⟨_, h⟩ := (fox_edge x t y).1 h
    show x < 8 ∧ y < 8
    unfold foxF at h
    omega
  kind := by
    intro e he
    have : ∀ e ∈ foxE, (e.2.2.1 = 0 ∧ e.2.2.2 = 1114111) ∨ (0 ≤ e.2.2.1 ∧ e.2.2.1 < 128 ∧ e.2.2.2 = e.2.2.1) := by decide
    exact this e he
  clo := fun z y _ => fox_clo z y
  pos := by decide
  first := ⟨[0], by decide, fun y hy => by
    have hy : y < 8 := hy
    have : ∀ y ∈ List.range 8, y ∈ [0] ↔ foxC 0 y = true := by decide
    exact this y (List.mem_range.2 hy)⟩
  none := by decide
  keys := fun k => by
    have h : ∀ e ∈ foxE, e.2.2.2 = 1114111 ∨ e.2.2.1 = 102 ∨ e.2.2.1 = 111 ∨ e.2.2.1 = 120 := by decide
    by_cases h1 : k = 102
    · exact ⟨102, by decide, fun e _ => by rw [h1]⟩
    by_cases h2 : k = 111
    · exact ⟨111, by decide, fun e _ => by rw [h2]⟩
    by_cases h3 : k = 120
    · exact ⟨120, by decide, fun e _ => by rw [h3]⟩
    refine ⟨1000, by decide, fun e he => ?_⟩
    unfold fires
    rcases h e he with h | h | h | h
    · rw [h]; rfl
    all_goals
      rw [h, beq_eq_false_iff_ne.2 (show _ ≠ ((k : Nat) : Int) by omega), beq_eq_false_iff_ne.2 (show _ ≠ ((1000 : Nat) : Int) by omega)]
  step := fun S hS k hk => by
    obtain ⟨T, hT, h⟩ := fox_step S hS k hk
    refine ⟨T, hT, fun y hy => ?_⟩
    have h1 := h y (List.mem_range.2 hy)
    rw [← List.contains_iff_mem, h1]
    unfold stepB
    rw [List.any_eq_true]
    constructor
    · rintro ⟨e, he, h2⟩
      rw [Bool.and_eq_true, Bool.and_eq_true, List.contains_iff_mem] at h2
      exact ⟨e, he, h2.1.1, h2.1.2, h2.2⟩
    · rintro ⟨e, he, h2, h3, h4⟩
      refine ⟨e, he, ?_⟩
      rw [Bool.and_eq_true, Bool.and_eq_true, List.contains_iff_mem]
      exact ⟨⟨h2, h3⟩, h4⟩
theorem fox_sets (f : Nat) : ((subW (leadsL foxL foxE)).run f 0 [setL (leadsL foxL foxE).length (Clo (leadsL foxL foxE) fun x => x = 0)]).length ≤ 20000 := by
  have h1 := fox_few.few (fun S hS y hy => by
    have : ∀ S ∈ foxS, ∀ y ∈ S, y < 8 := by decide
    exact this S hS y hy) f
  have h2 : foxS.length * 601 ≤ 20000 := by decide
  exact Nat.le_trans h1 h2
/-- By characters. -/
theorem fox_takes {t : List UInt8} {l : List Int} (hd : Dec (bytesN t) l) : looseTakes (leadsL foxL foxE) t = true ↔ CW foxF foxE 0 l 6 ∨ CW foxF foxE 0 l 7 := by
  have h : looseTakes (leadsL foxL foxE) t = true ↔ ∃ z s, (leadsL foxL foxE)[z]? = some s ∧ s.fin = true ∧ Way (edgeL (leadsL foxL foxE)) 0 (bytesN t) z := takes_way
  have hw : ∀ z, z < 8 → (Way (edgeL (leadsL foxL foxE)) 0 (bytesN t) z ↔ CW foxF foxE 0 l z) := fun z hz => by
    rw [← noE_way, leads_way foxE foxL noE fox_few.ok fox_few.inl (noE_in _) (by decide) hz, orE_no, hd.2, cw_iff fox_edge hd.1]
  have hf : ∀ z, (∃ s, (leadsL foxL foxE)[z]? = some s ∧ s.fin = true) ↔ z = 6 ∨ z = 7 := fun z => by
    rw [leads_fin]
    constructor
    · rintro ⟨s, h1, h2⟩
      have hz : z < 8 := (List.getElem?_eq_some_iff.1 h1).1
      match z, hz, h1 with
      | 0, _, h1 => injection h1 with h1; subst h1; cases h2
      | 1, _, h1 => injection h1 with h1; subst h1; cases h2
      | 2, _, h1 => injection h1 with h1; subst h1; cases h2
      | 3, _, h1 => injection h1 with h1; subst h1; cases h2
      | 4, _, h1 => injection h1 with h1; subst h1; cases h2
      | 5, _, h1 => injection h1 with h1; subst h1; cases h2
      | 6, _, _ => exact .inl rfl
      | 7, _, _ => exact .inr rfl
    · rintro (rfl | rfl)
      · exact ⟨_, rfl, rfl⟩
      · exact ⟨_, rfl, rfl⟩
  rw [h]
  constructor
  · rintro ⟨z, s, h1, h2, h3⟩
    rcases (hf z).1 ⟨s, h1, h2⟩ with rfl | rfl
    · exact .inl ((hw 6 (by omega)).1 h3)
    · exact .inr ((hw 7 (by omega)).1 h3)
  · rintro (h1 | h1)
    · obtain ⟨s, h2, h3⟩ := (hf 6).2 (.inl rfl)
      exact ⟨6, s, h2, h3, (hw 6 (by omega)).2 h1⟩
    · obtain ⟨s, h2, h3⟩ := (hf 7).2 (.inr rfl)
      exact ⟨7, s, h2, h3, (hw 7 (by omega)).2 h1⟩
theorem foxE_mem {e : Ld} (h : e ∈ foxE) (c : Int) (l : List Int) {z : Nat} (h1 : e.2.2.1 ≤ c) (h2 : c ≤ e.2.2.2) (r : CW foxF foxE e.2.1 l z) : CW foxF foxE e.1 (c :: l) z := .char h h1 h2 r
theorem dec_fax : Dec (bytesN [102, 97, 120]) [102, 97, 120] := ⟨by decide, by decide⟩
theorem dec_foxy : Dec (bytesN [102, 111, 120, 121]) [102, 111, 120, 121] := ⟨by decide, by decide⟩
theorem dec_box : Dec (bytesN [98, 111, 120]) [98, 111, 120] := ⟨by decide, by decide⟩
theorem dec_word : Dec (bytesN [102, 111, 120]) [102, 111, 120] := ⟨by decide, by decide⟩
theorem fox_fax : looseTakes (leadsL foxL foxE) [102, 97, 120] = true := (fox_takes dec_fax).2 (.inr (
  foxE_mem (e := (0, 2, 102, 102)) (by decide) 102 _ (by decide) (by decide) (foxE_mem (e := (2, 5, 0, 1114111)) (by decide) 97 _ (by decide) (by decide) (foxE_mem (e := (5, 7, 120, 120)) (by decide) 120 _ (by decide) (by decide) (.nil 7)))))
theorem fox_foxy : looseTakes (leadsL foxL foxE) [102, 111, 120, 121] = true := (fox_takes dec_foxy).2 (.inr (
  foxE_mem (e := (0, 2, 102, 102)) (by decide) 102 _ (by decide) (by decide) (foxE_mem (e := (2, 4, 111, 111)) (by decide) 111 _ (by decide) (by decide) (foxE_mem (e := (4, 6, 120, 120)) (by decide) 120 _ (by decide) (by decide) (foxE_mem (e := (6, 7, 0, 1114111)) (by decide) 121 _ (by decide) (by decide) (.nil 7))))))
theorem fox_box : looseTakes (leadsL foxL foxE) [98, 111, 120] = false := by
  have key : ∀ {x z : Nat} {l : List Int}, CW foxF foxE x l z → x = 0 → ∀ c r, l = c :: r → c = 102 := by
    intro x z l h
    cases h with
    | nil => intro _ c r h; cases h
    | free h _ =>
      intro hx
      unfold foxF at h
      omega
    | @char z e d l he h1 h2 _ =>
      intro hx c r h
      injection h with h _
      subst h
      have : ∀ e ∈ foxE, e.1 = 0 → e.2.2.1 = 102 ∧ e.2.2.2 = 102 := by decide
      have := this e he hx
      omega
  cases hb : looseTakes (leadsL foxL foxE) [98, 111, 120]
  · rfl
  · rcases (fox_takes dec_box).1 hb with h | h
    · exact absurd (key h rfl _ _ rfl) (by decide)
    · exact absurd (key h rfl _ _ rfl) (by decide)
end Go.Proofs.YtclahhkcbkpofaaDoor
/- Chapter 11's awake. -/
namespace Go.Proofs.YtclahhkcbkpofaaDoor
open Go.RowKit
open Sp
set_option linter.unusedVariables false
theorem fox_fuzA : fuzA [102, 111, 120] 1 1 = leadsL foxL foxE := by
  show leadsL (fuzL 3 1 1 ((3 + 1) * (1 + 1))) (fuzE [102, 111, 120] 1 1 ((3 + 1) * (1 + 1))) = _
  rw [fox_L, fox_E]
theorem fox_lets : letsE (([102, 111, 120] : List Int).map foldI) [] = 0 := by decide
theorem fox_fold : ([102, 111, 120] : List Int).map foldI = [102, 111, 120] := by decide
theorem lev_12_2 : lev [1, 2] [2] = 1 := by simp [lev_cons, lev_nil, lev_nil2]
set_option maxRecDepth 100000 in
set_option maxHeartbeats 8000000 in
theorem fawake_any (w : World) (hT : Tab w) : Calls Tryd.prog 21 #[] w fun e w' => e = .returned (.bool true) ∧ Below w.heap.size w w' := by
  have HW := Lib.hid (fuzzy_any w [102, 111, 120] (by simp) hT [102, 111, 120] dec_word fox_lets [102, 111, 120] fox_fold 1 1 (by omega) (by simp) (fun g => by rw [fox_fuzA]; exact fox_sets g))
  clear hT
  go_enter Tryd.func21, Tryd.ntmps21
  go_wp2_with fail
  refine HW.out.mono ?_
  rintro e w1 ⟨hb1, A, c, hs, rfl, hst, _, _, hmq⟩
  have HB1 := Lib.hid hb1
  have HS1 := Lib.hid hst
  have HT1 := Lib.hid ((hmq [102, 97, 120]).trans ((congrArg (fun l => looseTakes l _) fox_fuzA).trans fox_fax))
  have HT2 := Lib.hid ((hmq [102, 111, 120, 121]).trans ((congrArg (fun l => looseTakes l _) fox_fuzA).trans fox_foxy))
  have HT3 := Lib.hid ((hmq [98, 111, 120]).trans ((congrArg (fun l => looseTakes l _) fox_fuzA).trans fox_box))
  clear hb1 hst hmq HW
  obtain ⟨nx, hnx⟩ : ∃ k, hs.length = k := ⟨_, rfl⟩
  rw [hnx] at HS1 ⊢
  clear hnx
  go_wp2_with fail
  refine (accepts_any w1 w1.heap.size (Nat.le_refl _) A nx c hs HS1.out [102, 97, 120] (by simp)).mono ?_
  rintro e w2 ⟨rfl, hb2⟩
  rw [HT1.out]
  have HS2 := Lib.hid (HS1.out.keep hb2 (Nat.le_refl _))
  have HB2 := Lib.hid (bcall HB1.out hb2)
  have hs2 := hb2.size
  clear hb2
  go_wp2_with fail
  refine (accepts_any w2 w1.heap.size hs2 A nx c hs HS2.out [102, 111, 120, 121] (by simp)).mono ?_
  rintro e w3 ⟨rfl, hb3⟩
  rw [HT2.out]
  have HS3 := Lib.hid (HS2.out.keep (hb3.mono hs2) (Nat.le_refl _))
  have HB3 := Lib.hid (bcall HB2.out hb3)
  have hs3 := hb3.size
  clear hb3
  go_wp2_with fail
  refine (accepts_any w3 w1.heap.size (by omega) A nx c hs HS3.out [98, 111, 120] (by simp)).mono ?_
  rintro e w4 ⟨rfl, hb4⟩
  rw [HT3.out]
  have HB4 := Lib.hid (bcall HB3.out hb4)
  clear hb4
  go_wp2_with fail
  have hl1 := Sl.of_own (own_new w4 #[.int .i64 1, .int .i64 2] 3 1 2 rfl (by unfold maxLen; omega) (nb := w4.heap.size) rfl (base := w4.heap.size) (Nat.le_refl _))
  obtain ⟨w5, hw5⟩ : ∃ W, w4.alloc (.cells #[.int .i64 1, .int .i64 2] 3) = W := ⟨_, rfl⟩
  have hz5 : w4.heap.size + 1 = w5.heap.size := by rw [← hw5]; simp
  have hb5 : Below w4.heap.size w4 w5 := by rw [← hw5]; exact bnew (brefl w4) _
  rw [hw5] at hl1 ⊢
  rw [hz5]
  have hl2 := Sl.of_own (own_new w5 #[.int .i64 2] 3 1 1 rfl (by unfold maxLen; omega) (nb := w5.heap.size) rfl (base := w5.heap.size) (Nat.le_refl _))
  have hb6 : Below w5.heap.size w5 (w5.alloc (.cells #[.int .i64 2] 3)) := bnew (brefl w5) _
  refine (distance_any (w5.alloc (.cells #[.int .i64 2] 3)) _ (Nat.le_refl _) _ _ 2 1 2 1 [1, 2] [2] ((hl1.below hb6).more hb6.size) hl2 (by omega) (by omega)).mono ?_
  rintro e w7 ⟨rfl, hb7⟩
  rw [lev_12_2]
  have HB7 := Lib.hid (bcall (bcall (bcall HB4.out hb5) hb6) hb7)
  clear hl1 hl2 hb5 hb6 hb7 hz5 hw5
  go_wp2_with fail
  go_ret
  exact ⟨rfl, HB7.out⟩
end Go.Proofs.YtclahhkcbkpofaaDoor
/- Arguments of any depth (numbers, bools, strings, structs, slices): what a value reads as, once for all types. -/
namespace Go.Proofs.YtclahhkcbkpofaaDoor
open Go.RowKit Go.ChangeShapes Go.WideShapes Go.Deep
/-- A shape: a number, a bool, a string, a slice (its element's shape and bytes), a struct as a list of fields. -/
inductive Ty where
  | int (k : IntKind)
  | bool
  | str
  | slice (e : Ty) (bytes : Nat)
  | nil
  | cons (f r : Ty)
def Ty.size : Ty → Nat
  | .nil => 0
  | .cons f r => f.size + r.size
  | _ => 1
structure SlH where
  A : Option Addr
  n : Nat
  c : Nat
def Ty.den : Ty → Type
  | .int _ => Int
  | .bool => Bool
  | .str => ByteArray
  | .slice e _ => SlH × (Nat → e.den)
  | .nil => Unit
  | .cons f r => f.den × r.den
theorem Ty.inh : (t : Ty) → Nonempty t.den
  | .int _ => ⟨(0 : Int)⟩
  | .bool => ⟨false⟩
  | .str => ⟨ByteArray.empty⟩
  | .slice e _ => by
    obtain ⟨x⟩ := Ty.inh e
    exact ⟨(⟨none, 0, 0⟩, fun _ => x)⟩
  | .nil => ⟨()⟩
  | .cons f r => by
    obtain ⟨x⟩ := Ty.inh f
    obtain ⟨y⟩ := Ty.inh r
    exact ⟨(x, y)⟩
def SlH.ok (s : SlH) (bytes : Nat) : Prop := s.n ≤ s.c ∧ s.c ≤ maxLen ∧ s.n * bytes ≤ reachBytes ∧ (s.A = none → s.c = 0)
/-- The cells cs read as d. -/
def Reads (w : World) (B : Nat) : (t : Ty) → t.den → List Value → Prop
  | .int k, d, cs => ∃ z : Int, d = z ∧ cs = [.int k z] ∧ (Lit.int k z).wf = true
  | .bool, d, cs => ∃ b : Bool, d = b ∧ cs = [.bool b]
  | .str, d, cs => ∃ s : ByteArray, d = s ∧ cs = [.string s] ∧ s.size ≤ maxLen ∧ s.size ≤ reachBytes
  | .slice e bytes, d, cs => cs = [.slice d.1.A d.1.n d.1.c] ∧ d.1.ok bytes ∧ (0 < d.1.n → ∃ b off, d.1.A = some ⟨b, off, none⟩ ∧ b < B ∧
      ∀ i, i < d.1.n → ∃ cl : List Value, cl.length = e.size ∧ (∀ j u, cl[j]? = some u → w.cell? ⟨b, off + (i * e.size + j), none⟩ = some u) ∧ Reads w B e (d.2 i) cl)
  | .nil, _, cs => cs = []
  | .cons f r, d, cs => ∃ c1 c2, cs = c1 ++ c2 ∧ c1.length = f.size ∧ Reads w B f d.1 c1 ∧ Reads w B r d.2 c2

theorem Reads.keep {w w' : World} {B B' : Nat} (hB : B ≤ B') (hk : ∀ b o, b < B → w'.cell? ⟨b, o, none⟩ = w.cell? ⟨b, o, none⟩) : ∀ {t : Ty} {d : t.den} {cs : List Value}, Reads w B t d cs → Reads w' B' t d cs
  | .int _, _, _, h => h
  | .bool, _, _, h => h
  | .str, _, _, h => h
  | .slice e bytes, d, cs, h => by
    obtain ⟨h1, h2, h3⟩ := h
    refine ⟨h1, h2, fun hn => ?_⟩
    obtain ⟨b, off, hA, hb, hi⟩ := h3 hn
    refine ⟨b, off, hA, by omega, fun i hin => ?_⟩
    obtain ⟨cl, hl, hc, hr⟩ := hi i hin
    exact ⟨cl, hl, fun j u hu => (hk _ _ hb).trans (hc j u hu), Reads.keep hB hk hr⟩
  | .nil, _, _, h => h
  | .cons f r, d, cs, h => by
    obtain ⟨c1, c2, h1, h2, h3, h4⟩ := h
    exact ⟨c1, c2, h1, h2, Reads.keep hB hk h3, Reads.keep hB hk h4⟩
theorem Reads.below {w w' : World} {t : Ty} {d : t.den} {cs : List Value} (h : Reads w w.heap.size t d cs) (hb : Below w.heap.size w w') : Reads w' w'.heap.size t d cs :=
  h.keep hb.size fun b o hl => hb.cell (p := ⟨b, o, none⟩) hl
theorem Reads.len {w : World} {B : Nat} : ∀ {t : Ty} {d : t.den} {cs : List Value}, Reads w B t d cs → cs.length = t.size
  | .int _, _, _, ⟨_, _, h, _⟩ => by rw [h]; rfl
  | .bool, _, _, ⟨_, _, h⟩ => by rw [h]; rfl
  | .str, _, _, ⟨_, _, h, _⟩ => by rw [h]; rfl
  | .slice _ _, _, _, ⟨h, _⟩ => by rw [h]; rfl
  | .nil, _, _, h => by rw [show _ = [] from h]; rfl
  | .cons f r, d, cs, ⟨c1, c2, h, hl, _, h2⟩ => by
    have := Reads.len h2
    rw [h, List.length_append, hl, this]
    rfl

/-- The cells of what is read. -/
def Ty.cells : (t : Ty) → t.den → List Value
  | .int k, d => [.int k d]
  | .bool, d => [.bool d]
  | .str, d => [.string d]
  | .slice _ _, d => [.slice d.1.A d.1.n d.1.c]
  | .nil, _ => []
  | .cons f r, d => f.cells d.1 ++ r.cells d.2
theorem Reads.cells {w : World} {B : Nat} : ∀ {t : Ty} {d : t.den} {cs : List Value}, Reads w B t d cs → cs = t.cells d
  | .int _, _, _, ⟨_, h, e, _⟩ => by rw [e, h]; rfl
  | .bool, _, _, ⟨_, h, e⟩ => by rw [e, h]; rfl
  | .str, _, _, ⟨_, h, e, _⟩ => by rw [e, h]; rfl
  | .slice _ _, _, _, ⟨h, _⟩ => h
  | .nil, _, _, h => h
  | .cons f r, d, cs, ⟨c1, c2, h, _, h1, h2⟩ => by rw [h, Reads.cells h1, Reads.cells h2]; rfl
theorem Reads.sl {w : World} {B bytes : Nat} {e : Ty} {A : Option Addr} {n c : Nat} {x : Nat → e.den} {cs : List Value} (h : Reads w B (.slice e bytes) (⟨A, n, c⟩, x) cs) (hl : ∀ d : e.den, (e.cells d).length = e.size) :
    Sl w B e.size A n ((List.range n).flatMap fun i => e.cells (x i)) := by
  obtain ⟨_, _, h3⟩ := h
  refine ⟨by rw [flat_length _ e.size (fun i => hl (x i)), List.length_range], fun hn => ?_⟩
  obtain ⟨b, off, hA, hb, hi⟩ := h3 hn
  refine ⟨b, off, hA, hb, fun j u hu => ?_⟩
  have hjl : j < n * e.size := by
    have := (List.getElem?_eq_some_iff.1 hu).1
    rw [flat_length _ e.size (fun i => hl (x i)), List.length_range] at this
    exact this
  have hs : 0 < e.size := by
    rcases Nat.eq_zero_or_pos e.size with h0 | h0
    · rw [h0, Nat.mul_zero] at hjl; omega
    · exact h0
  have hq : j / e.size < n := Nat.div_lt_of_lt_mul (by rw [Nat.mul_comm]; exact hjl)
  have hr : j % e.size < e.size := Nat.mod_lt _ hs
  have hj : j / e.size * e.size + j % e.size = j := by rw [Nat.mul_comm]; exact Nat.div_add_mod j e.size
  obtain ⟨cl, _, hc, hrd⟩ := hi (j / e.size) hq
  rw [← hj] at hu ⊢
  rw [flat_at _ e.size (fun i => hl (x i)) (List.range n) (j / e.size) (j % e.size) (j / e.size) (by simp [hq]) hr] at hu
  refine hc (j % e.size) u ?_
  rw [hrd.cells]
  exact hu
theorem Reads.elem {w : World} {B bytes : Nat} {e : Ty} {A : Option Addr} {n c : Nat} {x : Nat → e.den} {cs : List Value} (h : Reads w B (.slice e bytes) (⟨A, n, c⟩, x) cs) {i : Nat} (hi : i < n) : ∃ cl, Reads w B e (x i) cl := by
  obtain ⟨_, _, h3⟩ := h
  obtain ⟨_, _, _, _, hh⟩ := h3 (show 0 < n by omega)
  obtain ⟨cl, _, _, hr⟩ := hh i hi
  exact ⟨cl, hr⟩

def tyFields (P : Program) (g : TypeId → Option Ty) : List Field → Nat → Option Ty
  | [], _ => some .nil
  | f :: fs, o => if f.offset = o then
      match g f.type with
      | some τ => if P.cellsOf f.type = τ.size then (tyFields P g fs (o + τ.size)).map (.cons τ) else none
      | none => none
    else none
def tyOf (P : Program) : Nat → TypeId → Option Ty
  | 0, _ => none
  | k + 1, t => match P.underlying t with
    | some (.int k) => some (.int k)
    | some .bool => some .bool
    | some .string => some .str
    | some (.slice e) => match tyOf P k e with
      | some τ => if P.cellsOf e = τ.size ∧ 0 < τ.size then some (.slice τ (P.bytesOf e)) else none
      | none => none
    | some (.struct fs) => match tyFields P (tyOf P k) fs.toList 0 with
      | some τ => if P.cellsOf t = τ.size then some τ else none
      | none => none
    | _ => none

section
variable {H : Type} {enc : TypeId × Value → H} {P : Program} {w : World} {base : Nat} {spare : Nat → Bool} {held : Bool}
def Small (P : Program) (t : TypeId) (d : DataW H) : Prop := ∀ n ∈ d.weights P t, n ≤ reachBytes
theorem weights_mem_all {e : TypeId} : ∀ {ds : List (DataW H)} {d : DataW H}, d ∈ ds → ∀ n ∈ d.weights P e, n ∈ DataW.weightsAll P e ds
  | x :: ds, d, hd, n, hn => by
    rw [DataW.weightsAll, List.mem_append]
    rcases List.mem_cons.1 hd with rfl | h
    · exact .inl hn
    · exact .inr (weights_mem_all h n hn)
theorem small_of {ts : List TypeId} {ds : List (DataW H)} (h : (DataW.weightsEach P ts ds).all (· ≤ reachBytes) = true) {j : Nat} {t : TypeId} {d : DataW H} (ht : ts[j]? = some t) (hd : ds[j]? = some d) : Small P t d :=
  fun n hn => by simpa using List.all_eq_true.1 h n (DataW.weights_mem_each ht hd n hn)
end
end Go.Proofs.YtclahhkcbkpofaaDoor
/- Arguments of texts. -/
namespace Go.Proofs.YtclahhkcbkpofaaDoor
open Go.RowKit Go.Maps
theorem ty_texts : tyOf Tryd.prog 8 45 = some (.slice .str 16) := by kernel_rfl
/-- An argument of texts. -/
structure TextsIn (w : World) (A : Option Addr) (n c : Nat) (x : Nat → ByteArray) : Prop where
  nc : n ≤ c
  cm : c ≤ maxLen
  rb : n * 16 ≤ reachBytes
  sl : Sl w w.heap.size 1 A n ((List.range n).map fun i => .string (x i))
  sz : ∀ i, i < n → (x i).size ≤ reachBytes
theorem texts_in {w : World} {A : Option Addr} {n c : Nat} {x : Nat → Ty.str.den} {cs : List Value} (h : Reads w w.heap.size (.slice .str 16) (⟨A, n, c⟩, x) cs) : TextsIn w A n c x := by
  have hs := h.sl (e := .str) (fun d => rfl)
  refine ⟨h.2.1.1, h.2.1.2.1, h.2.1.2.2.1, ?_, fun i hi => ?_⟩
  · have e : ((List.range n).flatMap fun i => Ty.cells .str (x i)) = (List.range n).map fun i => .string (x i) := by
      rw [List.map_eq_flatMap]
      rfl
    rw [← e]
    exact hs
  · obtain ⟨cl, z, hz, _, h1, h2⟩ := h.elem hi
    have hz' : (x i : ByteArray) = z := hz
    rw [hz']
    exact h2
/-- One of the texts. -/
theorem TextsIn.get {w W : World} {A : Option Addr} {n c : Nat} {x : Nat → ByteArray} (h : TextsIn w A n c x) (hb : Below w.heap.size w W) {i : Nat} (hi : i < n) : ∃ b off t, A = some ⟨b, off, none⟩ ∧ b < W.heap.size ∧ x i = ⟨(t : List UInt8).toArray⟩ ∧ t.length ≤ 1125899906842624 ∧ W.cell? ⟨b, off + i, none⟩ = some (.string ⟨t.toArray⟩) := by
  obtain ⟨b, off, hA, hb0, hcell⟩ := h.sl.at_ hi
  have hc0 := hcell i (.string (x i)) (by rw [List.getElem?_map, List.getElem?_range hi]; rfl)
  have ht : x i = ⟨(x i).data.toList.toArray⟩ := by cases x i; simp
  refine ⟨b, off, (x i).data.toList, hA, Nat.lt_of_lt_of_le hb0 hb.size, ht, ?_, ?_⟩
  · have h1 := h.sz i hi
    have h2 : (x i).data.toList.length = (x i).size := rfl
    rw [h2]
    unfold reachBytes at h1
    omega
  · rw [← ht]
    exact (hb.cell (p := ⟨b, off + i, none⟩) hb0).trans hc0
end Go.Proofs.YtclahhkcbkpofaaDoor
