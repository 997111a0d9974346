/- utf.first in one contract. -/
import Derived.Test.YtclahhkcbkpofaaDoorHFz33
import Derived.Test.YtclahhkcbkpofaaDoorHFz34
import Derived.Test.YtclahhkcbkpofaaDoorHFz15
import Derived.Test.YtclahhkcbkpofaaDoorHFz5
import Derived.Test.YtclahhkcbkpofaaDoorHFz1
namespace Go.Proofs.YtclahhkcbkpofaaDoor
open Go.RowKit
open Sp
set_option linter.unusedVariables false
/-- What first answers. -/
def FirstP (t : List UInt8) (e : Ending) : Prop := (∃ (c : Int) (n : Nat), e = .returned (.tuple #[.int .i64 c, .int .i64 (n : Int)]) ∧ 0 < n ∧ n ≤ 4 ∧ n ≤ t.length ∧ wholeB c = true ∧ bytesN (t.take n) = encN c) ∨ (e = .returned (.tuple #[.int .i64 0, .int .i64 0]) ∧ ∀ c, ¬ Fst1 (bytesN t) c)
theorem FirstP.yes {t : List UInt8} {e : Ending} {c : Int} {n : Nat} (he : e = .returned (.tuple #[.int .i64 c, .int .i64 (n : Int)])) (h0 : 0 < n) (h4 : n ≤ 4) (hn : n ≤ t.length) (hw : wholeB c = true) (h : bytesN (t.take n) = encN c) : FirstP t e := .inl ⟨c, n, he, h0, h4, hn, hw, h⟩
theorem bytesN_cons (a : UInt8) (r : List UInt8) : bytesN (a :: r) = a.toNat :: bytesN r := rfl
theorem FirstP.no {t : List UInt8} {e : Ending} (he : e = .returned (.tuple #[.int .i64 0, .int .i64 0])) (h : ∀ c, wholeB c = true → ∀ r, bytesN t = encN c ++ r → False) : FirstP t e := .inr ⟨he, fun c h1 => h1.2.elim fun r h2 => h c h1.1 r h2⟩
/-- No character begins so: by its head. -/
theorem no_first {t : List UInt8} (h1 : ∀ c : Int, 0 ≤ c → c < 128 → ∀ r, bytesN t = c.toNat :: r → False)
    (h2 : ∀ (a b : Nat) r, 192 ≤ a → a < 224 → 128 ≤ b → b ≤ 191 → 128 ≤ ((a : Int) - 192) * 64 + (b - 128) → bytesN t = a :: b :: r → False)
    (h3 : ∀ (a b d : Nat) r, 224 ≤ a → a < 240 → 128 ≤ b → b ≤ 191 → 128 ≤ d → d ≤ 191 → 2048 ≤ (((a : Int) - 224) * 64 + (b - 128)) * 64 + (d - 128) → wholeB ((((a : Int) - 224) * 64 + (b - 128)) * 64 + (d - 128)) = true → bytesN t = a :: b :: d :: r → False)
    (h4 : ∀ (a b d e : Nat) r, 240 ≤ a → a < 248 → 128 ≤ b → b ≤ 191 → 128 ≤ d → d ≤ 191 → 128 ≤ e → e ≤ 191 → 65536 ≤ ((((a : Int) - 240) * 64 + (b - 128)) * 64 + (d - 128)) * 64 + (e - 128) → wholeB (((((a : Int) - 240) * 64 + (b - 128)) * 64 + (d - 128)) * 64 + (e - 128)) = true → bytesN t = a :: b :: d :: e :: r → False) :
    ∀ c, ¬ Fst1 (bytesN t) c := by
  rintro c ⟨hw, r, h⟩
  have hw2 := hw
  rcases enc_head hw with ⟨k0, k1, e⟩ | ⟨k0, _, a, b, e, k1, k2, k3, k4, rfl⟩ | ⟨k0, _, a, b, d, e, k1, k2, k3, k4, k5, k6, rfl⟩ | ⟨k0, _, a, b, d, f, e, k1, k2, k3, k4, k5, k6, k7, k8, rfl⟩ <;> rw [e] at h
  · exact h1 c k0 k1 r h
  · exact h2 a b r k1 k2 k3 k4 k0 h
  · exact h3 a b d r k1 k2 k3 k4 k5 k6 k0 hw2 h
  · exact h4 a b d f r k1 k2 k3 k4 k5 k6 k7 k8 k0 hw2 h
theorem first_any (w : World) (t : List UInt8) (ht : t ≠ []) : Calls Tryd.prog 77 #[.string ⟨t.toArray⟩] w fun e w' => FirstP t e ∧ w' = w := by
  have bad : ∀ {t : List UInt8}, (Calls Tryd.prog 77 #[.string ⟨t.toArray⟩] w fun e w' => e = .returned (.tuple #[.int .i64 0, .int .i64 0]) ∧ w' = w) → (∀ c, ¬ Fst1 (bytesN t) c) → Calls Tryd.prog 77 #[.string ⟨t.toArray⟩] w fun e w' => FirstP t e ∧ w' = w := fun h1 h2 => h1.mono fun e w' ⟨h3, h4⟩ => ⟨.inr ⟨h3, h2⟩, h4⟩
  have yes : ∀ {t : List UInt8} {c : Int} {n : Nat} {N : Int}, N = (n : Int) → (Calls Tryd.prog 77 #[.string ⟨t.toArray⟩] w fun e w' => e = .returned (.tuple #[.int .i64 c, .int .i64 N]) ∧ w' = w) → 0 < n → n ≤ 4 → n ≤ t.length → wholeB c = true → bytesN (t.take n) = encN c → Calls Tryd.prog 77 #[.string ⟨t.toArray⟩] w fun e w' => FirstP t e ∧ w' = w := fun hN h1 h2 h3 h4 h5 h6 => h1.mono fun e w' ⟨h7, h8⟩ => ⟨.inl ⟨_, _, by rw [h7, hN], h2, h3, h4, h5, h6⟩, h8⟩
  match t, ht with
  | a :: r, _ =>
    obtain ⟨A, hA⟩ : ∃ A : Int, (a.toNat : Int) = A := ⟨_, rfl⟩
    have hlt := a.toNat_lt
    by_cases c1 : A < 128
    · refine yes (n := 1) rfl (first_1 w a r A hA c1) (by omega) (by omega) (by simp) (wholeB_yes (by omega)) ?_
      rw [← hA, enc_one (by omega)]
      rfl
    by_cases c2 : A < 192
    · refine bad (first_mid w a r A hA (by omega) c2) (no_first ?_ ?_ ?_ ?_) <;> intros <;> rename_i h <;> (rw [bytesN_cons] at h; injection h with h _; omega)
    by_cases c3 : 248 ≤ A
    · refine bad (first_big w a r A hA c3) (no_first ?_ ?_ ?_ ?_) <;> intros <;> rename_i h <;> (rw [bytesN_cons] at h; injection h with h _; omega)
    by_cases c4 : A < 224
    · match r with
      | [] => refine bad (first_2_short1 w a A hA (by omega) c4) (no_first ?_ ?_ ?_ ?_) <;> intros <;> rename_i h <;> (simp only [bytesN_cons, List.cons.injEq] at h; first | omega | (obtain ⟨_, h⟩ := h; cases h))
      | b :: r =>
        obtain ⟨B, hB⟩ : ∃ B : Int, (b.toNat : Int) = B := ⟨_, rfl⟩
        by_cases g : 128 ≤ B ∧ B ≤ 191
        · obtain ⟨C, hC⟩ : ∃ C, ((A - 192) * 64 + (B - 128)) = C := ⟨_, rfl⟩
          by_cases l : C < 128
          · refine bad (first_2_low w a b r A B hA hB (by omega) c4 g C hC l) (no_first ?_ ?_ ?_ ?_) <;> intros <;> rename_i h <;> (simp only [bytesN_cons, List.cons.injEq] at h; omega)
          · have hw : wholeB C = true := wholeB_yes (by omega)
            refine yes (n := 2) rfl (first_2_ok w a b r A B hA hB (by omega) c4 g C hC (by omega) hw) (by omega) (by omega) (by simp) hw ?_
            rw [← hC, ← hA, ← hB, enc_two (by omega) (by omega) (by omega) (by omega) (by omega)]
            rfl
        · refine bad (first_2_bad1 w a b r A B hA hB (by omega) c4 g) (no_first ?_ ?_ ?_ ?_) <;> intros <;> rename_i h <;> (simp only [bytesN_cons, List.cons.injEq] at h; omega)
    by_cases c5 : A < 240
    · match r with
      | [] => refine bad (first_3_short1 w a A hA (by omega) c5) (no_first ?_ ?_ ?_ ?_) <;> intros <;> rename_i h <;> (simp only [bytesN_cons, List.cons.injEq] at h; first | omega | (obtain ⟨_, h⟩ := h; cases h))
      | [b] => refine bad (first_3_short2 w a b A _ hA rfl (by omega) c5) (no_first ?_ ?_ ?_ ?_) <;> intros <;> rename_i h <;> (simp only [bytesN_cons, List.cons.injEq] at h; first | omega | (obtain ⟨_, _, h⟩ := h; cases h))
      | b :: d :: r =>
        obtain ⟨B, hB⟩ : ∃ B : Int, (b.toNat : Int) = B := ⟨_, rfl⟩
        obtain ⟨D, hD⟩ : ∃ B : Int, (d.toNat : Int) = B := ⟨_, rfl⟩
        by_cases g : 128 ≤ B ∧ B ≤ 191
        · by_cases g2 : 128 ≤ D ∧ D ≤ 191
          · obtain ⟨C, hC⟩ : ∃ C, (((A - 224) * 64 + (B - 128)) * 64 + (D - 128)) = C := ⟨_, rfl⟩
            by_cases l : C < 2048
            · refine bad (first_3_low w a b d r A B D hA hB hD (by omega) c5 g g2 C hC l) (no_first ?_ ?_ ?_ ?_) <;> intros <;> rename_i h <;> (simp only [bytesN_cons, List.cons.injEq] at h; omega)
            · cases hw : wholeB C
              · refine bad (first_3_half w a b d r A B D hA hB hD (by omega) c5 g g2 C hC (by omega) hw) (no_first ?_ ?_ ?_ ?_)
                · intros; rename_i h; simp only [bytesN_cons, List.cons.injEq] at h; omega
                · intros; rename_i h; simp only [bytesN_cons, List.cons.injEq] at h; omega
                · intro a' b' d' r' _ _ _ _ _ _ _ hw' h
                  simp only [bytesN_cons, List.cons.injEq] at h
                  have e : (((a' : Int) - 224) * 64 + (b' - 128)) * 64 + (d' - 128) = C := by omega
                  rw [e, hw] at hw'
                  cases hw'
                · intros; rename_i h; simp only [bytesN_cons, List.cons.injEq] at h; omega
              · refine yes (n := 3) rfl (first_3_ok w a b d r A B D hA hB hD (by omega) c5 g g2 C hC (by omega) hw) (by omega) (by omega) (by simp) hw ?_
                rw [← hC, ← hA, ← hB, ← hD, enc_three (by omega) (by omega) (by omega) (by omega) (by omega) (by omega) (by omega)]
                rfl
          · refine bad (first_3_bad2 w a b d r A B D hA hB hD (by omega) c5 g g2) (no_first ?_ ?_ ?_ ?_) <;> intros <;> rename_i h <;> (simp only [bytesN_cons, List.cons.injEq] at h; omega)
        · refine bad (first_3_bad1 w a b d r A B D hA hB hD (by omega) c5 g) (no_first ?_ ?_ ?_ ?_) <;> intros <;> rename_i h <;> (simp only [bytesN_cons, List.cons.injEq] at h; omega)
    · match r with
      | [] => refine bad (first_4_short1 w a A hA (by omega) (by omega)) (no_first ?_ ?_ ?_ ?_) <;> intros <;> rename_i h <;> (simp only [bytesN_cons, List.cons.injEq] at h; first | omega | (obtain ⟨_, h⟩ := h; cases h))
      | [b] => refine bad (first_4_short2 w a b A _ hA rfl (by omega) (by omega)) (no_first ?_ ?_ ?_ ?_) <;> intros <;> rename_i h <;> (simp only [bytesN_cons, List.cons.injEq] at h; first | omega | (obtain ⟨_, _, h⟩ := h; cases h))
      | [b, d] => refine bad (first_4_short3 w a b d A _ _ hA rfl rfl (by omega) (by omega)) (no_first ?_ ?_ ?_ ?_) <;> intros <;> rename_i h <;> (simp only [bytesN_cons, List.cons.injEq] at h; first | omega | (obtain ⟨_, _, _, h⟩ := h; cases h))
      | b :: d :: f :: r =>
        obtain ⟨B, hB⟩ : ∃ B : Int, (b.toNat : Int) = B := ⟨_, rfl⟩
        obtain ⟨D, hD⟩ : ∃ B : Int, (d.toNat : Int) = B := ⟨_, rfl⟩
        obtain ⟨F, hF⟩ : ∃ B : Int, (f.toNat : Int) = B := ⟨_, rfl⟩
        by_cases g : 128 ≤ B ∧ B ≤ 191
        · by_cases g2 : 128 ≤ D ∧ D ≤ 191
          · by_cases g3 : 128 ≤ F ∧ F ≤ 191
            · obtain ⟨C, hC⟩ : ∃ C, ((((A - 240) * 64 + (B - 128)) * 64 + (D - 128)) * 64 + (F - 128)) = C := ⟨_, rfl⟩
              by_cases l : C < 65536
              · refine bad (first_4_low w a b d f r A B D F hA hB hD hF (by omega) (by omega) g g2 g3 C hC l) (no_first ?_ ?_ ?_ ?_) <;> intros <;> rename_i h <;> (simp only [bytesN_cons, List.cons.injEq] at h; omega)
              · cases hw : wholeB C
                · refine bad (first_4_half w a b d f r A B D F hA hB hD hF (by omega) (by omega) g g2 g3 C hC (by omega) hw) (no_first ?_ ?_ ?_ ?_)
                  · intros; rename_i h; simp only [bytesN_cons, List.cons.injEq] at h; omega
                  · intros; rename_i h; simp only [bytesN_cons, List.cons.injEq] at h; omega
                  · intros; rename_i h; simp only [bytesN_cons, List.cons.injEq] at h; omega
                  · intro a' b' d' e' r' _ _ _ _ _ _ _ _ _ hw' h
                    simp only [bytesN_cons, List.cons.injEq] at h
                    have e : ((((a' : Int) - 240) * 64 + (b' - 128)) * 64 + (d' - 128)) * 64 + (e' - 128) = C := by omega
                    rw [e, hw] at hw'
                    cases hw'
                · refine yes (n := 4) rfl (first_4_ok w a b d f r A B D F hA hB hD hF (by omega) (by omega) g g2 g3 C hC (by omega) hw) (by omega) (by omega) (by simp) hw ?_
                  rw [← hC, ← hA, ← hB, ← hD, ← hF, enc_four (by omega) (by omega) (by omega) (by omega) (by omega) (by omega) (by omega) (by omega) (by omega)]
                  rfl
            · refine bad (first_4_bad3 w a b d f r A B D F hA hB hD hF (by omega) (by omega) g g2 g3) (no_first ?_ ?_ ?_ ?_) <;> intros <;> rename_i h <;> (simp only [bytesN_cons, List.cons.injEq] at h; omega)
          · refine bad (first_4_bad2 w a b d f r A B D F hA hB hD hF (by omega) (by omega) g g2) (no_first ?_ ?_ ?_ ?_) <;> intros <;> rename_i h <;> (simp only [bytesN_cons, List.cons.injEq] at h; omega)
        · refine bad (first_4_bad1 w a b d f r A B D F hA hB hD hF (by omega) (by omega) g) (no_first ?_ ?_ ?_ ?_) <;> intros <;> rename_i h <;> (simp only [bytesN_cons, List.cons.injEq] at h; omega)
end Go.Proofs.YtclahhkcbkpofaaDoor
/- utf.Decode. -/
namespace Go.Proofs.YtclahhkcbkpofaaDoor
open Go.RowKit
open Sp
set_option linter.unusedVariables false
/-- What Decode answers: the characters, or the refusal. -/
def DecP (w : World) (t : List UInt8) : Ending → World → Prop := fun e w' => Below w.heap.size w w' ∧ ((∃ v l, e = .returned (.tuple #[v, .int .i64 0]) ∧ Dec (bytesN t) l ∧ w'.ownsRow w.heap.size 3 1 v l.length (l.map (.int .i64))) ∨ (e = .returned (.tuple #[.slice none 0 0, .int .i64 7]) ∧ ∀ l, ¬ Dec (bytesN t) l))
theorem run_drop (t : List UInt8) (k : Nat) (h : k ≤ t.length) (w : World) : (Instr.slice 9 (.string ⟨t.toArray⟩) (some (.int .i64 (k : Nat))) none none).run Tryd.prog w = .ok (.string ⟨(t.drop k).toArray⟩) w := by
  have hz : (⟨t.toArray⟩ : ByteArray).size = t.length := by show t.toArray.size = _; simp
  have e : (⟨t.toArray⟩ : ByteArray).extract k t.length = ⟨(t.drop k).toArray⟩ := by
    apply ByteArray.ext
    apply Array.ext'
    simp [ByteArray.data_extract, List.take_of_length_le]
  have hb : ((k : Nat) : Int) ≤ ((t.length : Nat) : Int) := by omega
  have hc : (0 : Int) ≤ (k : Nat) := by omega
  simp [Instr.slice, run_underlying Tryd.underlying9, Instr.sliceBounds, run_sliceBound, hz, hb, e]
theorem bytesN_app (a b : List UInt8) : bytesN (a ++ b) = bytesN a ++ bytesN b := List.map_append ..
theorem Dec.len {s : List Nat} {l : List Int} (h : Dec s l) : l.length ≤ s.length := by
  rw [h.2]
  clear h
  induction l with
  | nil => exact Nat.zero_le _
  | cons c l ih =>
    have h1 : encs (c :: l) = encN c ++ encs l := rfl
    have h2 := (encC_len c).1
    have h3 : (encN c).length = (encC c).length := List.length_map ..
    rw [h1, List.length_append, List.length_cons]
    omega
set_option maxRecDepth 100000 in
set_option maxHeartbeats 8000000 in
theorem decode_any (w : World) (t : List UInt8) (ht : t.length ≤ 17592186044414) : Calls Tryd.prog 64 #[.string ⟨t.toArray⟩] w (DecP w t) := by
  go_enter Tryd.func64, Tryd.ntmps64
  go_wp2_with fail
  go_loopw [0, 4] (fun sv ov wr => ∃ (t1 t2 : List UInt8) (l1 : List Int), t = t1 ++ t2 ∧ sv = .string ⟨t2.toArray⟩ ∧ Hid (Dec (bytesN t1) l1) ∧ Hid (wr.ownsRow w.heap.size 3 1 ov l1.length (l1.map (.int .i64))) ∧ Hid (Below w.heap.size w wr)) (fun sv _ _ => match sv with | .string s => s.size | _ => 0)
  case atStart => exact ⟨[], t, [], rfl, rfl, Dec.nil, own_lit w 3 1 rfl (Nat.le_refl _), bnew (brefl w) _⟩
  case round =>
    obtain ⟨t1, t2, l1, ht12, rfl, HD, HO, HB⟩ := hrel
    by_cases hne : t2 = []
    · subst hne
      have HE : Hid (Dec (bytesN t) l1) := by rw [ht12, List.append_nil]; exact HD.out
      go_wp2_with fail
      go_ret2
      exact ⟨HB.out, .inl ⟨_, l1, by simp, HE.out, HO.out⟩⟩
    · have hq : (t2 == []) = false := by cases t2 with
        | nil => exact absurd rfl hne
        | cons a b => rfl
      have HF := Lib.hid (first_any wr t2 hne)
      have HNE := Lib.hid hne
      have hl1 : l1.length ≤ 17592186044414 := by
        have h1 := HD.out.len
        have h2 : (bytesN t1).length = t1.length := List.length_map ..
        have h3 := congrArg List.length ht12
        rw [List.length_append] at h3
        omega
      have hS := HB.out.size
      clear hne
      go_wp2_with fail
      refine HF.out.mono ?_
      rintro e w1 ⟨(⟨c, n, rfl, hn0, hn4, hnl, hwc, hby⟩ | ⟨rfl, hno⟩), rfl⟩
      · have hn1 : ¬ ((n : Int) = 0) := by omega
        have hn2 : ¬ (n = 0) := by omega
        have HRS := Lib.hid (run_drop t2 n hnl)
        have HDN : Hid (Dec (bytesN (t1 ++ t2.take n)) (l1 ++ [c])) := by
          show Dec _ _
          rw [bytesN_app, hby]
          exact HD.out.more (r := []) hwc
        have HTN := Lib.hid (show t = (t1 ++ t2.take n) ++ t2.drop n by rw [List.append_assoc, List.take_append_drop]; exact ht12)
        have hrun := fun W => HRS.out W
        have hlt : (t2.drop n).length < t2.length := by rw [List.length_drop]; omega
        clear hby ht12 hwc
        go_wp2_with (first
          | (at_builtin; refine wpList_pushm w _ _ rfl _ _ _ rfl el_int _ _ _ rfl HO.out (m := 1) rfl rfl rfl (by simp [Value.oneCell']) (by unfold maxLen; omega) (by omega) hS HB.out ?_; intro v1 w1 hown1 hb1 _ _))
        go_roundw
        case rel => exact ⟨_, _, l1 ++ [c], HTN.out, rfl, HDN, by rw [List.length_append, List.map_append]; exact hown1, hb1⟩
        case measure =>
          show (t2.drop n).toArray.size < t2.toArray.size
          simpa using hlt
      · have HNO : Hid (∀ l, ¬ Dec (bytesN t) l) := fun l => by
          rw [ht12, bytesN_app]
          exact HD.out.bad (fun e => HNE.out (List.map_eq_nil_iff.1 e)) hno l
        go_wp2_with fail
        go_ret2
        exact ⟨HB.out, .inr ⟨by simp, HNO.out⟩⟩
end Go.Proofs.YtclahhkcbkpofaaDoor
/- The reference's guess: which character bytes would be. -/
namespace Go.Proofs.YtclahhkcbkpofaaDoor
open Go.RowKit
open Sp
set_option linter.unusedVariables false
def gZ : List UInt8 → Int
  | [a] => (a.toNat : Int)
  | [a, b] => 64 * ((a.toNat : Int) - 192) + b.toNat - 128
  | [a, b, d] => 64 * (64 * ((a.toNat : Int) - 224) + b.toNat - 128) + d.toNat - 128
  | [a, b, d, e] => 64 * (64 * (64 * ((a.toNat : Int) - 240) + b.toNat - 128) + d.toNat - 128) + e.toNat - 128
  | _ => 0
theorem gbyte_0 (a : UInt8) (r : List UInt8) (h : 0 < (⟨(a :: r).toArray⟩ : ByteArray).size) : (((⟨(a :: r).toArray⟩ : ByteArray)[0]'h).toNat : Int) = (a.toNat : Int) := rfl
theorem gbyte_1 (a b : UInt8) (r : List UInt8) (h : 1 < (⟨(a :: b :: r).toArray⟩ : ByteArray).size) : (((⟨(a :: b :: r).toArray⟩ : ByteArray)[1]'h).toNat : Int) = (b.toNat : Int) := rfl
theorem gbyte_2 (a b c : UInt8) (r : List UInt8) (h : 2 < (⟨(a :: b :: c :: r).toArray⟩ : ByteArray).size) : (((⟨(a :: b :: c :: r).toArray⟩ : ByteArray)[2]'h).toNat : Int) = (c.toNat : Int) := rfl
theorem gbyte_3 (a b c d : UInt8) (r : List UInt8) (h : 3 < (⟨(a :: b :: c :: d :: r).toArray⟩ : ByteArray).size) : (((⟨(a :: b :: c :: d :: r).toArray⟩ : ByteArray)[3]'h).toNat : Int) = (d.toNat : Int) := rfl
set_option maxRecDepth 100000 in
set_option maxHeartbeats 8000000 in
theorem guess_1 (w : World) (a : UInt8) (A : Int) (ha : (a.toNat : Int) = A) (ha0 : 0 ≤ A) (ha1 : A ≤ 255) :
    Calls Tryd.prog 49 #[.string ⟨[a].toArray⟩] w fun e w' => e = .returned (.int .i64 (A)) ∧ Below w.heap.size w w' := by
  have hz0 := gbyte_0 a [] (by show 0 < [a].toArray.size; simp)
  rw [ha] at hz0
  have s0 : IntKind.i64.wrap (A - 0) = A := by rw [IntKind.wrap_i64]; omega
  clear ha
  go_enter Tryd.func49, Tryd.ntmps49
  go_wp2_with fail
  go_region
  go_wp2_with fail
  refine wp_loop_rounds 1 ?_
  rw [rounds_succ]
  go_wp2_with fail
  go_ret
  exact ⟨rfl, Below.drew (bnew (brefl w) _)⟩

set_option maxRecDepth 100000 in
set_option maxHeartbeats 8000000 in
theorem guess_2 (w : World) (a b : UInt8) (A B : Int) (ha : (a.toNat : Int) = A) (ha0 : 0 ≤ A) (ha1 : A ≤ 255) (hb : (b.toNat : Int) = B) (hb0 : 0 ≤ B) (hb1 : B ≤ 255) :
    Calls Tryd.prog 49 #[.string ⟨[a, b].toArray⟩] w fun e w' => e = .returned (.int .i64 (64 * (A - 192) + B - 128)) ∧ Below w.heap.size w w' := by
  have hz0 := gbyte_0 a [b] (by show 0 < [a, b].toArray.size; simp)
  rw [ha] at hz0
  have hz1 := gbyte_1 a b [] (by show 1 < [a, b].toArray.size; simp)
  rw [hb] at hz1
  have s0 : IntKind.i64.wrap (A - 192) = A - 192 := by rw [IntKind.wrap_i64]; omega
  obtain ⟨C0, hC0⟩ : ∃ z, A - 192 = z := ⟨_, rfl⟩
  rw [hC0] at s0 ⊢
  have m1 : IntKind.i64.wrap (64 * C0) = 64 * C0 := by rw [IntKind.wrap_i64]; omega
  have t1 : IntKind.i64.wrap (64 * C0 + B) = 64 * C0 + B := by rw [IntKind.wrap_i64]; omega
  have u1 : IntKind.i64.wrap (64 * C0 + B - 128) = 64 * C0 + B - 128 := by rw [IntKind.wrap_i64]; omega
  obtain ⟨C1, hC1⟩ : ∃ z, 64 * C0 + B - 128 = z := ⟨_, rfl⟩
  rw [hC1] at u1 ⊢
  clear ha hb
  go_enter Tryd.func49, Tryd.ntmps49
  go_wp2_with fail
  go_region
  go_wp2_with fail
  refine wp_loop_rounds 2 ?_
  rw [rounds_succ]
  go_wp2_with fail
  rw [rounds_succ]
  go_wp2_with fail
  go_ret
  exact ⟨rfl, Below.drew (bnew (brefl w) _)⟩

set_option maxRecDepth 100000 in
set_option maxHeartbeats 8000000 in
theorem guess_3 (w : World) (a b d : UInt8) (A B D : Int) (ha : (a.toNat : Int) = A) (ha0 : 0 ≤ A) (ha1 : A ≤ 255) (hb : (b.toNat : Int) = B) (hb0 : 0 ≤ B) (hb1 : B ≤ 255) (hd : (d.toNat : Int) = D) (hd0 : 0 ≤ D) (hd1 : D ≤ 255) :
    Calls Tryd.prog 49 #[.string ⟨[a, b, d].toArray⟩] w fun e w' => e = .returned (.int .i64 (64 * (64 * (A - 224) + B - 128) + D - 128)) ∧ Below w.heap.size w w' := by
  have hz0 := gbyte_0 a [b, d] (by show 0 < [a, b, d].toArray.size; simp)
  rw [ha] at hz0
  have hz1 := gbyte_1 a b [d] (by show 1 < [a, b, d].toArray.size; simp)
  rw [hb] at hz1
  have hz2 := gbyte_2 a b d [] (by show 2 < [a, b, d].toArray.size; simp)
  rw [hd] at hz2
  have s0 : IntKind.i64.wrap (A - 224) = A - 224 := by rw [IntKind.wrap_i64]; omega
  obtain ⟨C0, hC0⟩ : ∃ z, A - 224 = z := ⟨_, rfl⟩
  rw [hC0] at s0 ⊢
  have m1 : IntKind.i64.wrap (64 * C0) = 64 * C0 := by rw [IntKind.wrap_i64]; omega
  have t1 : IntKind.i64.wrap (64 * C0 + B) = 64 * C0 + B := by rw [IntKind.wrap_i64]; omega
  have u1 : IntKind.i64.wrap (64 * C0 + B - 128) = 64 * C0 + B - 128 := by rw [IntKind.wrap_i64]; omega
  obtain ⟨C1, hC1⟩ : ∃ z, 64 * C0 + B - 128 = z := ⟨_, rfl⟩
  rw [hC1] at u1 ⊢
  have m2 : IntKind.i64.wrap (64 * C1) = 64 * C1 := by rw [IntKind.wrap_i64]; omega
  have t2 : IntKind.i64.wrap (64 * C1 + D) = 64 * C1 + D := by rw [IntKind.wrap_i64]; omega
  have u2 : IntKind.i64.wrap (64 * C1 + D - 128) = 64 * C1 + D - 128 := by rw [IntKind.wrap_i64]; omega
  obtain ⟨C2, hC2⟩ : ∃ z, 64 * C1 + D - 128 = z := ⟨_, rfl⟩
  rw [hC2] at u2 ⊢
  clear ha hb hd
  go_enter Tryd.func49, Tryd.ntmps49
  go_wp2_with fail
  go_region
  go_wp2_with fail
  refine wp_loop_rounds 3 ?_
  rw [rounds_succ]
  go_wp2_with fail
  rw [rounds_succ]
  go_wp2_with fail
  rw [rounds_succ]
  go_wp2_with fail
  go_ret
  exact ⟨rfl, Below.drew (bnew (brefl w) _)⟩

set_option maxRecDepth 100000 in
set_option maxHeartbeats 8000000 in
theorem guess_4 (w : World) (a b d e : UInt8) (A B D E : Int) (ha : (a.toNat : Int) = A) (ha0 : 0 ≤ A) (ha1 : A ≤ 255) (hb : (b.toNat : Int) = B) (hb0 : 0 ≤ B) (hb1 : B ≤ 255) (hd : (d.toNat : Int) = D) (hd0 : 0 ≤ D) (hd1 : D ≤ 255) (he : (e.toNat : Int) = E) (he0 : 0 ≤ E) (he1 : E ≤ 255) :
    Calls Tryd.prog 49 #[.string ⟨[a, b, d, e].toArray⟩] w fun e w' => e = .returned (.int .i64 (64 * (64 * (64 * (A - 240) + B - 128) + D - 128) + E - 128)) ∧ Below w.heap.size w w' := by
  have hz0 := gbyte_0 a [b, d, e] (by show 0 < [a, b, d, e].toArray.size; simp)
  rw [ha] at hz0
  have hz1 := gbyte_1 a b [d, e] (by show 1 < [a, b, d, e].toArray.size; simp)
  rw [hb] at hz1
  have hz2 := gbyte_2 a b d [e] (by show 2 < [a, b, d, e].toArray.size; simp)
  rw [hd] at hz2
  have hz3 := gbyte_3 a b d e [] (by show 3 < [a, b, d, e].toArray.size; simp)
  rw [he] at hz3
  have s0 : IntKind.i64.wrap (A - 240) = A - 240 := by rw [IntKind.wrap_i64]; omega
  obtain ⟨C0, hC0⟩ : ∃ z, A - 240 = z := ⟨_, rfl⟩
  rw [hC0] at s0 ⊢
  have m1 : IntKind.i64.wrap (64 * C0) = 64 * C0 := by rw [IntKind.wrap_i64]; omega
  have t1 : IntKind.i64.wrap (64 * C0 + B) = 64 * C0 + B := by rw [IntKind.wrap_i64]; omega
  have u1 : IntKind.i64.wrap (64 * C0 + B - 128) = 64 * C0 + B - 128 := by rw [IntKind.wrap_i64]; omega
  obtain ⟨C1, hC1⟩ : ∃ z, 64 * C0 + B - 128 = z := ⟨_, rfl⟩
  rw [hC1] at u1 ⊢
  have m2 : IntKind.i64.wrap (64 * C1) = 64 * C1 := by rw [IntKind.wrap_i64]; omega
  have t2 : IntKind.i64.wrap (64 * C1 + D) = 64 * C1 + D := by rw [IntKind.wrap_i64]; omega
  have u2 : IntKind.i64.wrap (64 * C1 + D - 128) = 64 * C1 + D - 128 := by rw [IntKind.wrap_i64]; omega
  obtain ⟨C2, hC2⟩ : ∃ z, 64 * C1 + D - 128 = z := ⟨_, rfl⟩
  rw [hC2] at u2 ⊢
  have m3 : IntKind.i64.wrap (64 * C2) = 64 * C2 := by rw [IntKind.wrap_i64]; omega
  have t3 : IntKind.i64.wrap (64 * C2 + E) = 64 * C2 + E := by rw [IntKind.wrap_i64]; omega
  have u3 : IntKind.i64.wrap (64 * C2 + E - 128) = 64 * C2 + E - 128 := by rw [IntKind.wrap_i64]; omega
  obtain ⟨C3, hC3⟩ : ∃ z, 64 * C2 + E - 128 = z := ⟨_, rfl⟩
  rw [hC3] at u3 ⊢
  clear ha hb hd he
  go_enter Tryd.func49, Tryd.ntmps49
  go_wp2_with fail
  go_region
  go_wp2_with fail
  refine wp_loop_rounds 4 ?_
  rw [rounds_succ]
  go_wp2_with fail
  rw [rounds_succ]
  go_wp2_with fail
  rw [rounds_succ]
  go_wp2_with fail
  rw [rounds_succ]
  go_wp2_with fail
  go_ret
  exact ⟨rfl, Below.drew (bnew (brefl w) _)⟩

/-- Which character the bytes would be. -/
theorem guess_any (w : World) (t : List UInt8) (h1 : t ≠ []) (h4 : t.length ≤ 4) : Calls Tryd.prog 49 #[.string ⟨t.toArray⟩] w fun e w' => e = .returned (.int .i64 (gZ t)) ∧ Below w.heap.size w w' := by
  have k : ∀ b : UInt8, (0 : Int) ≤ b.toNat ∧ (b.toNat : Int) ≤ 255 := fun b => by have := b.toNat_lt; omega
  match t, h1, h4 with
  | [a], _, _ => exact guess_1 w a _ rfl (k a).1 (k a).2
  | [a, b], _, _ => exact guess_2 w a b _ _ rfl (k a).1 (k a).2 rfl (k b).1 (k b).2
  | [a, b, d], _, _ => exact guess_3 w a b d _ _ _ rfl (k a).1 (k a).2 rfl (k b).1 (k b).2 rfl (k d).1 (k d).2
  | [a, b, d, e], _, _ => exact guess_4 w a b d e _ _ _ _ rfl (k a).1 (k a).2 rfl (k b).1 (k b).2 rfl (k d).1 (k d).2 rfl (k e).1 (k e).2
  | _ :: _ :: _ :: _ :: _ :: _, _, h => simp at h
end Go.Proofs.YtclahhkcbkpofaaDoor
