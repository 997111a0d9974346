/- Letters and how they are folded: the program and the reference. -/
import Derived.Test.YtclahhkcbkpofaaDoorHFz5
import Derived.Test.YtclahhkcbkpofaaDoorHFz1
namespace Go.Proofs.YtclahhkcbkpofaaDoor
open Go.RowKit
open Sp
set_option linter.unusedVariables false
/-- Which characters stand in words. -/
def letP (c : Int) : Prop := (97 ≤ c ∧ c ≤ 122) ∨ (65 ≤ c ∧ c ≤ 90) ∨ (48 ≤ c ∧ c ≤ 57) ∨ (192 ≤ c ∧ c ≤ 214) ∨ (216 ≤ c ∧ c ≤ 246) ∨ (248 ≤ c ∧ c ≤ 591) ∨ (880 ≤ c ∧ c ≤ 893) ∨ (895 ≤ c ∧ c ≤ 1153) ∨ (1155 ≤ c ∧ c ≤ 1327) ∨ (19968 ≤ c ∧ c ≤ 40959)
instance (c : Int) : Decidable (letP c) := by unfold letP; infer_instance
def letB (c : Int) : Bool := decide (letP c)
theorem let_cases (c : Int) : (c < 48 ∧ letB c = false) ∨ (48 ≤ c ∧ c ≤ 57 ∧ letB c = true) ∨ (57 < c ∧ c < 65 ∧ letB c = false) ∨ (65 ≤ c ∧ c ≤ 90 ∧ letB c = true) ∨ (90 < c ∧ c < 97 ∧ letB c = false) ∨ (97 ≤ c ∧ c ≤ 122 ∧ letB c = true) ∨ (122 < c ∧ c < 192 ∧ letB c = false) ∨ (192 ≤ c ∧ c ≤ 214 ∧ letB c = true) ∨ (c = 215 ∧ letB c = false) ∨ (215 < c ∧ c ≤ 246 ∧ letB c = true) ∨ (c = 247 ∧ letB c = false) ∨ (247 < c ∧ c ≤ 591 ∧ letB c = true) ∨ (591 < c ∧ c < 880 ∧ letB c = false) ∨ (880 ≤ c ∧ c ≤ 893 ∧ letB c = true) ∨ (c = 894 ∧ letB c = false) ∨ (894 < c ∧ c ≤ 1153 ∧ letB c = true) ∨ (c = 1154 ∧ letB c = false) ∨ (1154 < c ∧ c ≤ 1327 ∧ letB c = true) ∨ (1327 < c ∧ c < 19968 ∧ letB c = false) ∨ (19968 ≤ c ∧ c ≤ 40959 ∧ letB c = true) ∨ (40959 < c ∧ letB c = false) := by
  by_cases h0 : c < 48
  · exact .inl ⟨by omega, decide_eq_false (by unfold letP; omega)⟩
  by_cases h1 : c ≤ 57
  · exact .inr (.inl ⟨by omega, by omega, decide_eq_true (by unfold letP; omega)⟩)
  by_cases h2 : c < 65
  · exact .inr (.inr (.inl ⟨by omega, by omega, decide_eq_false (by unfold letP; omega)⟩))
  by_cases h3 : c ≤ 90
  · exact .inr (.inr (.inr (.inl ⟨by omega, by omega, decide_eq_true (by unfold letP; omega)⟩)))
  by_cases h4 : c < 97
  · exact .inr (.inr (.inr (.inr (.inl ⟨by omega, by omega, decide_eq_false (by unfold letP; omega)⟩))))
  by_cases h5 : c ≤ 122
  · exact .inr (.inr (.inr (.inr (.inr (.inl ⟨by omega, by omega, decide_eq_true (by unfold letP; omega)⟩)))))
  by_cases h6 : c < 192
  · exact .inr (.inr (.inr (.inr (.inr (.inr (.inl ⟨by omega, by omega, decide_eq_false (by unfold letP; omega)⟩))))))
  by_cases h7 : c ≤ 214
  · exact .inr (.inr (.inr (.inr (.inr (.inr (.inr (.inl ⟨by omega, by omega, decide_eq_true (by unfold letP; omega)⟩)))))))
  by_cases h8 : c = 215
  · exact .inr (.inr (.inr (.inr (.inr (.inr (.inr (.inr (.inl ⟨by omega, decide_eq_false (by unfold letP; omega)⟩))))))))
  by_cases h9 : c ≤ 246
  · exact .inr (.inr (.inr (.inr (.inr (.inr (.inr (.inr (.inr (.inl ⟨by omega, by omega, decide_eq_true (by unfold letP; omega)⟩)))))))))
  by_cases h10 : c = 247
  · exact .inr (.inr (.inr (.inr (.inr (.inr (.inr (.inr (.inr (.inr (.inl ⟨by omega, decide_eq_false (by unfold letP; omega)⟩))))))))))
  by_cases h11 : c ≤ 591
  · exact .inr (.inr (.inr (.inr (.inr (.inr (.inr (.inr (.inr (.inr (.inr (.inl ⟨by omega, by omega, decide_eq_true (by unfold letP; omega)⟩)))))))))))
  by_cases h12 : c < 880
  · exact .inr (.inr (.inr (.inr (.inr (.inr (.inr (.inr (.inr (.inr (.inr (.inr (.inl ⟨by omega, by omega, decide_eq_false (by unfold letP; omega)⟩))))))))))))
  by_cases h13 : c ≤ 893
  · exact .inr (.inr (.inr (.inr (.inr (.inr (.inr (.inr (.inr (.inr (.inr (.inr (.inr (.inl ⟨by omega, by omega, decide_eq_true (by unfold letP; omega)⟩)))))))))))))
  by_cases h14 : c = 894
  · exact .inr (.inr (.inr (.inr (.inr (.inr (.inr (.inr (.inr (.inr (.inr (.inr (.inr (.inr (.inl ⟨by omega, decide_eq_false (by unfold letP; omega)⟩))))))))))))))
  by_cases h15 : c ≤ 1153
  · exact .inr (.inr (.inr (.inr (.inr (.inr (.inr (.inr (.inr (.inr (.inr (.inr (.inr (.inr (.inr (.inl ⟨by omega, by omega, decide_eq_true (by unfold letP; omega)⟩)))))))))))))))
  by_cases h16 : c = 1154
  · exact .inr (.inr (.inr (.inr (.inr (.inr (.inr (.inr (.inr (.inr (.inr (.inr (.inr (.inr (.inr (.inr (.inl ⟨by omega, decide_eq_false (by unfold letP; omega)⟩))))))))))))))))
  by_cases h17 : c ≤ 1327
  · exact .inr (.inr (.inr (.inr (.inr (.inr (.inr (.inr (.inr (.inr (.inr (.inr (.inr (.inr (.inr (.inr (.inr (.inl ⟨by omega, by omega, decide_eq_true (by unfold letP; omega)⟩)))))))))))))))))
  by_cases h18 : c < 19968
  · exact .inr (.inr (.inr (.inr (.inr (.inr (.inr (.inr (.inr (.inr (.inr (.inr (.inr (.inr (.inr (.inr (.inr (.inr (.inl ⟨by omega, by omega, decide_eq_false (by unfold letP; omega)⟩))))))))))))))))))
  by_cases h19 : c ≤ 40959
  · exact .inr (.inr (.inr (.inr (.inr (.inr (.inr (.inr (.inr (.inr (.inr (.inr (.inr (.inr (.inr (.inr (.inr (.inr (.inr (.inl ⟨by omega, by omega, decide_eq_true (by unfold letP; omega)⟩)))))))))))))))))))
  exact .inr (.inr (.inr (.inr (.inr (.inr (.inr (.inr (.inr (.inr (.inr (.inr (.inr (.inr (.inr (.inr (.inr (.inr (.inr (.inr (⟨by omega, decide_eq_false (by unfold letP; omega)⟩))))))))))))))))))))
set_option maxRecDepth 100000 in
set_option maxHeartbeats 8000000 in
theorem letter_any (c : Int) (w : World) : Calls Tryd.prog 45 #[.int .i64 c] w fun e w' => e = .returned (.bool (letB c)) ∧ w = w' := by
  rcases let_cases c with ⟨h1, h⟩ | ⟨h1, h2, h⟩ | ⟨h1, h2, h⟩ | ⟨h1, h2, h⟩ | ⟨h1, h2, h⟩ | ⟨h1, h2, h⟩ | ⟨h1, h2, h⟩ | ⟨h1, h2, h⟩ | ⟨h1, h⟩ | ⟨h1, h2, h⟩ | ⟨h1, h⟩ | ⟨h1, h2, h⟩ | ⟨h1, h2, h⟩ | ⟨h1, h2, h⟩ | ⟨h1, h⟩ | ⟨h1, h2, h⟩ | ⟨h1, h⟩ | ⟨h1, h2, h⟩ | ⟨h1, h2, h⟩ | ⟨h1, h2, h⟩ | ⟨h1, h⟩
  all_goals
    rw [h]
    clear h
    try subst h1
    first | have p1 : decide (c ≥ 97) = true := decide_eq_true (by omega) | have p1 : decide (c ≥ 97) = false := decide_eq_false (by omega) | skip
    first | have p2 : decide (c ≤ 122) = true := decide_eq_true (by omega) | have p2 : decide (c ≤ 122) = false := decide_eq_false (by omega) | skip
    first | have p3 : decide (c ≥ 65) = true := decide_eq_true (by omega) | have p3 : decide (c ≥ 65) = false := decide_eq_false (by omega) | skip
    first | have p4 : decide (c ≤ 90) = true := decide_eq_true (by omega) | have p4 : decide (c ≤ 90) = false := decide_eq_false (by omega) | skip
    first | have p5 : decide (c ≥ 48) = true := decide_eq_true (by omega) | have p5 : decide (c ≥ 48) = false := decide_eq_false (by omega) | skip
    first | have p6 : decide (c ≤ 57) = true := decide_eq_true (by omega) | have p6 : decide (c ≤ 57) = false := decide_eq_false (by omega) | skip
    first | have p7 : decide (c ≥ 192) = true := decide_eq_true (by omega) | have p7 : decide (c ≥ 192) = false := decide_eq_false (by omega) | skip
    first | have p8 : decide (c ≤ 591) = true := decide_eq_true (by omega) | have p8 : decide (c ≤ 591) = false := decide_eq_false (by omega) | skip
    first | have p9 : decide (c ≥ 880) = true := decide_eq_true (by omega) | have p9 : decide (c ≥ 880) = false := decide_eq_false (by omega) | skip
    first | have p10 : decide (c ≤ 1327) = true := decide_eq_true (by omega) | have p10 : decide (c ≤ 1327) = false := decide_eq_false (by omega) | skip
    first | have p11 : decide (c ≥ 19968) = true := decide_eq_true (by omega) | have p11 : decide (c ≥ 19968) = false := decide_eq_false (by omega) | skip
    first | have p12 : decide (c ≤ 40959) = true := decide_eq_true (by omega) | have p12 : decide (c ≤ 40959) = false := decide_eq_false (by omega) | skip
    first | have p13 : (c == 215) = false := by (rw [beq_eq_false_iff_ne]; omega) | skip
    first | have p14 : (c == 247) = false := by (rw [beq_eq_false_iff_ne]; omega) | skip
    first | have p15 : (c == 894) = false := by (rw [beq_eq_false_iff_ne]; omega) | skip
    first | have p16 : (c == 1154) = false := by (rw [beq_eq_false_iff_ne]; omega) | skip
    go_enter Tryd.func45, Tryd.ntmps45
    go_wp2_with fail
    go_ret
    exact ⟨rfl, rfl⟩
/-! ### The reference's ranges -/
/-- Pairs of ends, one behind the other. -/
def inR (c : Int) : List Int → Bool
  | a :: b :: r => (decide (c ≥ a) && decide (c ≤ b)) || inR c r
  | _ => false
theorem inR_at {c : Int} : ∀ {l : List Int} {j : Nat} {a b : Int}, l.length % 2 = 0 → j % 2 = 0 → l[j]? = some a → l[j + 1]? = some b → inR c (l.drop j) = ((decide (c ≥ a) && decide (c ≤ b)) || inR c (l.drop (j + 2))) := by
  intro l j a b _ _ h1 h2
  have e1 := (List.getElem?_eq_some_iff.1 h1)
  have e2 := (List.getElem?_eq_some_iff.1 h2)
  obtain ⟨k1, e1⟩ := e1
  obtain ⟨k2, e2⟩ := e2
  rw [List.drop_eq_getElem_cons k1, List.drop_eq_getElem_cons k2, e1, e2]
  rfl
set_option maxRecDepth 100000 in
set_option maxHeartbeats 8000000 in
theorem among_any (w : World) (B : Nat) (hB : B ≤ w.heap.size) (A : Option Addr) (n cp : Nat) (l : List Int) (hs : Sl w B 1 A n (l.map (.int .i64))) (hn : n ≤ 1000) (he : n % 2 = 0) (c : Int) :
    Calls Tryd.prog 67 #[.int .i64 c, .slice A n cp] w fun e w' => e = .returned (.bool (inR c l)) ∧ Below w.heap.size w w' := by
  have hln : l.length = n := by have := hs.1; simpa using this
  have HS := Lib.hid hs
  have HE := Lib.hid he
  have HL := Lib.hid hln
  clear hs he
  go_enter Tryd.func67, Tryd.ntmps67
  go_wp2_with fail
  go_loopw [5] (fun iv wr => ∃ j : Nat, j ≤ n ∧ iv = .int .i64 (j : Int) ∧ Hid (j % 2 = 0) ∧ Hid (Below w.heap.size w wr) ∧ Hid (inR c l = inR c (l.drop j))) (fun iv _ => n - (intOf iv).toNat)
  case atStart => exact ⟨0, Nat.zero_le _, rfl, Lib.hid rfl, brefl w, Lib.hid rfl⟩
  case round =>
    obtain ⟨j, hj, rfl, HJ, HB, HR⟩ := hrel
    by_cases hjn : j < n
    · have hj1 : j + 1 < n := by have := HJ.out; have := HE.out; omega
      obtain ⟨a, ha⟩ : ∃ a, l[j]? = some a := ⟨l[j]'(by omega), List.getElem?_eq_getElem _⟩
      obtain ⟨b, hb⟩ : ∃ b, l[j + 1]? = some b := ⟨l[j + 1]'(by omega), List.getElem?_eq_getElem _⟩
      have HN : Hid (inR c (l.drop j) = ((decide (c ≥ a) && decide (c ≤ b)) || inR c (l.drop (j + 2)))) := inR_at (by rw [hln]; exact HE.out) HJ.out ha hb
      obtain ⟨b0, off, hA, hb0, hc⟩ := (HS.out.below (HB.out.mono hB)).at_ hjn
      have r0 := hc j (.int .i64 a) (by rw [List.getElem?_map, ha]; rfl)
      have r1 := hc (j + 1) (.int .i64 b) (by rw [List.getElem?_map, hb]; rfl)
      rw [hA]
      have hbw : b0 < wr.heap.size := Nat.lt_of_lt_of_le hb0 (Nat.le_trans hB HB.out.size)
      have hq : decide (j < n) = true := decide_eq_true hjn
      have HJ2 : Hid ((j + 2) % 2 = 0) := by have := HJ.out; show _ = _; omega
      have hw1 : IntKind.i64.wrap ((j : Int) + 1) = ((j + 1 : Nat) : Int) := by rw [IntKind.wrap_i64]; omega
      clear hc ha hb
      by_cases c1 : c < a
      · have p1 : decide (c ≥ a) = false := decide_eq_false (by omega)
        have HR2 : Hid (inR c l = inR c (l.drop (j + 2))) := by show _ = _; rw [HR.out, HN.out, p1]; rfl
        clear HN HR c1
        go_wp2_with fail
        go_roundw
        case rel => exact ⟨j + 2, by omega, by go_num, HJ2, HB, HR2⟩
        case measure => simp [intOf]; omega
      · have p1 : decide (c ≥ a) = true := decide_eq_true (by omega)
        by_cases c2 : b < c
        · have p2 : decide (c ≤ b) = false := decide_eq_false (by omega)
          have HR2 : Hid (inR c l = inR c (l.drop (j + 2))) := by show _ = _; rw [HR.out, HN.out, p1, p2]; rfl
          clear HN HR c1 c2
          go_wp2_with fail
          go_roundw
          case rel => exact ⟨j + 2, by omega, by go_num, HJ2, HB, HR2⟩
          case measure => simp [intOf]; omega
        · have p2 : decide (c ≤ b) = true := decide_eq_true (by omega)
          have HR2 : Hid (inR c l = true) := by show _ = _; rw [HR.out, HN.out, p1, p2]; rfl
          clear HN HR c1 c2
          go_wp2_with fail
          go_ret
          exact ⟨by rw [HR2.out]; rfl, HB.out⟩
    · obtain rfl : j = n := by omega
      have HF : Hid (inR c l = false) := by
        show _ = _
        rw [HR.out, ← HL.out, List.drop_length]
        rfl
      clear HR
      go_wp2_with fail
      go_ret
      exact ⟨by rw [HF.out]; rfl, HB.out⟩
theorem in_let (c : Int) : inR c [97, 122, 65, 90, 48, 57, 192, 214, 216, 246, 248, 591, 880, 893, 895, 1153, 1155, 1327, 19968, 40959] = letB c := by
  rw [Bool.eq_iff_iff]
  unfold letB
  simp only [inR, Bool.or_eq_true, Bool.and_eq_true, decide_eq_true_eq, Bool.false_eq_true, or_false]
  unfold letP
  omega
theorem lit_in (w : World) (l : List Int) (n : Nat) (hn : l.length = n) (hn2 : n < 1000) : Sl (w.alloc (.cells (l.map (.int .i64)).toArray 3)) (w.heap.size + 1) 1 (some ⟨w.heap.size, 0, none⟩) n (l.map (.int .i64)) :=
  (Sl.of_own (own_new w (l.map (.int .i64)).toArray 3 1 n (by simp [hn]) (by unfold maxLen; omega) (nb := w.heap.size) rfl (base := 0) (Nat.zero_le _))).more (by simp)
set_option maxRecDepth 100000 in
set_option maxHeartbeats 8000000 in
theorem rletter_any (c : Int) (w : World) : Calls Tryd.prog 47 #[.int .i64 c] w fun e w' => e = .returned (.bool (letB c)) ∧ Below w.heap.size w w' := by
  have HA := Lib.hid (among_any (w.alloc (.cells (([97, 122, 65, 90, 48, 57, 192, 214, 216, 246, 248, 591, 880, 893, 895, 1153, 1155, 1327, 19968, 40959] : List Int).map (.int .i64)).toArray 3)) (w.heap.size + 1) (by simp) _ 20 20 _ (lit_in w [97, 122, 65, 90, 48, 57, 192, 214, 216, 246, 248, 591, 880, 893, 895, 1153, 1155, 1327, 19968, 40959] 20 rfl (by omega)) (by omega) (by omega) c)
  rw [in_let] at HA
  go_enter Tryd.func47, Tryd.ntmps47
  go_wp2_with fail
  refine HA.out.mono ?_
  rintro e w1 ⟨rfl, hb1⟩
  have HB := Lib.hid (bcall (bnew (brefl w) _) hb1)
  go_wp2_with fail
  go_ret
  exact ⟨rfl, HB.out⟩
/-! ### Folding -/
def foldI (c : Int) : Int := if (65 ≤ c ∧ c ≤ 90) ∨ (192 ≤ c ∧ c ≤ 214) ∨ (216 ≤ c ∧ c ≤ 222) ∨ (913 ≤ c ∧ c ≤ 929) ∨ (931 ≤ c ∧ c ≤ 937) ∨ (1040 ≤ c ∧ c ≤ 1071) then c + 32 else if 1024 ≤ c ∧ c ≤ 1039 then c + 80 else if c = 962 then 963 else c
theorem fold_cases (c : Int) : (c < 65 ∧ foldI c = c) ∨ (65 ≤ c ∧ c ≤ 90 ∧ foldI c = c + 32) ∨ (90 < c ∧ c < 192 ∧ foldI c = c) ∨ (192 ≤ c ∧ c ≤ 214 ∧ foldI c = c + 32) ∨ (c = 215 ∧ foldI c = c) ∨ (215 < c ∧ c ≤ 222 ∧ foldI c = c + 32) ∨ (222 < c ∧ c < 913 ∧ foldI c = c) ∨ (913 ≤ c ∧ c ≤ 929 ∧ foldI c = c + 32) ∨ (c = 930 ∧ foldI c = c) ∨ (930 < c ∧ c ≤ 937 ∧ foldI c = c + 32) ∨ (937 < c ∧ c < 962 ∧ foldI c = c) ∨ (c = 962 ∧ foldI c = 963) ∨ (962 < c ∧ c < 1024 ∧ foldI c = c) ∨ (1024 ≤ c ∧ c ≤ 1039 ∧ foldI c = c + 80) ∨ (1039 < c ∧ c ≤ 1071 ∧ foldI c = c + 32) ∨ (1071 < c ∧ foldI c = c) := by
  by_cases h0 : c < 65
  · exact .inl ⟨by omega, (if_neg (by omega)).trans ((if_neg (by omega)).trans (if_neg (by omega)))⟩
  by_cases h1 : c ≤ 90
  · exact .inr (.inl ⟨by omega, by omega, if_pos (by omega)⟩)
  by_cases h2 : c < 192
  · exact .inr (.inr (.inl ⟨by omega, by omega, (if_neg (by omega)).trans ((if_neg (by omega)).trans (if_neg (by omega)))⟩))
  by_cases h3 : c ≤ 214
  · exact .inr (.inr (.inr (.inl ⟨by omega, by omega, if_pos (by omega)⟩)))
  by_cases h4 : c = 215
  · exact .inr (.inr (.inr (.inr (.inl ⟨by omega, (if_neg (by omega)).trans ((if_neg (by omega)).trans (if_neg (by omega)))⟩))))
  by_cases h5 : c ≤ 222
  · exact .inr (.inr (.inr (.inr (.inr (.inl ⟨by omega, by omega, if_pos (by omega)⟩)))))
  by_cases h6 : c < 913
  · exact .inr (.inr (.inr (.inr (.inr (.inr (.inl ⟨by omega, by omega, (if_neg (by omega)).trans ((if_neg (by omega)).trans (if_neg (by omega)))⟩))))))
  by_cases h7 : c ≤ 929
  · exact .inr (.inr (.inr (.inr (.inr (.inr (.inr (.inl ⟨by omega, by omega, if_pos (by omega)⟩)))))))
  by_cases h8 : c = 930
  · exact .inr (.inr (.inr (.inr (.inr (.inr (.inr (.inr (.inl ⟨by omega, (if_neg (by omega)).trans ((if_neg (by omega)).trans (if_neg (by omega)))⟩))))))))
  by_cases h9 : c ≤ 937
  · exact .inr (.inr (.inr (.inr (.inr (.inr (.inr (.inr (.inr (.inl ⟨by omega, by omega, if_pos (by omega)⟩)))))))))
  by_cases h10 : c < 962
  · exact .inr (.inr (.inr (.inr (.inr (.inr (.inr (.inr (.inr (.inr (.inl ⟨by omega, by omega, (if_neg (by omega)).trans ((if_neg (by omega)).trans (if_neg (by omega)))⟩))))))))))
  by_cases h11 : c = 962
  · exact .inr (.inr (.inr (.inr (.inr (.inr (.inr (.inr (.inr (.inr (.inr (.inl ⟨by omega, (if_neg (by omega)).trans ((if_neg (by omega)).trans (if_pos (by omega)))⟩)))))))))))
  by_cases h12 : c < 1024
  · exact .inr (.inr (.inr (.inr (.inr (.inr (.inr (.inr (.inr (.inr (.inr (.inr (.inl ⟨by omega, by omega, (if_neg (by omega)).trans ((if_neg (by omega)).trans (if_neg (by omega)))⟩))))))))))))
  by_cases h13 : c ≤ 1039
  · exact .inr (.inr (.inr (.inr (.inr (.inr (.inr (.inr (.inr (.inr (.inr (.inr (.inr (.inl ⟨by omega, by omega, (if_neg (by omega)).trans (if_pos (by omega))⟩)))))))))))))
  by_cases h14 : c ≤ 1071
  · exact .inr (.inr (.inr (.inr (.inr (.inr (.inr (.inr (.inr (.inr (.inr (.inr (.inr (.inr (.inl ⟨by omega, by omega, if_pos (by omega)⟩))))))))))))))
  exact .inr (.inr (.inr (.inr (.inr (.inr (.inr (.inr (.inr (.inr (.inr (.inr (.inr (.inr (.inr (⟨by omega, (if_neg (by omega)).trans ((if_neg (by omega)).trans (if_neg (by omega)))⟩)))))))))))))))
set_option maxRecDepth 100000 in
set_option maxHeartbeats 8000000 in
theorem fold_any (c : Int) (w : World) : Calls Tryd.prog 65 #[.int .i64 c] w fun e w' => e = .returned (.int .i64 (foldI c)) ∧ w = w' := by
  rcases fold_cases c with ⟨h1, h⟩ | ⟨h1, h2, h⟩ | ⟨h1, h2, h⟩ | ⟨h1, h2, h⟩ | ⟨h1, h⟩ | ⟨h1, h2, h⟩ | ⟨h1, h2, h⟩ | ⟨h1, h2, h⟩ | ⟨h1, h⟩ | ⟨h1, h2, h⟩ | ⟨h1, h2, h⟩ | ⟨h1, h⟩ | ⟨h1, h2, h⟩ | ⟨h1, h2, h⟩ | ⟨h1, h2, h⟩ | ⟨h1, h⟩
  all_goals
    rw [h]
    clear h
    try subst h1
    first | have p1 : decide (c ≥ 65) = true := decide_eq_true (by omega) | have p1 : decide (c ≥ 65) = false := decide_eq_false (by omega) | skip
    first | have p2 : decide (c ≤ 90) = true := decide_eq_true (by omega) | have p2 : decide (c ≤ 90) = false := decide_eq_false (by omega) | skip
    first | have p3 : decide (c ≥ 192) = true := decide_eq_true (by omega) | have p3 : decide (c ≥ 192) = false := decide_eq_false (by omega) | skip
    first | have p4 : decide (c ≤ 222) = true := decide_eq_true (by omega) | have p4 : decide (c ≤ 222) = false := decide_eq_false (by omega) | skip
    first | have p5 : decide (c ≥ 913) = true := decide_eq_true (by omega) | have p5 : decide (c ≥ 913) = false := decide_eq_false (by omega) | skip
    first | have p6 : decide (c ≤ 937) = true := decide_eq_true (by omega) | have p6 : decide (c ≤ 937) = false := decide_eq_false (by omega) | skip
    first | have p7 : decide (c ≥ 1040) = true := decide_eq_true (by omega) | have p7 : decide (c ≥ 1040) = false := decide_eq_false (by omega) | skip
    first | have p8 : decide (c ≤ 1071) = true := decide_eq_true (by omega) | have p8 : decide (c ≤ 1071) = false := decide_eq_false (by omega) | skip
    first | have p9 : decide (c ≥ 1024) = true := decide_eq_true (by omega) | have p9 : decide (c ≥ 1024) = false := decide_eq_false (by omega) | skip
    first | have p10 : decide (c ≤ 1039) = true := decide_eq_true (by omega) | have p10 : decide (c ≤ 1039) = false := decide_eq_false (by omega) | skip
    first | have p11 : (c == 962) = false := by (rw [beq_eq_false_iff_ne]; omega) | skip
    first | have n1 : (c != 215) = true := by (rw [bne_iff_ne]; omega) | skip
    first | have n2 : (c != 930) = true := by (rw [bne_iff_ne]; omega) | skip
    go_enter Tryd.func65, Tryd.ntmps65
    go_wp2_with fail
    go_ret
    exact ⟨rfl, rfl⟩
theorem in_fold (c : Int) : inR c [65, 90, 192, 214, 216, 222, 913, 929, 931, 937, 1040, 1071] = decide ((65 ≤ c ∧ c ≤ 90) ∨ (192 ≤ c ∧ c ≤ 214) ∨ (216 ≤ c ∧ c ≤ 222) ∨ (913 ≤ c ∧ c ≤ 929) ∨ (931 ≤ c ∧ c ≤ 937) ∨ (1040 ≤ c ∧ c ≤ 1071)) := by
  rw [Bool.eq_iff_iff]
  simp only [inR, Bool.or_eq_true, Bool.and_eq_true, decide_eq_true_eq, Bool.false_eq_true, or_false]
set_option maxRecDepth 100000 in
set_option maxHeartbeats 8000000 in
theorem rfold_any (c : Int) (hc : 0 ≤ c ∧ c ≤ 1114111) (w : World) : Calls Tryd.prog 66 #[.int .i64 c] w fun e w' => e = .returned (.int .i64 (foldI c)) ∧ Below w.heap.size w w' := by
  have HA := Lib.hid (among_any (w.alloc (.cells (([65, 90, 192, 214, 216, 222, 913, 929, 931, 937, 1040, 1071] : List Int).map (.int .i64)).toArray 3)) (w.heap.size + 1) (by simp) _ 12 12 _ (lit_in w [65, 90, 192, 214, 216, 222, 913, 929, 931, 937, 1040, 1071] 12 rfl (by omega)) (by omega) (by omega) c)
  rw [in_fold] at HA
  have hcase : (decide ((65 ≤ c ∧ c ≤ 90) ∨ (192 ≤ c ∧ c ≤ 214) ∨ (216 ≤ c ∧ c ≤ 222) ∨ (913 ≤ c ∧ c ≤ 929) ∨ (931 ≤ c ∧ c ≤ 937) ∨ (1040 ≤ c ∧ c ≤ 1071)) = true ∧ foldI c = c + 32) ∨ (decide ((65 ≤ c ∧ c ≤ 90) ∨ (192 ≤ c ∧ c ≤ 214) ∨ (216 ≤ c ∧ c ≤ 222) ∨ (913 ≤ c ∧ c ≤ 929) ∨ (931 ≤ c ∧ c ≤ 937) ∨ (1040 ≤ c ∧ c ≤ 1071)) = false ∧ ((1024 ≤ c ∧ c ≤ 1039 ∧ foldI c = c + 80) ∨ (c = 962 ∧ foldI c = 963) ∨ (c < 962 ∧ foldI c = c) ∨ (962 < c ∧ c < 1024 ∧ foldI c = c) ∨ (1039 < c ∧ foldI c = c))) := by
    by_cases h0 : ((65 ≤ c ∧ c ≤ 90) ∨ (192 ≤ c ∧ c ≤ 214) ∨ (216 ≤ c ∧ c ≤ 222) ∨ (913 ≤ c ∧ c ≤ 929) ∨ (931 ≤ c ∧ c ≤ 937) ∨ (1040 ≤ c ∧ c ≤ 1071))
    · exact .inl ⟨decide_eq_true h0, if_pos h0⟩
    refine .inr ⟨decide_eq_false h0, ?_⟩
    have e : foldI c = if 1024 ≤ c ∧ c ≤ 1039 then c + 80 else if c = 962 then 963 else c := if_neg h0
    rw [e]
    clear e h0
    by_cases h1 : c = 962
    · subst h1; exact .inr (.inl ⟨rfl, rfl⟩)
    by_cases h2 : c < 962
    · exact .inr (.inr (.inl ⟨h2, (if_neg (by omega)).trans (if_neg h1)⟩))
    by_cases h3 : c < 1024
    · exact .inr (.inr (.inr (.inl ⟨by omega, h3, (if_neg (by omega)).trans (if_neg h1)⟩)))
    by_cases h4 : c ≤ 1039
    · exact .inl ⟨by omega, h4, if_pos ⟨by omega, h4⟩⟩
    exact .inr (.inr (.inr (.inr ⟨by omega, (if_neg (by omega)).trans (if_neg h1)⟩)))
  rcases hcase with ⟨h0, h⟩ | ⟨h0, ⟨h1, h2, h⟩ | ⟨h1, h⟩ | ⟨h1, h⟩ | ⟨h1, h2, h⟩ | ⟨h1, h⟩⟩
  all_goals
    rw [h0] at HA
    rw [h]
    clear h h0
    try subst h1
    first | have p1 : decide (c ≥ 1024) = true := decide_eq_true (by omega) | have p1 : decide (c ≥ 1024) = false := decide_eq_false (by omega) | skip
    first | have p2 : decide (c ≤ 1039) = true := decide_eq_true (by omega) | have p2 : decide (c ≤ 1039) = false := decide_eq_false (by omega) | skip
    first | have p3 : (c == 962) = false := by (rw [beq_eq_false_iff_ne]; omega) | skip
    go_enter Tryd.func66, Tryd.ntmps66
    go_wp2_with fail
    refine HA.out.mono ?_
    rintro e w1 ⟨rfl, hb1⟩
    have HB := Lib.hid (bcall (bnew (brefl w) _) hb1)
    go_wp2_with fail
    go_ret
    exact ⟨rfl, HB.out⟩
end Go.Proofs.YtclahhkcbkpofaaDoor
