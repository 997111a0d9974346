/- fuzzy.Distance: the row that is made. -/
import Derived.Test.YtclahhkcbkpofaaDoorHFuz51
import Derived.Test.YtclahhkcbkpofaaDoorHFuz16
import Derived.Test.YtclahhkcbkpofaaDoorHFuz17
import Derived.Test.YtclahhkcbkpofaaDoorHFuz1
import Derived.SizedLaws
import Derived.ChangeArms
import Derived.Test.YtclahhkcbkpofaaDoorChecked
namespace Go.Proofs.YtclahhkcbkpofaaDoor
open Go.RowKit
set_option linter.unusedVariables false

/-- A row of n + 1 numbers, by a function. -/
def rowF (n : Nat) (F : Nat → Int) : List Value := (List.range (n + 1)).map fun q => .int .i64 (F q)
theorem rowF_at {n : Nat} {F : Nat → Int} {k : Nat} (h : k ≤ n) : (rowF n F)[k]? = some (.int .i64 (F k)) := by
  unfold rowF
  rw [List.getElem?_map, List.getElem?_range (by omega)]
  rfl
theorem rowF_put {n : Nat} {F : Nat → Int} {k : Nat} {v : Int} : (rowF n F).set k (.int .i64 v) = rowF n fun q => if q = k then v else F q := by
  unfold rowF
  apply List.ext_getElem?
  intro j
  by_cases e : k = j
  · subst e
    by_cases hk : k < n + 1
    · rw [List.getElem?_set_self (by simp; omega), List.getElem?_map, List.getElem?_range hk]
      simp
    · rw [List.getElem?_eq_none (by simp; omega), List.getElem?_eq_none (by simp; omega)]
  · rw [List.getElem?_set_ne e, List.getElem?_map, List.getElem?_map]
    by_cases hj : j < n + 1
    · rw [List.getElem?_range hj]
      simp [show ¬ j = k from fun h => e h.symm]
    · rw [List.getElem?_eq_none (by simp; omega)]
      rfl
theorem rowF_zero (n : Nat) : List.replicate (n + 1) (Value.int .i64 0) = rowF n fun _ => 0 := by
  unfold rowF
  apply List.ext_getElem?
  intro j
  by_cases hj : j < n + 1
  · rw [List.getElem?_replicate, if_pos hj, List.getElem?_map, List.getElem?_range hj]
    rfl
  · rw [List.getElem?_eq_none (by simp; omega), List.getElem?_eq_none (by simp; omega)]
/-- A store into such a row. -/
theorem rowF_store {w : World} {b g n c k : Nat} {F : Nat → Int} {v : Int} (h : w.ownsRow b 3 1 (.slice (some ⟨g, 0, none⟩) (n + 1) c) (n + 1) (rowF n F)) : (w.setCell ⟨g, k, none⟩ (.int .i64 v)).ownsRow b 3 1 (.slice (some ⟨g, 0, none⟩) (n + 1) c) (n + 1) (rowF n fun q => if q = k then v else F q) := by
  have := own_put (j := k) (u := .int .i64 v) h
  rwa [rowF_put] at this
theorem levB_bound (a b : List Int) (i k : Nat) : levB a b i k ≤ max a.length b.length := by
  have := lev_max (a.take i).reverse (b.take k).reverse
  unfold levB
  rw [List.length_reverse, List.length_reverse, List.length_take, List.length_take] at this
  omega
set_option maxRecDepth 100000 in
set_option maxHeartbeats 8000000 in
theorem distance_any (w : World) (B : Nat) (hB : B ≤ w.heap.size) (A1 A2 : Option Addr) (m n c1 c2 : Nat) (a b : List Int) (h1 : Sl w B 1 A1 m (a.map (.int .i64))) (h2 : Sl w B 1 A2 n (b.map (.int .i64))) (hm : m ≤ 100) (hn : n ≤ 100) :
    Calls Tryd.prog 22 #[.slice A1 m c1, .slice A2 n c2] w fun e w' => e = .returned (.int .i64 ((lev a b : Nat) : Int)) ∧ Below w.heap.size w w' := by
  have HA : Hid (a.length = m) := by have := h1.1; show _ = _; simpa using this
  have HBL : Hid (b.length = n) := by have := h2.1; show _ = _; simpa using this
  have HS1 := Lib.hid h1
  have HS2 := Lib.hid h2
  have hmk := fun W => make_int (n + 1) (by omega) W
  have hcn : ((n + 1 : Nat) : Int) = (n : Int) + 1 := by omega
  rw [hcn] at hmk
  have ho0 := own_made w (.int .i64 0) (n + 1) (by omega) 3 (nb := w.heap.size) rfl (base := w.heap.size) (Nat.le_refl _)
  rw [rowF_zero] at ho0
  have HO0 := Lib.hid ho0
  have HB0 := Lib.hid (bnew (brefl w) (.cells (madeCells #[.int .i64 0] (n + 1)) 3))
  obtain ⟨G, hG⟩ : ∃ G, w.heap.size = G := ⟨_, rfl⟩
  have HG := Lib.hid hG
  have HBND : Hid (∀ i k, levB a b i k ≤ 100) := fun i k => by
    have := levB_bound a b i k
    rw [HA.out, HBL.out] at this
    omega
  rw [hG] at HO0
  clear h1 h2 ho0 hcn
  go_enter Tryd.func22, Tryd.ntmps22
  go_wp2_with fail
  generalize w.alloc (.cells (madeCells #[.int .i64 0] (n + 1)) 3) = W0 at *
  clear hmk hG
  go_loopw [17] (fun iv wr => ∃ (j : Nat) (F : Nat → Int), j ≤ n + 1 ∧ iv = .int .i64 (j : Int) ∧ Hid (wr.ownsRow G 3 1 (.slice (some ⟨G, 0, none⟩) (n + 1) (n + 1)) (n + 1) (rowF n F)) ∧ Hid (Below w.heap.size w wr) ∧ Hid (∀ q, q < j → F q = (q : Int))) (fun iv _ => n + 1 - (intOf iv).toNat)
  case atStart => exact ⟨0, _, Nat.zero_le _, rfl, HO0, HB0, fun q hq => absurd hq (Nat.not_lt_zero _)⟩
  case round =>
    obtain ⟨j, F, hj, rfl, HO, HB, HF⟩ := hrel
    clear HO0 HB0
    by_cases hjn : j < n + 1
    · have q1 : decide ((j : Int) < (n : Int) + 1) = true := decide_eq_true (by omega)
      have q2 : decide (j < n + 1) = true := decide_eq_true hjn
      obtain ⟨_, hgw, cs, hcs⟩ := own_blk HO.out
      have r0 := own_cell HO.out (rowF_at (k := j) (by omega))
      have f0 := free_at hcs j
      have HON := Lib.hid (rowF_store (k := j) (v := (j : Int)) HO.out)
      have HBN := Lib.hid (below_set (j := j) (u := .int .i64 (j : Int)) HB.out (by rw [HG.out]; exact Nat.le_refl G) (Nat.le_refl _))
      have HFN : Hid (∀ q, q < j + 1 → (if q = j then (j : Int) else F q) = (q : Int)) := fun q hq => by
        by_cases e : q = j
        · rw [if_pos e, e]
        · rw [if_neg e]; exact HF.out q (by omega)
      clear hcs HO HF
      go_wp2_with fail
      go_roundw
      case rel => exact ⟨j + 1, _, by omega, by go_num, HON, HBN, HFN⟩
      case measure => simp [intOf]; omega
    · obtain rfl : j = n + 1 := by omega
      have q1 : decide ((n : Int) + 1 < (n : Int) + 1) = false := decide_eq_false (by omega)
      have HF1 : Hid (∀ k, k ≤ n → F k = ((levB a b 0 k : Nat) : Int)) := fun k hk => by rw [HF.out k (by omega), levB_left a b k (by rw [HBL.out]; exact hk)]
      clear HF
      go_wp2_with fail
      go_loopw [27] (fun iv W => ∃ (i : Nat) (F : Nat → Int), i ≤ m ∧ iv = .int .i64 (i : Int) ∧ Hid (W.ownsRow G 3 1 (.slice (some ⟨G, 0, none⟩) (n + 1) (n + 1)) (n + 1) (rowF n F)) ∧ Hid (Below w.heap.size w W) ∧ Hid (∀ k, k ≤ n → F k = ((levB a b i k : Nat) : Int))) (fun iv _ => m - (intOf iv).toNat)
      case atStart => exact ⟨0, F, Nat.zero_le _, rfl, HO, HB, HF1⟩
      case round =>
        clear HO HB HF1 F
        obtain ⟨i, F, hi, rfl, HO, HB, HF⟩ := hrel
        by_cases him : i < m
        · have q3 : decide ((i : Int) < (m : Int)) = true := decide_eq_true (by omega)
          have q4 : decide (i < m) = true := decide_eq_true him
          obtain ⟨x, hx⟩ : ∃ x, a[i]? = some x := ⟨a[i]'(by rw [HA.out]; exact him), List.getElem?_eq_getElem _⟩
          have HX := Lib.hid hx
          obtain ⟨ba, oa, rfl, hba, hca⟩ := HS1.out.at_ him
          have HCA : Hid (∀ W, Below w.heap.size w W → W.cell? ⟨ba, oa + i, none⟩ = some (.int .i64 x) ∧ ba < W.heap.size) := fun W hW => ⟨(hW.cell (p := ⟨ba, oa + i, none⟩) (by show ba < _; omega)).trans (hca i (.int .i64 x) (by rw [List.getElem?_map, hx]; rfl)), Nat.lt_of_lt_of_le hba (Nat.le_trans hB hW.size)⟩
          obtain ⟨_, hgw, cs, hcs⟩ := own_blk HO.out
          have r0 := own_cell HO.out (rowF_at (k := 0) (Nat.zero_le _))
          have e0 : F 0 = (i : Int) := by rw [HF.out 0 (Nat.zero_le _), levB_top a b i (by rw [HA.out]; exact hi)]
          rw [e0] at r0
          have f0 := free_at hcs 0
          have HON := Lib.hid (rowF_store (k := 0) (v := (i : Int) + 1) HO.out)
          have HBN := Lib.hid (below_set (j := 0) (u := .int .i64 ((i : Int) + 1)) HB.out (by rw [HG.out]; exact Nat.le_refl G) (Nat.le_refl _))
          have HF2 : Hid (∀ q, q ≤ 0 → (if q = 0 then (i : Int) + 1 else F q) = ((levB a b (i + 1) q : Nat) : Int)) := fun q hq => by
            obtain rfl : q = 0 := by omega
            rw [if_pos rfl, levB_top a b (i + 1) (by rw [HA.out]; omega)]
            omega
          have HF3 : Hid (∀ q, 0 < q → q ≤ n → (if q = 0 then (i : Int) + 1 else F q) = ((levB a b i q : Nat) : Int)) := fun q h0 hq => by
            rw [if_neg (by omega)]
            exact HF.out q hq
          have el0 : ((levB a b i 0 : Nat) : Int) = (i : Int) := by rw [levB_top a b i (by rw [HA.out]; exact hi)]
          have HL0 := Lib.hid el0
          clear hcs HO HF e0 hca el0 hx
          go_wp2_with fail
          go_loopw [8, 39] (fun lv kv W => ∃ (k : Nat) (F : Nat → Int), k ≤ n ∧ kv = .int .i64 (k : Int) ∧ lv = .int .i64 ((levB a b i k : Nat) : Int) ∧ Hid (W.ownsRow G 3 1 (.slice (some ⟨G, 0, none⟩) (n + 1) (n + 1)) (n + 1) (rowF n F)) ∧ Hid (Below w.heap.size w W) ∧ Hid (∀ q, q ≤ k → F q = ((levB a b (i + 1) q : Nat) : Int)) ∧ Hid (∀ q, k < q → q ≤ n → F q = ((levB a b i q : Nat) : Int))) (fun _ kv _ => n - (intOf kv).toNat)
          case atStart => exact ⟨0, _, Nat.zero_le _, rfl, by rw [HL0.out], HON, HBN, HF2, HF3⟩
          case round =>
            clear HON HBN HF2 HF3 r0 f0 hgw F HL0
            obtain ⟨k, F, hk, rfl, rfl, HO, HB, HF2, HF3⟩ := hrel
            by_cases hkn : k < n
            · have q5 : decide ((k : Int) < (n : Int)) = true := decide_eq_true (by omega)
              have q6 : decide (k < n) = true := decide_eq_true hkn
              obtain ⟨y, hy⟩ : ∃ y, b[k]? = some y := ⟨b[k]'(by rw [HBL.out]; exact hkn), List.getElem?_eq_getElem _⟩
              obtain ⟨bb, ob, rfl, hbb, hcb⟩ := HS2.out.at_ hkn
              have hcy : wr.cell? ⟨bb, ob + k, none⟩ = some (.int .i64 y) := (HB.out.cell (p := ⟨bb, ob + k, none⟩) (by show bb < _; omega)).trans (hcb k (.int .i64 y) (by rw [List.getElem?_map, hy]; rfl))
              have hbw : bb < wr.heap.size := Nat.lt_of_lt_of_le hbb (Nat.le_trans hB HB.out.size)
              obtain ⟨hcx, haw⟩ := HCA.out wr HB.out
              have HST := Lib.hid (levB_step HX.out hy)
              have b1 := HBND.out i k
              have b2 := HBND.out i (k + 1)
              have b3 := HBND.out (i + 1) k
              obtain ⟨P1, hP1⟩ : ∃ z, levB a b i k = z := ⟨_, rfl⟩
              obtain ⟨P2, hP2⟩ : ∃ z, levB a b i (k + 1) = z := ⟨_, rfl⟩
              obtain ⟨P3, hP3⟩ : ∃ z, levB a b (i + 1) k = z := ⟨_, rfl⟩
              obtain ⟨_, hgw, cs, hcs⟩ := own_blk HO.out
              have r1 := own_cell HO.out (rowF_at (k := k) (by omega))
              have r2 := own_cell HO.out (rowF_at (k := k + 1) (by omega))
              rw [HF2.out k (Nat.le_refl _), hP3] at r1
              rw [HF3.out (k + 1) (by omega) (by omega), hP2] at r2
              have f1 := free_at hcs (k + 1)
              rw [hP1, hP2, hP3] at HST
              rw [hP1] at b1 ⊢
              rw [hP2] at b2
              rw [hP3] at b3
              have HP2 := Lib.hid hP2
              have HGO : Hid (∀ v : Int, v = ((levB a b (i + 1) (k + 1) : Nat) : Int) → Hid ((wr.setCell ⟨G, k + 1, none⟩ (.int .i64 v)).ownsRow G 3 1 (.slice (some ⟨G, 0, none⟩) (n + 1) (n + 1)) (n + 1) (rowF n fun q => if q = k + 1 then v else F q)) ∧ Hid (Below w.heap.size w (wr.setCell ⟨G, k + 1, none⟩ (.int .i64 v))) ∧ Hid (∀ q, q ≤ k + 1 → (if q = k + 1 then v else F q) = ((levB a b (i + 1) q : Nat) : Int)) ∧ Hid (∀ q, k + 1 < q → q ≤ n → (if q = k + 1 then v else F q) = ((levB a b i q : Nat) : Int))) := fun v hv => by
                refine ⟨rowF_store HO.out, below_set HB.out (by rw [HG.out]; exact Nat.le_refl G) (Nat.le_refl _), fun q hq => ?_, fun q h0 hq => ?_⟩
                · by_cases e : q = k + 1
                  · rw [if_pos e, e]; exact hv
                  · rw [if_neg e]; exact HF2.out q (by omega)
                · rw [if_neg (by omega)]
                  exact HF3.out q (by omega) hq
              clear hcs HO HF2 HF3 hcb hy hP1 hP2 hP3
              by_cases hxy : x = y
              · have hne : (x != y) = false := by simp [hxy]
                rw [if_pos hxy] at HST
                obtain ⟨v1, v2, v3, v4⟩ := HGO.out (if (P2 : Int) + 1 < (if (P3 : Int) + 1 < (P1 : Int) then (P3 : Int) + 1 else (P1 : Int)) then (P2 : Int) + 1 else (if (P3 : Int) + 1 < (P1 : Int) then (P3 : Int) + 1 else (P1 : Int))) (by
                  rw [HST.out]
                  split <;> split at * <;> omega)
                clear hxy HGO HST
                go_wp2_with fail
                go_region
                go_wp2_with fail
                go_roundw
                case rel => exact ⟨k + 1, _, by omega, by go_num, by rw [HP2.out], v1, v2.out.drew, v3, v4⟩
                case measure => simp [intOf]; omega
              · have hne : (x != y) = true := by rw [bne_iff_ne]; exact hxy
                rw [if_neg hxy] at HST
                obtain ⟨v1, v2, v3, v4⟩ := HGO.out (if (P2 : Int) + 1 < (if P3 < P1 then (P3 : Int) + 1 else (P1 : Int) + 1) then (P2 : Int) + 1 else (if P3 < P1 then (P3 : Int) + 1 else (P1 : Int) + 1)) (by
                  rw [HST.out]
                  split <;> split at * <;> omega)
                clear hxy HGO HST
                go_wp2_with fail
                go_region
                go_wp2_with fail
                go_roundw
                case rel => exact ⟨k + 1, _, by omega, by go_num, by rw [HP2.out], v1, v2.out.drew, v3, v4⟩
                case measure => simp [intOf]; omega
            · obtain rfl : k = n := by omega
              have q5 : decide ((k : Int) < (k : Int)) = false := decide_eq_false (by omega)
              have HFA : Hid (∀ q, q ≤ k → F q = ((levB a b (i + 1) q : Nat) : Int)) := HF2
              clear HF2 HF3
              go_wp2_with fail
              go_roundw
              case rel => exact ⟨i + 1, F, by omega, by go_num, HO, HB, HFA⟩
              case measure => simp [intOf]; omega
        · obtain rfl : i = m := by omega
          have q3 : decide ((i : Int) < (i : Int)) = false := decide_eq_false (by omega)
          have r0 := own_cell HO.out (rowF_at (k := n) (Nat.le_refl _))
          have e0 : F n = ((lev a b : Nat) : Int) := by rw [HF.out n (Nat.le_refl _), ← levB_all, HA.out, HBL.out]
          rw [e0] at r0
          obtain ⟨_, hgw, _⟩ := own_blk HO.out
          clear e0 HF HO
          go_wp2_with fail
          go_ret
          exact ⟨rfl, HB.out⟩
end Go.Proofs.YtclahhkcbkpofaaDoor
/- Chapter 11's awake. -/
namespace Go.Proofs.YtclahhkcbkpofaaDoor
open Go.RowKit
open Sp
set_option linter.unusedVariables false

theorem fox_fuzA : fuzA [102, 111, 120] 1 1 = leadsL foxL foxE := by
  show leadsL (fuzL 3 1 1 ((3 + 1) * (1 + 1))) (fuzE [102, 111, 120] 1 1 ((3 + 1) * (1 + 1))) = _
  rw [fox_L, fox_E]
theorem fox_lets : letsE (([102, 111, 120] : List Int).map foldI) [] = 0 := by decide
theorem fox_fold : ([102, 111, 120] : List Int).map foldI = [102, 111, 120] := by decide
theorem lev_12_2 : lev [1, 2] [2] = 1 := by simp [lev_cons, lev_nil, lev_nil2]
set_option maxRecDepth 100000 in
set_option maxHeartbeats 8000000 in
theorem fawake_any (w : World) (hT : Tab w) : Calls Tryd.prog 21 #[] w fun e w' => e = .returned (.bool true) ∧ Below w.heap.size w w' := by
  have HW := Lib.hid (fuzzy_any w [102, 111, 120] (by simp) hT [102, 111, 120] dec_word fox_lets [102, 111, 120] fox_fold 1 1 (by omega) (by simp) (fun g => by rw [fox_fuzA]; exact fox_sets g))
  clear hT
  go_enter Tryd.func21, Tryd.ntmps21
  go_wp2_with fail
  refine HW.out.mono ?_
  rintro e w1 ⟨hb1, A, c, hs, rfl, hst, _, _, hmq⟩
  have HB1 := Lib.hid hb1
  have HS1 := Lib.hid hst
  have HT1 := Lib.hid ((hmq [102, 97, 120]).trans ((congrArg (fun l => looseTakes l _) fox_fuzA).trans fox_fax))
  have HT2 := Lib.hid ((hmq [102, 111, 120, 121]).trans ((congrArg (fun l => looseTakes l _) fox_fuzA).trans fox_foxy))
  have HT3 := Lib.hid ((hmq [98, 111, 120]).trans ((congrArg (fun l => looseTakes l _) fox_fuzA).trans fox_box))
  clear hb1 hst hmq HW
  obtain ⟨nx, hnx⟩ : ∃ k, hs.length = k := ⟨_, rfl⟩
  rw [hnx] at HS1 ⊢
  clear hnx
  go_wp2_with fail
  refine (accepts_any w1 w1.heap.size (Nat.le_refl _) A nx c hs HS1.out [102, 97, 120] (by simp)).mono ?_
  rintro e w2 ⟨rfl, hb2⟩
  rw [HT1.out]
  have HS2 := Lib.hid (HS1.out.keep hb2 (Nat.le_refl _))
  have HB2 := Lib.hid (bcall HB1.out hb2)
  have hs2 := hb2.size
  clear hb2
  go_wp2_with fail
  refine (accepts_any w2 w1.heap.size hs2 A nx c hs HS2.out [102, 111, 120, 121] (by simp)).mono ?_
  rintro e w3 ⟨rfl, hb3⟩
  rw [HT2.out]
  have HS3 := Lib.hid (HS2.out.keep (hb3.mono hs2) (Nat.le_refl _))
  have HB3 := Lib.hid (bcall HB2.out hb3)
  have hs3 := hb3.size
  clear hb3
  go_wp2_with fail
  refine (accepts_any w3 w1.heap.size (by omega) A nx c hs HS3.out [98, 111, 120] (by simp)).mono ?_
  rintro e w4 ⟨rfl, hb4⟩
  rw [HT3.out]
  have HB4 := Lib.hid (bcall HB3.out hb4)
  clear hb4
  go_wp2_with fail
  have hl1 := Sl.of_own (own_new w4 #[.int .i64 1, .int .i64 2] 3 1 2 rfl (by unfold maxLen; omega) (nb := w4.heap.size) rfl (base := w4.heap.size) (Nat.le_refl _))
  obtain ⟨w5, hw5⟩ : ∃ W, w4.alloc (.cells #[.int .i64 1, .int .i64 2] 3) = W := ⟨_, rfl⟩
  have hz5 : w4.heap.size + 1 = w5.heap.size := by rw [← hw5]; simp
  have hb5 : Below w4.heap.size w4 w5 := by rw [← hw5]; exact bnew (brefl w4) _
  rw [hw5] at hl1 ⊢
  rw [hz5]
  have hl2 := Sl.of_own (own_new w5 #[.int .i64 2] 3 1 1 rfl (by unfold maxLen; omega) (nb := w5.heap.size) rfl (base := w5.heap.size) (Nat.le_refl _))
  have hb6 : Below w5.heap.size w5 (w5.alloc (.cells #[.int .i64 2] 3)) := bnew (brefl w5) _
  refine (distance_any (w5.alloc (.cells #[.int .i64 2] 3)) _ (Nat.le_refl _) _ _ 2 1 2 1 [1, 2] [2] ((hl1.below hb6).more hb6.size) hl2 (by omega) (by omega)).mono ?_
  rintro e w7 ⟨rfl, hb7⟩
  rw [lev_12_2]
  have HB7 := Lib.hid (bcall (bcall (bcall HB4.out hb5) hb6) hb7)
  clear hl1 hl2 hb5 hb6 hb7 hz5 hw5
  go_wp2_with fail
  go_ret
  exact ⟨rfl, HB7.out⟩
end Go.Proofs.YtclahhkcbkpofaaDoor
/- The reference's Distance: a table from the ends. -/
namespace Go.Proofs.YtclahhkcbkpofaaDoor
open Go.RowKit
set_option linter.unusedVariables false

/-- The row that the table's next one is made of. -/
def PrevR (W : World) (B m n s : Nat) (V : List Value) (gp : Nat) (a b : List Int) : Prop := s ≤ m → V[s]? = some (.slice (some ⟨gp, 0, none⟩) (n + 1) (n + 1)) ∧ ∃ F : Nat → Int, W.ownsRow B 3 1 (.slice (some ⟨gp, 0, none⟩) (n + 1) (n + 1)) (n + 1) (rowF n F) ∧ ∀ q, q ≤ n → F q = ((lev (a.drop s) (b.drop q) : Nat) : Int)
/-- The table, the row being made, the one it is made of. -/
structure TabR (w W : World) (m n i : Nat) (T g gp : Nat) (V : List Value) (F : Nat → Int) (a b : List Int) : Prop where
  tab : W.ownsRow w.heap.size 23 1 (.slice (some ⟨T, 0, none⟩) (m + 1) (m + 1)) (m + 1) V
  here : V[i]? = some (.slice (some ⟨g, 0, none⟩) (n + 1) (n + 1))
  row : W.ownsRow w.heap.size 3 1 (.slice (some ⟨g, 0, none⟩) (n + 1) (n + 1)) (n + 1) (rowF n F)
  prev : PrevR W w.heap.size m n (i + 1) V gp a b
  ne : gp < g
  bel : Below w.heap.size w W
theorem TabR.store {w W : World} {m n i T g gp k : Nat} {V : List Value} {F : Nat → Int} {a b : List Int} {v : Int} (h : TabR w W m n i T g gp V F a b) : TabR w (W.setCell ⟨g, k, none⟩ (.int .i64 v)) m n i T g gp V (fun q => if q = k then v else F q) a b := by
  obtain ⟨hg1, hg2, cs, hcs⟩ := own_blk h.row
  refine ⟨own_other h.tab hcs (by decide), h.here, rowF_store h.row, fun hs => ?_, h.ne, below_set h.bel hg1 (Nat.le_refl _)⟩
  obtain ⟨h1, F', h2, h3⟩ := h.prev hs
  refine ⟨h1, F', h2.kept (set_grown _ _ _) (.inr fun e => ?_), h3⟩
  injection e with e
  have := h.ne
  simp at e
  omega
theorem TabR.drew {w W : World} {m n i T g gp : Nat} {V : List Value} {F : Nat → Int} {a b : List Int} (h : TabR w W m n i T g gp V F a b) : TabR w W.drew m n i T g gp V F a b := ⟨h.tab, h.here, h.row, h.prev, h.ne, h.bel.drew⟩
theorem lev_bound (a b : List Int) (i k : Nat) : lev (a.drop i) (b.drop k) ≤ max a.length b.length := by
  have := lev_max (a.drop i) (b.drop k)
  rw [List.length_drop, List.length_drop] at this
  omega
theorem make_tab (n : Nat) (hn : n ≤ 1000) (w : World) : (Instr.makeSlice 70 (.int .i64 ((n : Int) + 1)) (.int .i64 ((n : Int) + 1))).run Tryd.prog w = .ok (.slice (some ⟨w.heap.size, 0, none⟩) (n + 1) (n + 1)) (w.alloc (.cells (madeCells #[.slice none 0 0] (n + 1)) 23)) := by
  have := make_ints (n + 1) (by omega) w
  rw [show ((n + 1 : Nat) : Int) = (n : Int) + 1 by omega] at this
  exact this
theorem make_row1 (n : Nat) (hn : n ≤ 1000) (w : World) : (Instr.makeSlice 23 (.int .i64 ((n : Int) + 1)) (.int .i64 ((n : Int) + 1))).run Tryd.prog w = .ok (.slice (some ⟨w.heap.size, 0, none⟩) (n + 1) (n + 1)) (w.alloc (.cells (madeCells #[.int .i64 0] (n + 1)) 3)) := by
  have := make_int (n + 1) (by omega) w
  rw [show ((n + 1 : Nat) : Int) = (n : Int) + 1 by omega] at this
  exact this
/-- A row more in the table. -/
theorem tab_new {w W : World} {m n i T gp : Nat} {V : List Value} {a b : List Int} (hT : W.ownsRow w.heap.size 23 1 (.slice (some ⟨T, 0, none⟩) (m + 1) (m + 1)) (m + 1) V) (hi : i ≤ m) (hn : n ≤ 1000) (hp : PrevR W w.heap.size m n (i + 1) V gp a b) (hg : gp < W.heap.size) (hb : Below w.heap.size w W) :
    TabR w ((W.setCell ⟨T, i, none⟩ (.slice (some ⟨W.heap.size, 0, none⟩) (n + 1) (n + 1))).alloc (.cells (madeCells #[.int .i64 0] (n + 1)) 3)) m n i T W.heap.size gp (V.set i (.slice (some ⟨W.heap.size, 0, none⟩) (n + 1) (n + 1))) (fun _ => 0) a b := by
  obtain ⟨hT1, hT2, cs, hcs⟩ := own_blk hT
  obtain ⟨W1, hW1⟩ : ∃ W1, W.setCell ⟨T, i, none⟩ (.slice (some ⟨W.heap.size, 0, none⟩) (n + 1) (n + 1)) = W1 := ⟨_, rfl⟩
  have hs1 : W1.heap.size = W.heap.size := by rw [← hW1]; simp [World.setCell]
  have hV : V.length = m + 1 := by have := hT.1; simpa using this
  have hp1 : W1.ownsRow w.heap.size 23 1 (.slice (some ⟨T, 0, none⟩) (m + 1) (m + 1)) (m + 1) (V.set i (.slice (some ⟨W.heap.size, 0, none⟩) (n + 1) (n + 1))) := by rw [← hW1]; exact own_put hT
  have hb1 : Below w.heap.size w W1 := by rw [← hW1]; exact below_set hb hT1 (Nat.le_refl _)
  rw [hW1]
  refine ⟨own_kept hp1 (bnew (brefl W1) _), by rw [List.getElem?_set_self (by omega)], ?_, fun hs => ?_, hg, bnew hb1 _⟩
  · have := own_made W1 (.int .i64 0) (n + 1) (by omega) 3 (nb := W.heap.size) hs1.symm (base := w.heap.size) hb1.size
    rw [rowF_zero] at this
    exact this
  · obtain ⟨h1, F', h2, h3⟩ := hp hs
    refine ⟨by rw [List.getElem?_set_ne (by omega)]; exact h1, F', ?_, h3⟩
    have h4 : W1.ownsRow w.heap.size 3 1 (.slice (some ⟨gp, 0, none⟩) (n + 1) (n + 1)) (n + 1) (rowF n F') := by rw [← hW1]; exact own_other h2 hcs (by decide)
    exact own_kept h4 (bnew (brefl W1) _)
set_option maxRecDepth 100000 in
set_option maxHeartbeats 8000000 in
theorem rdistance_any (w : World) (B : Nat) (hB : B ≤ w.heap.size) (A1 A2 : Option Addr) (m n c1 c2 : Nat) (a b : List Int) (h1 : Sl w B 1 A1 m (a.map (.int .i64))) (h2 : Sl w B 1 A2 n (b.map (.int .i64))) (hm : m ≤ 100) (hn : n ≤ 100) :
    Calls Tryd.prog 23 #[.slice A1 m c1, .slice A2 n c2] w fun e w' => e = .returned (.int .i64 ((lev a b : Nat) : Int)) ∧ Below w.heap.size w w' := by
  have HA : Hid (a.length = m) := by have := h1.1; show _ = _; simpa using this
  have HBL : Hid (b.length = n) := by have := h2.1; show _ = _; simpa using this
  have HS1 := Lib.hid h1
  have HS2 := Lib.hid h2
  have hmk := fun W => make_tab m (by omega) W
  have hmr := fun W => make_row1 n (by omega) W
  have ho0 := own_made w (.slice none 0 0) (m + 1) (by omega) 23 (nb := w.heap.size) rfl (base := w.heap.size) (Nat.le_refl _)
  have HO0 := Lib.hid ho0
  have HB0 := Lib.hid (bnew (brefl w) (.cells (madeCells #[.slice none 0 0] (m + 1)) 23))
  have HSZ : Hid (w.heap.size < (w.alloc (.cells (madeCells #[.slice none 0 0] (m + 1)) 23)).heap.size) := by show _ < _; simp
  have HBND : Hid (∀ i k, lev (a.drop i) (b.drop k) ≤ 100) := fun i k => by
    have := lev_bound a b i k
    rw [HA.out, HBL.out] at this
    omega
  obtain ⟨T, hT⟩ : ∃ T, T = w.heap.size := ⟨_, rfl⟩
  have HO1 : Hid ((w.alloc (.cells (madeCells #[.slice none 0 0] (m + 1)) 23)).ownsRow w.heap.size 23 1 (.slice (some ⟨T, 0, none⟩) (m + 1) (m + 1)) (m + 1) (List.replicate (m + 1) (.slice none 0 0))) := by rw [hT]; exact HO0.out
  have HTT := Lib.hid hT
  rw [← hT] at HSZ
  clear h1 h2 ho0 HO0
  go_enter Tryd.func23, Tryd.ntmps23
  go_wp2_with fail
  rw [← hT]
  clear hmk
  generalize w.alloc (.cells (madeCells #[.slice none 0 0] (m + 1)) 23) = W0 at *
  clear hT
  have HP1 : Hid (PrevR W0 w.heap.size m n (m + 1) (List.replicate (m + 1) (.slice none 0 0)) T a b) := fun hs => by omega
  have e0 : (m : Int) = ((m + 1 : Nat) : Int) - 1 := by omega
  go_loopw [6] (fun iv wr => ∃ (s gp : Nat) (V : List Value), s ≤ m + 1 ∧ iv = .int .i64 ((s : Int) - 1) ∧ Hid (wr.ownsRow w.heap.size 23 1 (.slice (some ⟨T, 0, none⟩) (m + 1) (m + 1)) (m + 1) V) ∧ Hid (PrevR wr w.heap.size m n s V gp a b) ∧ gp < wr.heap.size ∧ Hid (Below w.heap.size w wr)) (fun iv _ => ((intOf iv) + 1).toNat)
  case atStart => exact ⟨m + 1, T, _, Nat.le_refl _, by rw [e0], HO1, HP1, HSZ.out, HB0⟩
  case round =>
    clear HO1 HP1 HSZ HB0 e0
    obtain ⟨s, gp, V, hs, rfl, HO, HP, hgp, HB⟩ := hrel
    cases s with
    | zero =>
      have e1 : ((0 : Nat) : Int) - 1 = -1 := rfl
      rw [e1]
      have hl0 := HP.out (Nat.zero_le _)
      obtain ⟨hv0, F, hF1, hF2⟩ := hl0
      have r0 := own_cell HO.out hv0
      have r1 := own_cell hF1 (rowF_at (k := 0) (Nat.zero_le _))
      rw [hF2 0 (Nat.zero_le _), List.drop_zero, List.drop_zero] at r1
      obtain ⟨_, hTw, _⟩ := own_blk HO.out
      clear hv0 hF1 hF2 HO HP e1
      go_wp2_with fail
      go_ret
      exact ⟨rfl, HB.out⟩
    | succ i =>
      have e1 : ((i + 1 : Nat) : Int) - 1 = (i : Int) := by omega
      rw [e1]
      have him : i ≤ m := by omega
      have q1 : decide ((i : Int) ≥ 0) = true := decide_eq_true (by omega)
      obtain ⟨hT1, hTw, cs, hcs⟩ := own_blk HO.out
      have hVl : V.length = m + 1 := by have := HO.out.1; simpa using this
      obtain ⟨v0, hv0⟩ : ∃ v, V[i]? = some v := ⟨V[i]'(by omega), List.getElem?_eq_getElem _⟩
      have r0 := own_cell HO.out hv0
      have f0 := free_at hcs i
      obtain ⟨g, hg⟩ : ∃ g, g = wr.heap.size := ⟨_, rfl⟩
      have hTN := tab_new HO.out him (by omega) HP.out hgp HB.out
      obtain ⟨W1, hW1⟩ : ∃ W, (wr.setCell ⟨T, i, none⟩ (.slice (some ⟨wr.heap.size, 0, none⟩) (n + 1) (n + 1))).alloc (.cells (madeCells #[.int .i64 0] (n + 1)) 3) = W := ⟨_, rfl⟩
      rw [hW1] at hTN
      have HTN := Lib.hid hTN
      have hgW : g < W1.heap.size := by rw [hg, ← hW1]; simp [World.setCell]
      rw [← hg] at HTN
      obtain ⟨V1, hV1⟩ : ∃ V1, V.set i (.slice (some ⟨g, 0, none⟩) (n + 1) (n + 1)) = V1 := ⟨_, rfl⟩
      rw [hV1] at HTN
      clear hV1
      have HGP : Hid (gp < g) := by rw [hg]; exact hgp
      have HG := Lib.hid hg
      have HW1 := Lib.hid hW1
      clear hTN hcs hv0 hVl HO HP hg hW1
      go_wp2_with fail
      rw [HW1.out]
      clear r0 f0 hTw HW1 HB
      have e2 : (n : Int) = ((n + 1 : Nat) : Int) - 1 := by omega
      have HF0 : Hid (∀ q, n + 1 ≤ q → q ≤ n → (fun _ : Nat => (0 : Int)) q = ((lev (a.drop i) (b.drop q) : Nat) : Int)) := fun q h1 h2 => by omega
      go_loopw [7] (fun kv W => ∃ (u : Nat) (F : Nat → Int), u ≤ n + 1 ∧ kv = .int .i64 ((u : Int) - 1) ∧ Hid (TabR w W m n i T g gp V1 F a b) ∧ g < W.heap.size ∧ Hid (∀ q, u ≤ q → q ≤ n → F q = ((lev (a.drop i) (b.drop q) : Nat) : Int))) (fun kv _ => ((intOf kv) + 1).toNat)
      case atStart => exact ⟨n + 1, _, Nat.le_refl _, by rw [e2], HTN, hgW, HF0⟩
      case round =>
        clear HTN hgW HF0 e2
        obtain ⟨u, F, hu, rfl, HT, hgW, HF⟩ := hrel
        cases u with
        | zero =>
          have e3 : ((0 : Nat) : Int) - 1 = -1 := rfl
          rw [e3]
          have HPN : Hid (PrevR wr w.heap.size m n i V1 g a b) := fun _ => ⟨HT.out.here, F, HT.out.row, fun q hq => HF.out q (Nat.zero_le _) hq⟩
          have e4 : (i : Int) - 1 = (((i : Nat) : Int) - 1) := rfl
          have s4 : IntKind.i64.wrap ((i : Int) - 1) = (i : Int) - 1 := by rw [IntKind.wrap_i64]; omega
          clear e3
          go_wp2_with fail
          go_roundw
          case rel => exact ⟨i, g, V1, by omega, rfl, HT.out.tab, HPN, hgW, HT.out.bel⟩
          case measure => first | (simp [intOf]; done) | (simp [intOf]; omega)
        | succ k =>
          have e3 : ((k + 1 : Nat) : Int) - 1 = (k : Int) := by omega
          rw [e3]
          have hkn : k ≤ n := by omega
          have q2 : decide ((k : Int) ≥ 0) = true := decide_eq_true (by omega)
          have s4 : IntKind.i64.wrap ((k : Int) - 1) = (k : Int) - 1 := by rw [IntKind.wrap_i64]; omega
          obtain ⟨_, hTw, _⟩ := own_blk HT.out.tab
          have t0 := own_cell HT.out.tab HT.out.here
          obtain ⟨_, _, cs, hcs⟩ := own_blk HT.out.row
          have f0 := free_at hcs k
          have g0 := own_cell HT.out.row (rowF_at hkn)
          have HNX : Hid (∀ v : Int, v = ((lev (a.drop i) (b.drop k) : Nat) : Int) → Hid (TabR w (wr.setCell ⟨g, k, none⟩ (.int .i64 v)) m n i T g gp V1 (fun q => if q = k then v else F q) a b) ∧ g < (wr.setCell ⟨g, k, none⟩ (.int .i64 v)).heap.size ∧ Hid (∀ q, k ≤ q → q ≤ n → (if q = k then v else F q) = ((lev (a.drop i) (b.drop q) : Nat) : Int))) := fun v hv => by
            refine ⟨HT.out.store, by simpa [World.setCell] using hgW, fun q h1 h2 => ?_⟩
            by_cases e : q = k
            · rw [if_pos e, e]; exact hv
            · rw [if_neg e]; exact HF.out q (by omega) h2
          clear hcs e3
          by_cases hend : i = m ∨ k = n
          · have hval : Hid ((m : Int) - (i : Int) + (n : Int) - (k : Int) = ((lev (a.drop i) (b.drop k) : Nat) : Int)) := by
              show _ = _
              rcases hend with h | h
              · subst h
                rw [List.drop_of_length_le (by rw [HA.out]; exact Nat.le_refl _), lev_nil, List.length_drop, HBL.out]
                omega
              · subst h
                rw [List.drop_of_length_le (l := b) (by rw [HBL.out]; exact Nat.le_refl _), lev_nil2, List.length_drop, HA.out]
                omega
            have s1 : IntKind.i64.wrap ((m : Int) - (i : Int)) = (m : Int) - (i : Int) := by rw [IntKind.wrap_i64]; omega
            have s2 : IntKind.i64.wrap ((m : Int) - (i : Int) + (n : Int)) = (m : Int) - (i : Int) + (n : Int) := by rw [IntKind.wrap_i64]; omega
            have s3 : IntKind.i64.wrap ((m : Int) - (i : Int) + (n : Int) - (k : Int)) = (m : Int) - (i : Int) + (n : Int) - (k : Int) := by rw [IntKind.wrap_i64]; omega
            obtain ⟨v1, v2, v3⟩ := HNX.out _ hval.out
            clear HNX HT HF hval
            by_cases h : i = m
            · have p1 : ((i : Int) == (m : Int)) = true := by rw [beq_iff_eq, h]
              have p2 : (i == m) = true := by rw [beq_iff_eq]; exact h
              clear h hend
              go_wp2_with fail
              go_roundw
              case rel => exact ⟨k, _, by omega, rfl, v1, v2, v3⟩
              case measure => first | (simp [intOf]; done) | (simp [intOf]; omega)
            · have h2 : k = n := hend.resolve_left h
              have p1 : ((i : Int) == (m : Int)) = false := by rw [beq_eq_false_iff_ne]; omega
              have p2 : (i == m) = false := by rw [beq_eq_false_iff_ne]; exact h
              have p3 : ((k : Int) == (n : Int)) = true := by rw [beq_iff_eq, h2]
              have p4 : (k == n) = true := by rw [beq_iff_eq]; exact h2
              clear h hend h2
              go_wp2_with fail
              go_roundw
              case rel => exact ⟨k, _, by omega, rfl, v1, v2, v3⟩
              case measure => first | (simp [intOf]; done) | (simp [intOf]; omega)
          · have hi2 : i < m := by omega
            have hk2 : k < n := by omega
            have p1 : ((i : Int) == (m : Int)) = false := by rw [beq_eq_false_iff_ne]; omega
            have p2 : (i == m) = false := by rw [beq_eq_false_iff_ne]; omega
            have p3 : ((k : Int) == (n : Int)) = false := by rw [beq_eq_false_iff_ne]; omega
            have p4 : (k == n) = false := by rw [beq_eq_false_iff_ne]; omega
            obtain ⟨x, hx⟩ : ∃ x, a[i]? = some x := ⟨a[i]'(by rw [HA.out]; exact hi2), List.getElem?_eq_getElem _⟩
            obtain ⟨y, hy⟩ : ∃ y, b[k]? = some y := ⟨b[k]'(by rw [HBL.out]; exact hk2), List.getElem?_eq_getElem _⟩
            obtain ⟨ba, oa, rfl, hba, hca⟩ := HS1.out.at_ hi2
            obtain ⟨bb, ob, rfl, hbb, hcb⟩ := HS2.out.at_ hk2
            have hcx : wr.cell? ⟨ba, oa + i, none⟩ = some (.int .i64 x) := (HT.out.bel.cell (p := ⟨ba, oa + i, none⟩) (by show ba < _; omega)).trans (hca i (.int .i64 x) (by rw [List.getElem?_map, hx]; rfl))
            have hcy : wr.cell? ⟨bb, ob + k, none⟩ = some (.int .i64 y) := (HT.out.bel.cell (p := ⟨bb, ob + k, none⟩) (by show bb < _; omega)).trans (hcb k (.int .i64 y) (by rw [List.getElem?_map, hy]; rfl))
            have hbw : ba < wr.heap.size := Nat.lt_of_lt_of_le hba (Nat.le_trans hB HT.out.bel.size)
            have hbw2 : bb < wr.heap.size := Nat.lt_of_lt_of_le hbb (Nat.le_trans hB HT.out.bel.size)
            obtain ⟨hvp, Fp, hFp, hFq⟩ := HT.out.prev (by omega)
            have t1 := own_cell HT.out.tab hvp
            have u0 := own_cell hFp (rowF_at hkn)
            have u1 := own_cell hFp (rowF_at (k := k + 1) (by omega))
            have u2 := own_cell HT.out.row (rowF_at (k := k + 1) (by omega))
            have hgpw := (own_blk hFp).2.1
            have HST := Lib.hid (lev_drop hx hy)
            have b1 := HBND.out (i + 1) (k + 1)
            have b2 := HBND.out (i + 1) k
            have b3 := HBND.out i (k + 1)
            rw [hFq k hkn] at u0
            rw [hFq (k + 1) (by omega)] at u1
            rw [HF.out (k + 1) (by omega) (by omega)] at u2
            obtain ⟨P1, hP1⟩ : ∃ z, lev (a.drop (i + 1)) (b.drop (k + 1)) = z := ⟨_, rfl⟩
            obtain ⟨P2, hP2⟩ : ∃ z, lev (a.drop (i + 1)) (b.drop k) = z := ⟨_, rfl⟩
            obtain ⟨P3, hP3⟩ : ∃ z, lev (a.drop i) (b.drop (k + 1)) = z := ⟨_, rfl⟩
            rw [hP1] at u1 b1 HST
            rw [hP2] at u0 b2 HST
            rw [hP3] at u2 b3 HST
            clear hFp hFq hvp hca hcb hx hy hP1 hP2 hP3 hend HF
            obtain ⟨D, hD⟩ : ∃ D, P1 + (if x = y then 0 else 1) = D := ⟨_, rfl⟩
            rw [hD] at HST
            have hDb : D ≤ 101 := by rw [← hD]; split <;> omega
            have hcmp : (x = y ∧ (x != y) = false ∧ P1 = D) ∨ (x ≠ y ∧ (x != y) = true ∧ P1 + 1 = D) := by
              by_cases e : x = y
              · rw [if_pos e] at hD
                exact .inl ⟨e, by simp [e], hD⟩
              · rw [if_neg e] at hD
                exact .inr ⟨e, by rw [bne_iff_ne]; exact e, hD⟩
            rcases hcmp with ⟨_, hne, hd⟩ | ⟨_, hne, hd⟩
            · subst hd
              by_cases k1 : P2 + 1 < P1
              · have c1 : decide ((P2 : Int) + 1 < (P1 : Int)) = true := decide_eq_true (by omega)
                by_cases k2 : P3 + 1 < P2 + 1
                · have c2 : decide ((P3 : Int) + 1 < (P2 : Int) + 1) = true := decide_eq_true (by omega)
                  have c3 : decide (P3 < P2) = true := decide_eq_true (by omega)
                  obtain ⟨v1, v2, v3⟩ := HNX.out ((P3 : Int) + 1) (by rw [HST.out]; omega)
                  clear HNX HT HST hD
                  go_wp2_with fail
                  go_region
                  go_wp2_with fail
                  go_roundw
                  case rel => exact ⟨k, _, by omega, rfl, Lib.hid v1.out.drew, v2, v3⟩
                  case measure => first | (simp [intOf]; done) | (simp [intOf]; omega)
                · have c2 : decide ((P3 : Int) + 1 < (P2 : Int) + 1) = false := decide_eq_false (by omega)
                  have c3 : decide (P3 < P2) = false := decide_eq_false (by omega)
                  obtain ⟨v1, v2, v3⟩ := HNX.out ((P2 : Int) + 1) (by rw [HST.out]; omega)
                  clear HNX HT HST hD
                  go_wp2_with fail
                  go_region
                  go_wp2_with fail
                  go_roundw
                  case rel => exact ⟨k, _, by omega, rfl, Lib.hid v1.out.drew, v2, v3⟩
                  case measure => first | (simp [intOf]; done) | (simp [intOf]; omega)
              · have c1 : decide ((P2 : Int) + 1 < (P1 : Int)) = false := decide_eq_false (by omega)
                by_cases k2 : P3 + 1 < P1
                · have c2 : decide ((P3 : Int) + 1 < (P1 : Int)) = true := decide_eq_true (by omega)
                  obtain ⟨v1, v2, v3⟩ := HNX.out ((P3 : Int) + 1) (by rw [HST.out]; omega)
                  clear HNX HT HST hD
                  go_wp2_with fail
                  go_region
                  go_wp2_with fail
                  go_roundw
                  case rel => exact ⟨k, _, by omega, rfl, Lib.hid v1.out.drew, v2, v3⟩
                  case measure => first | (simp [intOf]; done) | (simp [intOf]; omega)
                · have c2 : decide ((P3 : Int) + 1 < (P1 : Int)) = false := decide_eq_false (by omega)
                  obtain ⟨v1, v2, v3⟩ := HNX.out ((P1 : Int)) (by rw [HST.out]; omega)
                  clear HNX HT HST hD
                  go_wp2_with fail
                  go_region
                  go_wp2_with fail
                  go_roundw
                  case rel => exact ⟨k, _, by omega, rfl, Lib.hid v1.out.drew, v2, v3⟩
                  case measure => first | (simp [intOf]; done) | (simp [intOf]; omega)
            · subst hd
              by_cases k1 : P2 + 1 < P1 + 1
              · have c9 : decide (P2 < P1) = true := decide_eq_true (by omega)
                have c1 : decide ((P2 : Int) + 1 < ((P1 : Int) + 1)) = true := decide_eq_true (by omega)
                by_cases k2 : P3 + 1 < P2 + 1
                · have c2 : decide ((P3 : Int) + 1 < (P2 : Int) + 1) = true := decide_eq_true (by omega)
                  have c3 : decide (P3 < P2) = true := decide_eq_true (by omega)
                  obtain ⟨v1, v2, v3⟩ := HNX.out ((P3 : Int) + 1) (by rw [HST.out]; omega)
                  clear HNX HT HST hD
                  go_wp2_with fail
                  go_region
                  go_wp2_with fail
                  go_roundw
                  case rel => exact ⟨k, _, by omega, rfl, Lib.hid v1.out.drew, v2, v3⟩
                  case measure => first | (simp [intOf]; done) | (simp [intOf]; omega)
                · have c2 : decide ((P3 : Int) + 1 < (P2 : Int) + 1) = false := decide_eq_false (by omega)
                  have c3 : decide (P3 < P2) = false := decide_eq_false (by omega)
                  obtain ⟨v1, v2, v3⟩ := HNX.out ((P2 : Int) + 1) (by rw [HST.out]; omega)
                  clear HNX HT HST hD
                  go_wp2_with fail
                  go_region
                  go_wp2_with fail
                  go_roundw
                  case rel => exact ⟨k, _, by omega, rfl, Lib.hid v1.out.drew, v2, v3⟩
                  case measure => first | (simp [intOf]; done) | (simp [intOf]; omega)
              · have c9 : decide (P2 < P1) = false := decide_eq_false (by omega)
                have c1 : decide ((P2 : Int) + 1 < ((P1 : Int) + 1)) = false := decide_eq_false (by omega)
                by_cases k2 : P3 + 1 < P1 + 1
                · have c8 : decide (P3 < P1) = true := decide_eq_true (by omega)
                  have c2 : decide ((P3 : Int) + 1 < ((P1 : Int) + 1)) = true := decide_eq_true (by omega)
                  obtain ⟨v1, v2, v3⟩ := HNX.out ((P3 : Int) + 1) (by rw [HST.out]; omega)
                  clear HNX HT HST hD
                  go_wp2_with fail
                  go_region
                  go_wp2_with fail
                  go_roundw
                  case rel => exact ⟨k, _, by omega, rfl, Lib.hid v1.out.drew, v2, v3⟩
                  case measure => first | (simp [intOf]; done) | (simp [intOf]; omega)
                · have c8 : decide (P3 < P1) = false := decide_eq_false (by omega)
                  have c2 : decide ((P3 : Int) + 1 < ((P1 : Int) + 1)) = false := decide_eq_false (by omega)
                  obtain ⟨v1, v2, v3⟩ := HNX.out (((P1 : Int) + 1)) (by rw [HST.out]; omega)
                  clear HNX HT HST hD
                  go_wp2_with fail
                  go_region
                  go_wp2_with fail
                  go_roundw
                  case rel => exact ⟨k, _, by omega, rfl, Lib.hid v1.out.drew, v2, v3⟩
                  case measure => first | (simp [intOf]; done) | (simp [intOf]; omega)
end Go.Proofs.YtclahhkcbkpofaaDoor
/- Arguments of any depth (numbers, bools, strings, structs, slices): what a value reads as, once for all types. -/
namespace Go.Proofs.YtclahhkcbkpofaaDoor
open Go.RowKit Go.ChangeShapes Go.WideShapes Go.Deep

/-- A shape: a number, a bool, a string, a slice (its element's shape and bytes), a struct as a list of fields. -/
inductive Ty where
  | int (k : IntKind)
  | bool
  | str
  | slice (e : Ty) (bytes : Nat)
  | nil
  | cons (f r : Ty)
def Ty.size : Ty → Nat
  | .nil => 0
  | .cons f r => f.size + r.size
  | _ => 1
structure SlH where
  A : Option Addr
  n : Nat
  c : Nat
def Ty.den : Ty → Type
  | .int _ => Int
  | .bool => Bool
  | .str => ByteArray
  | .slice e _ => SlH × (Nat → e.den)
  | .nil => Unit
  | .cons f r => f.den × r.den
theorem Ty.inh : (t : Ty) → Nonempty t.den
  | .int _ => ⟨(0 : Int)⟩
  | .bool => ⟨false⟩
  | .str => ⟨ByteArray.empty⟩
  | .slice e _ => by
    obtain ⟨x⟩ := Ty.inh e
    exact ⟨(⟨none, 0, 0⟩, fun _ => x)⟩
  | .nil => ⟨()⟩
  | .cons f r => by
    obtain ⟨x⟩ := Ty.inh f
    obtain ⟨y⟩ := Ty.inh r
    exact ⟨(x, y)⟩
def SlH.ok (s : SlH) (bytes : Nat) : Prop := s.n ≤ s.c ∧ s.c ≤ maxLen ∧ s.n * bytes ≤ reachBytes ∧ (s.A = none → s.c = 0)
/-- The cells cs read as d. -/
def Reads (w : World) (B : Nat) : (t : Ty) → t.den → List Value → Prop
  | .int k, d, cs => ∃ z : Int, d = z ∧ cs = [.int k z] ∧ (Lit.int k z).wf = true
  | .bool, d, cs => ∃ b : Bool, d = b ∧ cs = [.bool b]
  | .str, d, cs => ∃ s : ByteArray, d = s ∧ cs = [.string s] ∧ s.size ≤ maxLen ∧ s.size ≤ reachBytes
  | .slice e bytes, d, cs => cs = [.slice d.1.A d.1.n d.1.c] ∧ d.1.ok bytes ∧ (0 < d.1.n → ∃ b off, d.1.A = some ⟨b, off, none⟩ ∧ b < B ∧
      ∀ i, i < d.1.n → ∃ cl : List Value, cl.length = e.size ∧ (∀ j u, cl[j]? = some u → w.cell? ⟨b, off + (i * e.size + j), none⟩ = some u) ∧ Reads w B e (d.2 i) cl)
  | .nil, _, cs => cs = []
  | .cons f r, d, cs => ∃ c1 c2, cs = c1 ++ c2 ∧ c1.length = f.size ∧ Reads w B f d.1 c1 ∧ Reads w B r d.2 c2

theorem Reads.keep {w w' : World} {B B' : Nat} (hB : B ≤ B') (hk : ∀ b o, b < B → w'.cell? ⟨b, o, none⟩ = w.cell? ⟨b, o, none⟩) : ∀ {t : Ty} {d : t.den} {cs : List Value}, Reads w B t d cs → Reads w' B' t d cs
  | .int _, _, _, h => h
  | .bool, _, _, h => h
  | .str, _, _, h => h
  | .slice e bytes, d, cs, h => by
    obtain ⟨h1, h2, h3⟩ := h
    refine ⟨h1, h2, fun hn => ?_⟩
    obtain ⟨b, off, hA, hb, hi⟩ := h3 hn
    refine ⟨b, off, hA, by omega, fun i hin => ?_⟩
    obtain ⟨cl, hl, hc, hr⟩ := hi i hin
    exact ⟨cl, hl, fun j u hu => (hk _ _ hb).trans (hc j u hu), Reads.keep hB hk hr⟩
  | .nil, _, _, h => h
  | .cons f r, d, cs, h => by
    obtain ⟨c1, c2, h1, h2, h3, h4⟩ := h
    exact ⟨c1, c2, h1, h2, Reads.keep hB hk h3, Reads.keep hB hk h4⟩
theorem Reads.below {w w' : World} {t : Ty} {d : t.den} {cs : List Value} (h : Reads w w.heap.size t d cs) (hb : Below w.heap.size w w') : Reads w' w'.heap.size t d cs :=
  h.keep hb.size fun b o hl => hb.cell (p := ⟨b, o, none⟩) hl
theorem Reads.len {w : World} {B : Nat} : ∀ {t : Ty} {d : t.den} {cs : List Value}, Reads w B t d cs → cs.length = t.size
  | .int _, _, _, ⟨_, _, h, _⟩ => by rw [h]; rfl
  | .bool, _, _, ⟨_, _, h⟩ => by rw [h]; rfl
  | .str, _, _, ⟨_, _, h, _⟩ => by rw [h]; rfl
  | .slice _ _, _, _, ⟨h, _⟩ => by rw [h]; rfl
  | .nil, _, _, h => by rw [show _ = [] from h]; rfl
  | .cons f r, d, cs, ⟨c1, c2, h, hl, _, h2⟩ => by
    have := Reads.len h2
    rw [h, List.length_append, hl, this]
    rfl

/-- The cells of what is read. -/
def Ty.cells : (t : Ty) → t.den → List Value
  | .int k, d => [.int k d]
  | .bool, d => [.bool d]
  | .str, d => [.string d]
  | .slice _ _, d => [.slice d.1.A d.1.n d.1.c]
  | .nil, _ => []
  | .cons f r, d => f.cells d.1 ++ r.cells d.2
theorem Reads.cells {w : World} {B : Nat} : ∀ {t : Ty} {d : t.den} {cs : List Value}, Reads w B t d cs → cs = t.cells d
  | .int _, _, _, ⟨_, h, e, _⟩ => by rw [e, h]; rfl
  | .bool, _, _, ⟨_, h, e⟩ => by rw [e, h]; rfl
  | .str, _, _, ⟨_, h, e, _⟩ => by rw [e, h]; rfl
  | .slice _ _, _, _, ⟨h, _⟩ => h
  | .nil, _, _, h => h
  | .cons f r, d, cs, ⟨c1, c2, h, _, h1, h2⟩ => by rw [h, Reads.cells h1, Reads.cells h2]; rfl
theorem Reads.sl {w : World} {B bytes : Nat} {e : Ty} {A : Option Addr} {n c : Nat} {x : Nat → e.den} {cs : List Value} (h : Reads w B (.slice e bytes) (⟨A, n, c⟩, x) cs) (hl : ∀ d : e.den, (e.cells d).length = e.size) :
    Sl w B e.size A n ((List.range n).flatMap fun i => e.cells (x i)) := by
  obtain ⟨_, _, h3⟩ := h
  refine ⟨by rw [flat_length _ e.size (fun i => hl (x i)), List.length_range], fun hn => ?_⟩
  obtain ⟨b, off, hA, hb, hi⟩ := h3 hn
  refine ⟨b, off, hA, hb, fun j u hu => ?_⟩
  have hjl : j < n * e.size := by
    have := (List.getElem?_eq_some_iff.1 hu).1
    rw [flat_length _ e.size (fun i => hl (x i)), List.length_range] at this
    exact this
  have hs : 0 < e.size := by
    rcases Nat.eq_zero_or_pos e.size with h0 | h0
    · rw [h0, Nat.mul_zero] at hjl; omega
    · exact h0
  have hq : j / e.size < n := Nat.div_lt_of_lt_mul (by rw [Nat.mul_comm]; exact hjl)
  have hr : j % e.size < e.size := Nat.mod_lt _ hs
  have hj : j / e.size * e.size + j % e.size = j := by rw [Nat.mul_comm]; exact Nat.div_add_mod j e.size
  obtain ⟨cl, _, hc, hrd⟩ := hi (j / e.size) hq
  rw [← hj] at hu ⊢
  rw [flat_at _ e.size (fun i => hl (x i)) (List.range n) (j / e.size) (j % e.size) (j / e.size) (by simp [hq]) hr] at hu
  refine hc (j % e.size) u ?_
  rw [hrd.cells]
  exact hu
theorem Reads.elem {w : World} {B bytes : Nat} {e : Ty} {A : Option Addr} {n c : Nat} {x : Nat → e.den} {cs : List Value} (h : Reads w B (.slice e bytes) (⟨A, n, c⟩, x) cs) {i : Nat} (hi : i < n) : ∃ cl, Reads w B e (x i) cl := by
  obtain ⟨_, _, h3⟩ := h
  obtain ⟨_, _, _, _, hh⟩ := h3 (show 0 < n by omega)
  obtain ⟨cl, _, _, hr⟩ := hh i hi
  exact ⟨cl, hr⟩

def tyFields (P : Program) (g : TypeId → Option Ty) : List Field → Nat → Option Ty
  | [], _ => some .nil
  | f :: fs, o => if f.offset = o then
      match g f.type with
      | some τ => if P.cellsOf f.type = τ.size then (tyFields P g fs (o + τ.size)).map (.cons τ) else none
      | none => none
    else none
def tyOf (P : Program) : Nat → TypeId → Option Ty
  | 0, _ => none
  | k + 1, t => match P.underlying t with
    | some (.int k) => some (.int k)
    | some .bool => some .bool
    | some .string => some .str
    | some (.slice e) => match tyOf P k e with
      | some τ => if P.cellsOf e = τ.size ∧ 0 < τ.size then some (.slice τ (P.bytesOf e)) else none
      | none => none
    | some (.struct fs) => match tyFields P (tyOf P k) fs.toList 0 with
      | some τ => if P.cellsOf t = τ.size then some τ else none
      | none => none
    | _ => none

section
variable {H : Type} {enc : TypeId × Value → H} {P : Program} {w : World} {base : Nat} {spare : Nat → Bool} {held : Bool}
def Small (P : Program) (t : TypeId) (d : DataW H) : Prop := ∀ n ∈ d.weights P t, n ≤ reachBytes
theorem weights_mem_all {e : TypeId} : ∀ {ds : List (DataW H)} {d : DataW H}, d ∈ ds → ∀ n ∈ d.weights P e, n ∈ DataW.weightsAll P e ds
  | x :: ds, d, hd, n, hn => by
    rw [DataW.weightsAll, List.mem_append]
    rcases List.mem_cons.1 hd with rfl | h
    · exact .inl hn
    · exact .inr (weights_mem_all h n hn)
theorem reads_fields {k n : Nat} (ih : ∀ (t : TypeId) (τ : Ty), tyOf P k t = some τ → ∀ (fuel : Nat) (cs : List Value) (x : DataW H × List MemPlace), DataW.trod enc P w base spare held fuel t cs = some x → Small P t x.1 → ∃ d : τ.den, Reads w w.heap.size τ d cs) (cs : List Value) :
    ∀ (fs : List Field) (o : Nat) (τ : Ty), tyFields P (tyOf P k) fs o = some τ → cs.length = o + τ.size →
      (∀ f ∈ fs, ∃ y : DataW H × List MemPlace, DataW.trod enc P w base spare held n f.type ((cs.drop f.offset).take (P.cellsOf f.type)) = some y ∧ Small P f.type y.1) → ∃ d : τ.den, Reads w w.heap.size τ d (cs.drop o)
  | [], o, τ, h, hl, _ => by
    rw [tyFields] at h
    injection h with h
    subst h
    exact ⟨(), List.drop_eq_nil_of_le (by rw [hl]; exact Nat.le_refl _)⟩
  | f :: fs, o, τ, h, hl, hf => by
    rw [tyFields] at h
    split at h
    · rename_i ho
      split at h
      · rename_i τ0 h0
        split at h
        · rename_i hc
          cases hr : tyFields P (tyOf P k) fs (o + τ0.size) with
          | none => rw [hr] at h; cases h
          | some τ1 =>
            rw [hr] at h
            injection h with h
            subst h
            have hl' : cs.length = o + τ0.size + τ1.size := by rw [hl]; show o + (τ0.size + τ1.size) = _; omega
            obtain ⟨y, hy, hs⟩ := hf f (List.mem_cons_self ..)
            obtain ⟨d0, r0⟩ := ih f.type τ0 h0 n _ y hy hs
            obtain ⟨d1, r1⟩ := reads_fields ih cs fs (o + τ0.size) τ1 hr hl' (fun g hg => hf g (List.mem_cons_of_mem _ hg))
            rw [hc, ho] at r0
            refine ⟨(d0, d1), (cs.drop o).take τ0.size, cs.drop (o + τ0.size), ?_, ?_, r0, r1⟩
            · rw [← List.drop_drop, List.take_append_drop]
            · rw [List.length_take, List.length_drop]; omega
        · cases h
      · cases h
    · cases h
theorem reads_of : ∀ (k : Nat) (t : TypeId) (τ : Ty), tyOf P k t = some τ → ∀ (fuel : Nat) (cs : List Value) (x : DataW H × List MemPlace), DataW.trod enc P w base spare held fuel t cs = some x → Small P t x.1 → ∃ d : τ.den, Reads w w.heap.size τ d cs
  | 0, t, τ, h, _, _, _, _, _ => by rw [tyOf] at h; cases h
  | k + 1, t, τ, h, fuel, cs, x, hx, hs => by
    have ih := reads_of k
    rw [tyOf] at h
    split at h
    · rename_i kk hu
      injection h with h
      subst h
      obtain ⟨z, e, _, wz⟩ := DataW.trod_int hu hx
      exact ⟨z, z, rfl, e, wz⟩
    · rename_i hu
      injection h with h
      subst h
      obtain ⟨b, e, _⟩ := DataW.trod_bool hu hx
      exact ⟨b, b, rfl, e⟩
    · rename_i hu
      injection h with h
      subst h
      obtain ⟨s, e, ex, hm⟩ := DataW.trod_string hu hx
      subst ex
      refine ⟨s, s, rfl, e, hm, ?_⟩
      have := hs s.data.toList.length (by simp [DataW.weights])
      simpa using this
    · rename_i e hu
      split at h
      · rename_i τ0 h0
        split at h
        · rename_i hc
          obtain ⟨hc, hp⟩ := hc
          injection h with h
          subst h
          rcases open_slice hu hx with ⟨hcs, _⟩ | ⟨a, len, cap, mm, nn, D, Pl, hcs, _, hlc, hcm, hmm, ex, hi⟩
          · obtain ⟨x0⟩ := Ty.inh τ0
            exact ⟨(⟨none, 0, 0⟩, fun _ => x0), hcs, ⟨Nat.le_refl _, Nat.zero_le _, by rw [Nat.zero_mul]; exact Nat.zero_le _, fun _ => rfl⟩, fun h => absurd h (Nat.lt_irrefl _)⟩
          · have hle : len ≤ mm := by rw [hmm]; split <;> omega
            subst ex
            have hsl : Small P t (DataW.slice ((List.range len).map D) ((List.range (mm - len)).map fun j => D (len + j))) := hs
            have hbytes : len * P.bytesOf e ≤ reachBytes := by
              have := hsl ((((List.range len).map D).length + ((List.range (mm - len)).map fun j => D (len + j)).length) * P.bytesOf e) (by simp [DataW.weights, hu])
              refine Nat.le_trans (Nat.mul_le_mul_right _ ?_) this
              simp
            have row : ∀ i, i < len → ∃ d : τ0.den, ∃ cl : List Value, cl.length = τ0.size ∧ (∀ j u, cl[j]? = some u → w.cell? ((a.add (i * τ0.size)).add j) = some u) ∧ Reads w w.heap.size τ0 d cl := by
              intro i hin
              obtain ⟨cs', hcs', htr⟩ := hi i (by omega)
              rw [hc] at hcs'
              obtain ⟨_, hcl, hat⟩ := World.cells?_some hcs'
              obtain ⟨d, hd⟩ := ih e τ0 h0 nn cs' _ htr (fun n hn => hsl n (by
                rw [DataW.weights, hu]
                simp only [List.mem_cons, List.mem_append]
                exact .inr (.inl (weights_mem_all (List.mem_map.2 ⟨i, List.mem_range.2 hin, rfl⟩) n hn))))
              refine ⟨d, cs', hd.len, fun j u hu => ?_, hd⟩
              have hj : j < τ0.size := by have := (List.getElem?_eq_some_iff.1 hu).1; have := hd.len; omega
              rw [hat j hj, hu]
            haveI : Inhabited τ0.den := ⟨Classical.choice (Ty.inh τ0)⟩
            obtain ⟨g, hg⟩ := choose_lt' row
            refine ⟨(⟨some a, len, cap⟩, g), hcs, ⟨hlc, hcm, hbytes, fun e => by cases e⟩, fun hn => ?_⟩
            have hn' : 0 < len := hn
            obtain ⟨cl, hl, hcell, _⟩ := hg 0 hn'
            have h00 := hcell 0 (cl[0]'(by omega)) (List.getElem?_eq_getElem _)
            obtain ⟨hb, hsp⟩ := lt_of_cell h00
            simp only [Nat.zero_mul, Addr.add, if_true] at hb hsp
            obtain ⟨ab, ao, asp⟩ := a
            simp only at hb hsp
            subst hsp
            refine ⟨ab, ao, rfl, hb, fun i hin => ?_⟩
            obtain ⟨cl, hl, hcell, hr⟩ := hg i hin
            refine ⟨cl, hl, fun j u hu => ?_, hr⟩
            have := hcell j u hu
            rw [Addr.add_lit, Addr.add_lit, Nat.add_assoc] at this
            exact this
        · cases h
      · cases h
    · rename_i fs hu
      split at h
      · rename_i τ0 h0
        split at h
        · rename_i hc
          injection h with h
          subst h
          obtain ⟨xs, n, _, ex, hl, hxl, hf⟩ := DataW.trod_struct hu hx
          subst ex
          have hS : Small P t (DataW.agg (xs.map (·.1))) := hs
          have := reads_fields (n := n) ih cs fs.toList 0 τ0 h0 (by rw [hl, hc, Nat.zero_add]) (fun f hm => by
            obtain ⟨i, hi⟩ := List.mem_iff_getElem?.1 hm
            have hi' : fs[i]? = some f := by simpa using hi
            have hlt : i < xs.length := by rw [hxl]; exact (Array.getElem?_eq_some_iff.1 hi').1
            refine ⟨xs[i], by rw [hf i f hi', List.getElem?_eq_getElem hlt], fun m hm' => hS m ?_⟩
            rw [DataW.weights, hu]
            exact DataW.weights_mem_each (j := i) (t := f.type) (d := xs[i].1) (by simp [hi]) (by simp [hlt]) m hm')
          rwa [List.drop_zero] at this
        · cases h
      · cases h
    · cases h
theorem small_of {ts : List TypeId} {ds : List (DataW H)} (h : (DataW.weightsEach P ts ds).all (· ≤ reachBytes) = true) {j : Nat} {t : TypeId} {d : DataW H} (ht : ts[j]? = some t) (hd : ds[j]? = some d) : Small P t d :=
  fun n hn => by simpa using List.all_eq_true.1 h n (DataW.weights_mem_each ht hd n hn)
theorem open_deep {k bytes : Nat} {t : TypeId} {e : Ty} {A : Option Addr} {n c : Nat} {d : DataW H} {p : List MemPlace} (hT : tyOf P k t = some (.slice e bytes)) (h : DataW.Trod enc P w base spare held t (.slice A n c) d p) (hs : Small P t d) :
    ∃ x : Nat → e.den, Reads w w.heap.size (.slice e bytes) (⟨A, n, c⟩, x) [.slice A n c] := by
  obtain ⟨m, hm⟩ := h
  obtain ⟨⟨⟨A', n', c'⟩, x⟩, hr⟩ := reads_of k t _ hT m _ _ hm hs
  have e : [Value.slice A n c] = [.slice A' n' c'] := hr.1
  simp only [List.cons.injEq, Value.slice.injEq, and_true] at e
  obtain ⟨rfl, rfl, rfl⟩ := e
  exact ⟨x, hr⟩
/-- A struct argument. -/
theorem open_deep_struct {k : Nat} {t : TypeId} {e : Ty} {cs : Array Value} {d : DataW H} {p : List MemPlace} (hT : tyOf P k t = some e) (h : DataW.Trod enc P w base spare held t (.agg cs) d p) (hs : Small P t d) :
    ∃ x : e.den, Reads w w.heap.size e x cs.toList := by
  obtain ⟨m, hm⟩ := h
  obtain ⟨x, hr⟩ := reads_of k t _ hT m _ _ hm hs
  exact ⟨x, hr⟩
end
end Go.Proofs.YtclahhkcbkpofaaDoor
/- Arguments of whole numbers. -/
namespace Go.Proofs.YtclahhkcbkpofaaDoor
open Go.RowKit Go.Maps

theorem ty_ints : tyOf Tryd.prog 8 23 = some (.slice (.int .i64) 8) := by kernel_rfl
/-- The numbers of a list that is read. -/
def intsOf (n : Nat) (x : Nat → (Ty.int .i64).den) : List Int := (List.range n).map fun i => (show Int from x i)
/-- An argument of whole numbers. -/
structure IntsIn (w : World) (A : Option Addr) (n c : Nat) (l : List Int) : Prop where
  len : l.length = n
  nc : n ≤ c
  cm : c ≤ maxLen
  sl : Sl w w.heap.size 1 A n (l.map (.int .i64))
theorem ints_in {w : World} {A : Option Addr} {n c : Nat} {x : Nat → (Ty.int .i64).den} {cs : List Value} (h : Reads w w.heap.size (.slice (.int .i64) 8) (⟨A, n, c⟩, x) cs) : IntsIn w A n c (intsOf n x) := by
  have hs := h.sl (e := .int .i64) (fun d => rfl)
  refine ⟨by unfold intsOf; rw [List.length_map, List.length_range], h.2.1.1, h.2.1.2.1, ?_⟩
  have e : ((List.range n).flatMap fun i => Ty.cells (.int .i64) (x i)) = (intsOf n x).map (.int .i64) := by
    unfold intsOf
    rw [List.map_map, List.map_eq_flatMap]
    rfl
  rw [← e]
  exact hs
end Go.Proofs.YtclahhkcbkpofaaDoor
/- The walk of FuzzyDistances. -/
namespace Go.Proofs.YtclahhkcbkpofaaDoor
open Go.RowKit
open Sp
set_option linter.unusedVariables false

set_option maxRecDepth 100000 in
set_option maxHeartbeats 8000000 in
theorem fdist_walk (w : World) (A1 : Option Addr) (m c1 : Nat) (A2 : Option Addr) (n c2 : Nat) (a b : List Int) (h1 : IntsIn w A1 m c1 a) (h2 : IntsIn w A2 n c2 b) (hT : Tab w) :
    Calls Tryd.prog 5 #[.slice A1 m c1, .slice A2 n c2] w fun e w' => e = .returned (.bool true) ∧ Below w.heap.size w w' := by
  have HA := Lib.hid (fawake_any w hT)
  have HT := Lib.hid hT
  have HS1 := Lib.hid h1.sl
  have HS2 := Lib.hid h2.sl
  have hc1 := h1.cm
  have hc2 := h2.cm
  have hn1 := h1.nc
  have hn2 := h2.nc
  clear hT h1 h2
  go_enter Tryd.func5, Tryd.ntmps5
  go_wp2_with fail
  refine HA.out.mono ?_
  rintro e w1 ⟨rfl, hb1⟩
  have HB1 := Lib.hid hb1
  have HT1 := Lib.hid (HT.out.below hb1)
  clear hb1 HA
  by_cases hm : m ≤ 60
  · have qm : decide (60 < m) = false := decide_eq_false (by omega)
    by_cases hn : n ≤ 60
    · have qn : decide (60 < n) = false := decide_eq_false (by omega)
      go_wp2_with fail
      refine (distance_any w1 w.heap.size HB1.out.size A1 A2 m n c1 c2 a b (HS1.out.below HB1.out) (HS2.out.below HB1.out) (by omega) (by omega)).mono ?_
      rintro e w2 ⟨rfl, hb2⟩
      have HB2 := Lib.hid (bcall HB1.out hb2)
      clear hb2
      go_wp2_with fail
      refine (rdistance_any w2 w.heap.size HB2.out.size A1 A2 m n c1 c2 a b (HS1.out.below HB2.out) (HS2.out.below HB2.out) (by omega) (by omega)).mono ?_
      rintro e w3 ⟨rfl, hb3⟩
      have HB3 := Lib.hid (bcall HB2.out hb3)
      clear hb3
      go_wp2_with fail
      go_ret
      exact ⟨by simp, HB3.out⟩
    · have qn : decide (60 < n) = true := decide_eq_true (by omega)
      go_wp2_with fail
      refine (fawake_any w1 HT1.out).mono ?_
      rintro e w2 ⟨rfl, hb2⟩
      have HB2 := Lib.hid (bcall HB1.out hb2)
      clear hb2
      go_wp2_with fail
      go_ret
      exact ⟨rfl, HB2.out⟩
  · have qm : decide (60 < m) = true := decide_eq_true (by omega)
    go_wp2_with fail
    refine (fawake_any w1 HT1.out).mono ?_
    rintro e w2 ⟨rfl, hb2⟩
    have HB2 := Lib.hid (bcall HB1.out hb2)
    clear hb2
    go_wp2_with fail
    go_ret
    exact ⟨rfl, HB2.out⟩
open Go.Maps in
theorem fdist_walkc (w : World) (A1 : Option Addr) (m c1 : Nat) (x1 : Nat → (Ty.int .i64).den) (h1 : IntsIn w A1 m c1 (intsOf m x1)) (A2 : Option Addr) (n c2 : Nat) (x2 : Nat → (Ty.int .i64).den) (h2 : IntsIn w A2 n c2 (intsOf n x2)) (hT : Tab w) :
    Calls Tryd.prog 5 #[.slice A1 m c1, .slice A2 n c2] w fun e w' => e = .returned (.bool true) ∧ Below w.heap.size w w' := fdist_walk w A1 m c1 A2 n c2 _ _ h1 h2 hT
end Go.Proofs.YtclahhkcbkpofaaDoor
