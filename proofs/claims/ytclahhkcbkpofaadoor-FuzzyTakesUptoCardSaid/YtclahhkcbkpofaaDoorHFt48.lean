/- fuzzy.Distance: the row that is made. -/
import Derived.Test.YtclahhkcbkpofaaDoorHFt46
import Derived.Test.YtclahhkcbkpofaaDoorHFt14
import Derived.Test.YtclahhkcbkpofaaDoorHFt15
namespace Go.Proofs.YtclahhkcbkpofaaDoor
open Go.RowKit
set_option linter.unusedVariables false
/-- A row of n + 1 numbers, by a function. -/
def rowF (n : Nat) (F : Nat → Int) : List Value := (List.range (n + 1)).map fun q => .int .i64 (F q)
theorem rowF_at {n : Nat} {F : Nat → Int} {k : Nat} (h : k ≤ n) : (rowF n F)[k]? = some (.int .i64 (F k)) := by
  unfold rowF
  rw [List.getElem?_map, List.getElem?_range (by omega)]
  rfl
theorem rowF_put {n : Nat} {F : Nat → Int} {k : Nat} {v : Int} : (rowF n F).set k (.int .i64 v) = rowF n fun q => if q = k then v else F q := by
  unfold rowF
  apply List.ext_getElem?
  intro j
  by_cases e : k = j
  · subst e
    by_cases hk : k < n + 1
    · rw [List.getElem?_set_self (by simp; omega), List.getElem?_map, List.getElem?_range hk]
      simp
    · rw [List.getElem?_eq_none (by simp; omega), List.getElem?_eq_none (by simp; omega)]
  · rw [List.getElem?_set_ne e, List.getElem?_map, List.getElem?_map]
    by_cases hj : j < n + 1
    · rw [List.getElem?_range hj]
      simp [show ¬ j = k from fun h => e h.symm]
    · rw [List.getElem?_eq_none (by simp; omega)]
      rfl
theorem rowF_zero (n : Nat) : List.replicate (n + 1) (Value.int .i64 0) = rowF n fun _ => 0 := by
  unfold rowF
  apply List.ext_getElem?
  intro j
  by_cases hj : j < n + 1
  · rw [List.getElem?_replicate, if_pos hj, List.getElem?_map, List.getElem?_range hj]
    rfl
  · rw [List.getElem?_eq_none (by simp; omega), List.getElem?_eq_none (by simp; omega)]
/-- A store into such a row. -/
theorem rowF_store {w : World} {b g n c k : Nat} {F : Nat → Int} {v : Int} (h : w.ownsRow b 3 1 (.slice (some ⟨g, 0, none⟩) (n + 1) c) (n + 1) (rowF n F)) : (w.setCell ⟨g, k, none⟩ (.int .i64 v)).ownsRow b 3 1 (.slice (some ⟨g, 0, none⟩) (n + 1) c) (n + 1) (rowF n fun q => if q = k then v else F q) := by
  have := own_put (j := k) (u := .int .i64 v) h
  rwa [rowF_put] at this
theorem levB_bound (a b : List Int) (i k : Nat) : levB a b i k ≤ max a.length b.length := by
  have := lev_max (a.take i).reverse (b.take k).reverse
  unfold levB
  rw [List.length_reverse, List.length_reverse, List.length_take, List.length_take] at this
  omega
set_option maxRecDepth 100000 in
set_option maxHeartbeats 8000000 in
theorem distance_any (w : World) (B : Nat) (hB : B ≤ w.heap.size) (A1 A2 : Option Addr) (m n c1 c2 : Nat) (a b : List Int) (h1 : Sl w B 1 A1 m (a.map (.int .i64))) (h2 : Sl w B 1 A2 n (b.map (.int .i64))) (hm : m ≤ 100) (hn : n ≤ 100) :
    Calls Tryd.prog 22 #[.slice A1 m c1, .slice A2 n c2] w fun e w' => e = .returned (.int .i64 ((lev a b : Nat) : Int)) ∧ Below w.heap.size w w' := by
  have HA : Hid (a.length = m) := by have := h1.1; show _ = _; simpa using this
  have HBL : Hid (b.length = n) := by have := h2.1; show _ = _; simpa using this
  have HS1 := Lib.hid h1
  have HS2 := Lib.hid h2
  have hmk := fun W => make_int (n + 1) (by omega) W
  have hcn : ((n + 1 : Nat) : Int) = (n : Int) + 1 := by omega
  rw [hcn] at hmk
  have ho0 := own_made w (.int .i64 0) (n + 1) (by omega) 3 (nb := w.heap.size) rfl (base := w.heap.size) (Nat.le_refl _)
  rw [rowF_zero] at ho0
  have HO0 := Lib.hid ho0
  have HB0 := Lib.hid (bnew (brefl w) (.cells (madeCells #[.int .i64 0] (n + 1)) 3))
  obtain ⟨G, hG⟩ : ∃ G, w.heap.size = G := ⟨_, rfl⟩
  have HG := Lib.hid hG
  have HBND : Hid (∀ i k, levB a b i k ≤ 100) := fun i k => by
    have := levB_bound a b i k
    rw [HA.out, HBL.out] at this
    omega
  rw [hG] at HO0
  clear h1 h2 ho0 hcn
  go_enter Tryd.func22, Tryd.ntmps22
  go_wp2_with fail
  generalize w.alloc (.cells (madeCells #[.int .i64 0] (n + 1)) 3) = W0 at *
  clear hmk hG
  go_loopw [17] (fun iv wr => ∃ (j : Nat) (F : Nat → Int), j ≤ n + 1 ∧ iv = .int .i64 (j : Int) ∧ Hid (wr.ownsRow G 3 1 (.slice (some ⟨G, 0, none⟩) (n + 1) (n + 1)) (n + 1) (rowF n F)) ∧ Hid (Below w.heap.size w wr) ∧ Hid (∀ q, q < j → F q = (q : Int))) (fun iv _ => n + 1 - (intOf iv).toNat)
  case atStart => exact ⟨0, _, Nat.zero_le _, rfl, HO0, HB0, fun q hq => absurd hq (Nat.not_lt_zero _)⟩
  case round =>
    obtain ⟨j, F, hj, rfl, HO, HB, HF⟩ := hrel
    clear HO0 HB0
    by_cases hjn : j < n + 1
    · have q1 : decide ((j : Int) < (n : Int) + 1) = true := decide_eq_true (by omega)
      have q2 : decide (j < n + 1) = true := decide_eq_true hjn
      obtain ⟨_, hgw, cs, hcs⟩ := own_blk HO.out
      have r0 := own_cell HO.out (rowF_at (k := j) (by omega))
      have f0 := free_at hcs j
      have HON := Lib.hid (rowF_store (k := j) (v := (j : Int)) HO.out)
      have HBN := Lib.hid (below_set (j := j) (u := .int .i64 (j : Int)) HB.out (by rw [HG.out]; exact Nat.le_refl G) (Nat.le_refl _))
      have HFN : Hid (∀ q, q < j + 1 → (if q = j then (j : Int) else F q) = (q : Int)) := fun q hq => by
        by_cases e : q = j
        · rw [if_pos e, e]
        · rw [if_neg e]; exact HF.out q (by omega)
      clear hcs HO HF
      go_wp2_with fail
      go_roundw
      case rel => exact ⟨j + 1, _, by omega, by go_num, HON, HBN, HFN⟩
      case measure => simp [intOf]; omega
    · obtain rfl : j = n + 1 := by omega
      have q1 : decide ((n : Int) + 1 < (n : Int) + 1) = false := decide_eq_false (by omega)
      have HF1 : Hid (∀ k, k ≤ n → F k = ((levB a b 0 k : Nat) : Int)) := fun k hk => by rw [HF.out k (by omega), levB_left a b k (by rw [HBL.out]; exact hk)]
      clear HF
      go_wp2_with fail
      go_loopw [27] (fun iv W => ∃ (i : Nat) (F : Nat → Int), i ≤ m ∧ iv = .int .i64 (i : Int) ∧ Hid (W.ownsRow G 3 1 (.slice (some ⟨G, 0, none⟩) (n + 1) (n + 1)) (n + 1) (rowF n F)) ∧ Hid (Below w.heap.size w W) ∧ Hid (∀ k, k ≤ n → F k = ((levB a b i k : Nat) : Int))) (fun iv _ => m - (intOf iv).toNat)
      case atStart => exact ⟨0, F, Nat.zero_le _, rfl, HO, HB, HF1⟩
      case round =>
        clear HO HB HF1 F
        obtain ⟨i, F, hi, rfl, HO, HB, HF⟩ := hrel
        by_cases him : i < m
        · have q3 : decide ((i : Int) < (m : Int)) = true := decide_eq_true (by omega)
          have q4 : decide (i < m) = true := decide_eq_true him
          obtain ⟨x, hx⟩ : ∃ x, a[i]? = some x := ⟨a[i]'(by rw [HA.out]; exact him), List.getElem?_eq_getElem _⟩
          have HX := Lib.hid hx
          obtain ⟨ba, oa, rfl, hba, hca⟩ := HS1.out.at_ him
          have HCA : Hid (∀ W, Below w.heap.size w W → W.cell? ⟨ba, oa + i, none⟩ = some (.int .i64 x) ∧ ba < W.heap.size) := fun W hW => ⟨(hW.cell (p := ⟨ba, oa + i, none⟩) (by show ba < _; omega)).trans (hca i (.int .i64 x) (by rw [List.getElem?_map, hx]; rfl)), Nat.lt_of_lt_of_le hba (Nat.le_trans hB hW.size)⟩
          obtain ⟨_, hgw, cs, hcs⟩ := own_blk HO.out
          have r0 := own_cell HO.out (rowF_at (k := 0) (Nat.zero_le _))
          have e0 : F 0 = (i : Int) := by rw [HF.out 0 (Nat.zero_le _), levB_top a b i (by rw [HA.out]; exact hi)]
          rw [e0] at r0
          have f0 := free_at hcs 0
          have HON := Lib.hid (rowF_store (k := 0) (v := (i : Int) + 1) HO.out)
          have HBN := Lib.hid (below_set (j := 0) (u := .int .i64 ((i : Int) + 1)) HB.out (by rw [HG.out]; exact Nat.le_refl G) (Nat.le_refl _))
          have HF2 : Hid (∀ q, q ≤ 0 → (if q = 0 then (i : Int) + 1 else F q) = ((levB a b (i + 1) q : Nat) : Int)) := fun q hq => by
            obtain rfl : q = 0 := by omega
            rw [if_pos rfl, levB_top a b (i + 1) (by rw [HA.out]; omega)]
            omega
          have HF3 : Hid (∀ q, 0 < q → q ≤ n → (if q = 0 then (i : Int) + 1 else F q) = ((levB a b i q : Nat) : Int)) := fun q h0 hq => by
            rw [if_neg (by omega)]
            exact HF.out q hq
          have el0 : ((levB a b i 0 : Nat) : Int) = (i : Int) := by rw [levB_top a b i (by rw [HA.out]; exact hi)]
          have HL0 := Lib.hid el0
          clear hcs HO HF e0 hca el0 hx
          go_wp2_with fail
          go_loopw [8, 39] (fun lv kv W => ∃ (k : Nat) (F : Nat → Int), k ≤ n ∧ kv = .int .i64 (k : Int) ∧ lv = .int .i64 ((levB a b i k : Nat) : Int) ∧ Hid (W.ownsRow G 3 1 (.slice (some ⟨G, 0, none⟩) (n + 1) (n + 1)) (n + 1) (rowF n F)) ∧ Hid (Below w.heap.size w W) ∧ Hid (∀ q, q ≤ k → F q = ((levB a b (i + 1) q : Nat) : Int)) ∧ Hid (∀ q, k < q → q ≤ n → F q = ((levB a b i q : Nat) : Int))) (fun _ kv _ => n - (intOf kv).toNat)
          case atStart => exact ⟨0, _, Nat.zero_le _, rfl, by rw [HL0.out], HON, HBN, HF2, HF3⟩
          case round =>
            clear HON HBN HF2 HF3 r0 f0 hgw F HL0
            obtain ⟨k, F, hk, rfl, rfl, HO, HB, HF2, HF3⟩ := hrel
            by_cases hkn : k < n
            · have q5 : decide ((k : Int) < (n : Int)) = true := decide_eq_true (by omega)
              have q6 : decide (k < n) = true := decide_eq_true hkn
              obtain ⟨y, hy⟩ : ∃ y, b[k]? = some y := ⟨b[k]'(by rw [HBL.out]; exact hkn), List.getElem?_eq_getElem _⟩
              obtain ⟨bb, ob, rfl, hbb, hcb⟩ := HS2.out.at_ hkn
              have hcy : wr.cell? ⟨bb, ob + k, none⟩ = some (.int .i64 y) := (HB.out.cell (p := ⟨bb, ob + k, none⟩) (by show bb < _; omega)).trans (hcb k (.int .i64 y) (by rw [List.getElem?_map, hy]; rfl))
              have hbw : bb < wr.heap.size := Nat.lt_of_lt_of_le hbb (Nat.le_trans hB HB.out.size)
              obtain ⟨hcx, haw⟩ := HCA.out wr HB.out
              have HST := Lib.hid (levB_step HX.out hy)
              have b1 := HBND.out i k
              have b2 := HBND.out i (k + 1)
              have b3 := HBND.out (i + 1) k
              obtain ⟨P1, hP1⟩ : ∃ z, levB a b i k = z := ⟨_, rfl⟩
              obtain ⟨P2, hP2⟩ : ∃ z, levB a b i (k + 1) = z := ⟨_, rfl⟩
              obtain ⟨P3, hP3⟩ : ∃ z, levB a b (i + 1) k = z := ⟨_, rfl⟩
              obtain ⟨_, hgw, cs, hcs⟩ := own_blk HO.out
              have r1 := own_cell HO.out (rowF_at (k := k) (by omega))
              have r2 := own_cell HO.out (rowF_at (k := k + 1) (by omega))
              rw [HF2.out k (Nat.le_refl _), hP3] at r1
              rw [HF3.out (k + 1) (by omega) (by omega), hP2] at r2
              have f1 := free_at hcs (k + 1)
              rw [hP1, hP2, hP3] at HST
              rw [hP1] at b1 ⊢
              rw [hP2] at b2
              rw [hP3] at b3
              have HP2 := Lib.hid hP2
              have HGO : Hid (∀ v : Int, v = ((levB a b (i + 1) (k + 1) : Nat) : Int) → Hid ((wr.setCell ⟨G, k + 1, none⟩ (.int .i64 v)).ownsRow G 3 1 (.slice (some ⟨G, 0, none⟩) (n + 1) (n + 1)) (n + 1) (rowF n fun q => if q = k + 1 then v else F q)) ∧ Hid (Below w.heap.size w (wr.setCell ⟨G, k + 1, none⟩ (.int .i64 v))) ∧ Hid (∀ q, q ≤ k + 1 → (if q = k + 1 then v else F q) = ((levB a b (i + 1) q : Nat) : Int)) ∧ Hid (∀ q, k + 1 < q → q ≤ n → (if q = k + 1 then v else F q) = ((levB a b i q : Nat) : Int))) := fun v hv => by
                refine ⟨rowF_store HO.out, below_set HB.out (by rw [HG.out]; exact Nat.le_refl G) (Nat.le_refl _), fun q hq => ?_, fun q h0 hq => ?_⟩
                · by_cases e : q = k + 1
                  · rw [if_pos e, e]; exact hv
                  · rw [if_neg e]; exact HF2.out q (by omega)
                · rw [if_neg (by omega)]
                  exact HF3.out q (by omega) hq
              clear hcs HO HF2 HF3 hcb hy hP1 hP2 hP3
              by_cases hxy : x = y
              · have hne : (x != y) = false := by simp [hxy]
                rw [if_pos hxy] at HST
                obtain ⟨v1, v2, v3, v4⟩ := HGO.out (if (P2 : Int) + 1 < (if (P3 : Int) + 1 < (P1 : Int) then (P3 : Int) + 1 else (P1 : Int)) then (P2 : Int) + 1 else (if (P3 : Int) + 1 < (P1 : Int) then (P3 : Int) + 1 else (P1 : Int))) (by
                  rw [HST.out]
                  split <;> split at * <;> omega)
                clear hxy HGO HST
                go_wp2_with fail
                go_region
                go_wp2_with fail
                go_roundw
                case rel => exact ⟨k + 1, _, by omega, by go_num, by rw [HP2.out], v1, v2.out.drew, v3, v4⟩
                case measure => simp [intOf]; omega
              · have hne : (x != y) = true := by rw [bne_iff_ne]; exact hxy
                rw [if_neg hxy] at HST
                obtain ⟨v1, v2, v3, v4⟩ := HGO.out (if (P2 : Int) + 1 < (if P3 < P1 then (P3 : Int) + 1 else (P1 : Int) + 1) then (P2 : Int) + 1 else (if P3 < P1 then (P3 : Int) + 1 else (P1 : Int) + 1)) (by
                  rw [HST.out]
                  split <;> split at * <;> omega)
                clear hxy HGO HST
                go_wp2_with fail
                go_region
                go_wp2_with fail
                go_roundw
                case rel => exact ⟨k + 1, _, by omega, by go_num, by rw [HP2.out], v1, v2.out.drew, v3, v4⟩
                case measure => simp [intOf]; omega
            · obtain rfl : k = n := by omega
              have q5 : decide ((k : Int) < (k : Int)) = false := decide_eq_false (by omega)
              have HFA : Hid (∀ q, q ≤ k → F q = ((levB a b (i + 1) q : Nat) : Int)) := HF2
              clear HF2 HF3
              go_wp2_with fail
              go_roundw
              case rel => exact ⟨i + 1, F, by omega, by go_num, HO, HB, HFA⟩
              case measure => simp [intOf]; omega
        · obtain rfl : i = m := by omega
          have q3 : decide ((i : Int) < (i : Int)) = false := decide_eq_false (by omega)
          have r0 := own_cell HO.out (rowF_at (k := n) (Nat.le_refl _))
          have e0 : F n = ((lev a b : Nat) : Int) := by rw [HF.out n (Nat.le_refl _), ← levB_all, HA.out, HBL.out]
          rw [e0] at r0
          obtain ⟨_, hgw, _⟩ := own_blk HO.out
          clear e0 HF HO
          go_wp2_with fail
          go_ret
          exact ⟨rfl, HB.out⟩
end Go.Proofs.YtclahhkcbkpofaaDoor
