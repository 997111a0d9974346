/- The reference's Distance: a table from the ends. -/
import Derived.Test.YtclahhkcbkpofaaDoorHFz46
import Derived.Test.YtclahhkcbkpofaaDoorHFz1
import Derived.SizedLaws
import Derived.ChangeArms
import Derived.Test.YtclahhkcbkpofaaDoorChecked
import Derived.Test.YtclahhkcbkpofaaDoorHFz37
namespace Go.Proofs.YtclahhkcbkpofaaDoor
open Go.RowKit
set_option linter.unusedVariables false
/-- The row that the table's next one is made of. -/
def PrevR (W : World) (B m n s : Nat) (V : List Value) (gp : Nat) (a b : List Int) : Prop := s ≤ m → V[s]? = some (.slice (some ⟨gp, 0, none⟩) (n + 1) (n + 1)) ∧ ∃ F : Nat → Int, W.ownsRow B 3 1 (.slice (some ⟨gp, 0, none⟩) (n + 1) (n + 1)) (n + 1) (rowF n F) ∧ ∀ q, q ≤ n → F q = ((lev (a.drop s) (b.drop q) : Nat) : Int)
/-- The table, the row being made, the one it is made of. -/
structure TabR (w W : World) (m n i : Nat) (T g gp : Nat) (V : List Value) (F : Nat → Int) (a b : List Int) : Prop where
  tab : W.ownsRow w.heap.size 23 1 (.slice (some ⟨T, 0, none⟩) (m + 1) (m + 1)) (m + 1) V
  here : V[i]? = some (.slice (some ⟨g, 0, none⟩) (n + 1) (n + 1))
  row : W.ownsRow w.heap.size 3 1 (.slice (some ⟨g, 0, none⟩) (n + 1) (n + 1)) (n + 1) (rowF n F)
  prev : PrevR W w.heap.size m n (i + 1) V gp a b
  ne : gp < g
  bel : Below w.heap.size w W
theorem TabR.store {w W : World} {m n i T g gp k : Nat} {V : List Value} {F : Nat → Int} {a b : List Int} {v : Int} (h : TabR w W m n i T g gp V F a b) : TabR w (W.setCell ⟨g, k, none⟩ (.int .i64 v)) m n i T g gp V (fun q => if q = k then v else F q) a b := by
  obtain ⟨hg1, hg2, cs, hcs⟩ := own_blk h.row
  refine ⟨own_other h.tab hcs (by decide), h.here, rowF_store h.row, fun hs => ?_, h.ne, below_set h.bel hg1 (Nat.le_refl _)⟩
  obtain ⟨h1, F', h2, h3⟩ := h.prev hs
  refine ⟨h1, F', h2.kept (set_grown _ _ _) (.inr fun e => ?_), h3⟩
  injection e with e
  have := h.ne
  simp at e
  omega
theorem TabR.drew {w W : World} {m n i T g gp : Nat} {V : List Value} {F : Nat → Int} {a b : List Int} (h : TabR w W m n i T g gp V F a b) : TabR w W.drew m n i T g gp V F a b := ⟨h.tab, h.here, h.row, h.prev, h.ne, h.bel.drew⟩
theorem lev_bound (a b : List Int) (i k : Nat) : lev (a.drop i) (b.drop k) ≤ max a.length b.length := by
  have := lev_max (a.drop i) (b.drop k)
  rw [List.length_drop, List.length_drop] at this
  omega
theorem make_tab (n : Nat) (hn : n ≤ 1000) (w : World) : (Instr.makeSlice 70 (.int .i64 ((n : Int) + 1)) (.int .i64 ((n : Int) + 1))).run Tryd.prog w = .ok (.slice (some ⟨w.heap.size, 0, none⟩) (n + 1) (n + 1)) (w.alloc (.cells (madeCells #[.slice none 0 0] (n + 1)) 23)) := by
  have := make_ints (n + 1) (by omega) w
  rw [show ((n + 1 : Nat) : Int) = (n : Int) + 1 by omega] at this
  exact this
theorem make_row1 (n : Nat) (hn : n ≤ 1000) (w : World) : (Instr.makeSlice 23 (.int .i64 ((n : Int) + 1)) (.int .i64 ((n : Int) + 1))).run Tryd.prog w = .ok (.slice (some ⟨w.heap.size, 0, none⟩) (n + 1) (n + 1)) (w.alloc (.cells (madeCells #[.int .i64 0] (n + 1)) 3)) := by
  have := make_int (n + 1) (by omega) w
  rw [show ((n + 1 : Nat) : Int) = (n : Int) + 1 by omega] at this
  exact this
/-- A row more in the table. -/
theorem tab_new {w W : World} {m n i T gp : Nat} {V : List Value} {a b : List Int} (hT : W.ownsRow w.heap.size 23 1 (.slice (some ⟨T, 0, none⟩) (m + 1) (m + 1)) (m + 1) V) (hi : i ≤ m) (hn : n ≤ 1000) (hp : PrevR W w.heap.size m n (i + 1) V gp a b) (hg : gp < W.heap.size) (hb : Below w.heap.size w W) :
    TabR w ((W.setCell ⟨T, i, none⟩ (.slice (some ⟨W.heap.size, 0, none⟩) (n + 1) (n + 1))).alloc (.cells (madeCells #[.int .i64 0] (n + 1)) 3)) m n i T W.heap.size gp (V.set i (.slice (some ⟨W.heap.size, 0, none⟩) (n + 1) (n + 1))) (fun _ => 0) a b := by
  obtain ⟨hT1, hT2, cs, hcs⟩ := own_blk hT
  obtain ⟨W1, hW1⟩ : ∃ W1, W.setCell ⟨T, i, none⟩ (.slice (some ⟨W.heap.size, 0, none⟩) (n + 1) (n + 1)) = W1 := ⟨_, rfl⟩
  have hs1 : W1.heap.size = W.heap.size := by rw [← hW1]; simp [World.setCell]
  have hV : V.length = m + 1 := by have := hT.1; simpa using this
  have hp1 : W1.ownsRow w.heap.size 23 1 (.slice (some ⟨T, 0, none⟩) (m + 1) (m + 1)) (m + 1) (V.set i (.slice (some ⟨W.heap.size, 0, none⟩) (n + 1) (n + 1))) := by rw [← hW1]; exact own_put hT
  have hb1 : Below w.heap.size w W1 := by rw [← hW1]; exact below_set hb hT1 (Nat.le_refl _)
  rw [hW1]
  refine ⟨own_kept hp1 (bnew (brefl W1) _), by rw [List.getElem?_set_self (by omega)], ?_, fun hs => ?_, hg, bnew hb1 _⟩
  · have := own_made W1 (.int .i64 0) (n + 1) (by omega) 3 (nb := W.heap.size) hs1.symm (base := w.heap.size) hb1.size
    rw [rowF_zero] at this
    exact this
  · obtain ⟨h1, F', h2, h3⟩ := hp hs
    refine ⟨by rw [List.getElem?_set_ne (by omega)]; exact h1, F', ?_, h3⟩
    have h4 : W1.ownsRow w.heap.size 3 1 (.slice (some ⟨gp, 0, none⟩) (n + 1) (n + 1)) (n + 1) (rowF n F') := by rw [← hW1]; exact own_other h2 hcs (by decide)
    exact own_kept h4 (bnew (brefl W1) _)
set_option maxRecDepth 100000 in
set_option maxHeartbeats 8000000 in
theorem rdistance_any (w : World) (B : Nat) (hB : B ≤ w.heap.size) (A1 A2 : Option Addr) (m n c1 c2 : Nat) (a b : List Int) (h1 : Sl w B 1 A1 m (a.map (.int .i64))) (h2 : Sl w B 1 A2 n (b.map (.int .i64))) (hm : m ≤ 100) (hn : n ≤ 100) :
    Calls Tryd.prog 23 #[.slice A1 m c1, .slice A2 n c2] w fun e w' => e = .returned (.int .i64 ((lev a b : Nat) : Int)) ∧ Below w.heap.size w w' := by
  have HA : Hid (a.length = m) := by have := h1.1; show _ = _; simpa using this
  have HBL : Hid (b.length = n) := by have := h2.1; show _ = _; simpa using this
  have HS1 := Lib.hid h1
  have HS2 := Lib.hid h2
  have hmk := fun W => make_tab m (by omega) W
  have hmr := fun W => make_row1 n (by omega) W
  have ho0 := own_made w (.slice none 0 0) (m + 1) (by omega) 23 (nb := w.heap.size) rfl (base := w.heap.size) (Nat.le_refl _)
  have HO0 := Lib.hid ho0
  have HB0 := Lib.hid (bnew (brefl w) (.cells (madeCells #[.slice none 0 0] (m + 1)) 23))
  have HSZ : Hid (w.heap.size < (w.alloc (.cells (madeCells #[.slice none 0 0] (m + 1)) 23)).heap.size) := by show _ < _; simp
  have HBND : Hid (∀ i k, lev (a.drop i) (b.drop k) ≤ 100) := fun i k => by
    have := lev_bound a b i k
    rw [HA.out, HBL.out] at this
    omega
  obtain ⟨T, hT⟩ : ∃ T, T = w.heap.size := ⟨_, rfl⟩
  have HO1 : Hid ((w.alloc (.cells (madeCells #[.slice none 0 0] (m + 1)) 23)).ownsRow w.heap.size 23 1 (.slice (some ⟨T, 0, none⟩) (m + 1) (m + 1)) (m + 1) (List.replicate (m + 1) (.slice none 0 0))) := by rw [hT]; exact HO0.out
  have HTT := Lib.hid hT
  rw [← hT] at HSZ
  clear h1 h2 ho0 HO0
  go_enter Tryd.func23, Tryd.ntmps23
  go_wp2_with fail
  rw [← hT]
  clear hmk
  generalize w.alloc (.cells (madeCells #[.slice none 0 0] (m + 1)) 23) = W0 at *
  clear hT
  have HP1 : Hid (PrevR W0 w.heap.size m n (m + 1) (List.replicate (m + 1) (.slice none 0 0)) T a b) := fun hs => by omega
  have e0 : (m : Int) = ((m + 1 : Nat) : Int) - 1 := by omega
  go_loopw [6] (fun iv wr => ∃ (s gp : Nat) (V : List Value), s ≤ m + 1 ∧ iv = .int .i64 ((s : Int) - 1) ∧ Hid (wr.ownsRow w.heap.size 23 1 (.slice (some ⟨T, 0, none⟩) (m + 1) (m + 1)) (m + 1) V) ∧ Hid (PrevR wr w.heap.size m n s V gp a b) ∧ gp < wr.heap.size ∧ Hid (Below w.heap.size w wr)) (fun iv _ => ((intOf iv) + 1).toNat)
  case atStart => exact ⟨m + 1, T, _, Nat.le_refl _, by rw [e0], HO1, HP1, HSZ.out, HB0⟩
  case round =>
    clear HO1 HP1 HSZ HB0 e0
    obtain ⟨s, gp, V, hs, rfl, HO, HP, hgp, HB⟩ := hrel
    cases s with
    | zero =>
      have e1 : ((0 : Nat) : Int) - 1 = -1 := rfl
      rw [e1]
      have hl0 := HP.out (Nat.zero_le _)
      obtain ⟨hv0, F, hF1, hF2⟩ := hl0
      have r0 := own_cell HO.out hv0
      have r1 := own_cell hF1 (rowF_at (k := 0) (Nat.zero_le _))
      rw [hF2 0 (Nat.zero_le _), List.drop_zero, List.drop_zero] at r1
      obtain ⟨_, hTw, _⟩ := own_blk HO.out
      clear hv0 hF1 hF2 HO HP e1
      go_wp2_with fail
      go_ret
      exact ⟨rfl, HB.out⟩
    | succ i =>
      have e1 : ((i + 1 : Nat) : Int) - 1 = (i : Int) := by omega
      rw [e1]
      have him : i ≤ m := by omega
      have q1 : decide ((i : Int) ≥ 0) = true := decide_eq_true (by omega)
      obtain ⟨hT1, hTw, cs, hcs⟩ := own_blk HO.out
      have hVl : V.length = m + 1 := by have := HO.out.1; simpa using this
      obtain ⟨v0, hv0⟩ : ∃ v, V[i]? = some v := ⟨V[i]'(by omega), List.getElem?_eq_getElem _⟩
      have r0 := own_cell HO.out hv0
      have f0 := free_at hcs i
      obtain ⟨g, hg⟩ : ∃ g, g = wr.heap.size := ⟨_, rfl⟩
      have hTN := tab_new HO.out him (by omega) HP.out hgp HB.out
      obtain ⟨W1, hW1⟩ : ∃ W, (wr.setCell ⟨T, i, none⟩ (.slice (some ⟨wr.heap.size, 0, none⟩) (n + 1) (n + 1))).alloc (.cells (madeCells #[.int .i64 0] (n + 1)) 3) = W := ⟨_, rfl⟩
      rw [hW1] at hTN
      have HTN := Lib.hid hTN
      have hgW : g < W1.heap.size := by rw [hg, ← hW1]; simp [World.setCell]
      rw [← hg] at HTN
      obtain ⟨V1, hV1⟩ : ∃ V1, V.set i (.slice (some ⟨g, 0, none⟩) (n + 1) (n + 1)) = V1 := ⟨_, rfl⟩
      rw [hV1] at HTN
      clear hV1
      have HGP : Hid (gp < g) := by rw [hg]; exact hgp
      have HG := Lib.hid hg
      have HW1 := Lib.hid hW1
      clear hTN hcs hv0 hVl HO HP hg hW1
      go_wp2_with fail
      rw [HW1.out]
      clear r0 f0 hTw HW1 HB
      have e2 : (n : Int) = ((n + 1 : Nat) : Int) - 1 := by omega
      have HF0 : Hid (∀ q, n + 1 ≤ q → q ≤ n → (fun _ : Nat => (0 : Int)) q = ((lev (a.drop i) (b.drop q) : Nat) : Int)) := fun q h1 h2 => by omega
      go_loopw [7] (fun kv W => ∃ (u : Nat) (F : Nat → Int), u ≤ n + 1 ∧ kv = .int .i64 ((u : Int) - 1) ∧ Hid (TabR w W m n i T g gp V1 F a b) ∧ g < W.heap.size ∧ Hid (∀ q, u ≤ q → q ≤ n → F q = ((lev (a.drop i) (b.drop q) : Nat) : Int))) (fun kv _ => ((intOf kv) + 1).toNat)
      case atStart => exact ⟨n + 1, _, Nat.le_refl _, by rw [e2], HTN, hgW, HF0⟩
      case round =>
        clear HTN hgW HF0 e2
        obtain ⟨u, F, hu, rfl, HT, hgW, HF⟩ := hrel
        cases u with
        | zero =>
          have e3 : ((0 : Nat) : Int) - 1 = -1 := rfl
          rw [e3]
          have HPN : Hid (PrevR wr w.heap.size m n i V1 g a b) := fun _ => ⟨HT.out.here, F, HT.out.row, fun q hq => HF.out q (Nat.zero_le _) hq⟩
          have e4 : (i : Int) - 1 = (((i : Nat) : Int) - 1) := rfl
          have s4 : IntKind.i64.wrap ((i : Int) - 1) = (i : Int) - 1 := by rw [IntKind.wrap_i64]; omega
          clear e3
          go_wp2_with fail
          go_roundw
          case rel => exact ⟨i, g, V1, by omega, rfl, HT.out.tab, HPN, hgW, HT.out.bel⟩
          case measure => first | (simp [intOf]; done) | (simp [intOf]; omega)
        | succ k =>
          have e3 : ((k + 1 : Nat) : Int) - 1 = (k : Int) := by omega
          rw [e3]
          have hkn : k ≤ n := by omega
          have q2 : decide ((k : Int) ≥ 0) = true := decide_eq_true (by omega)
          have s4 : IntKind.i64.wrap ((k : Int) - 1) = (k : Int) - 1 := by rw [IntKind.wrap_i64]; omega
          obtain ⟨_, hTw, _⟩ := own_blk HT.out.tab
          have t0 := own_cell HT.out.tab HT.out.here
          obtain ⟨_, _, cs, hcs⟩ := own_blk HT.out.row
          have f0 := free_at hcs k
          have g0 := own_cell HT.out.row (rowF_at hkn)
          have HNX : Hid (∀ v : Int, v = ((lev (a.drop i) (b.drop k) : Nat) : Int) → Hid (TabR w (wr.setCell ⟨g, k, none⟩ (.int .i64 v)) m n i T g gp V1 (fun q => if q = k then v else F q) a b) ∧ g < (wr.setCell ⟨g, k, none⟩ (.int .i64 v)).heap.size ∧ Hid (∀ q, k ≤ q → q ≤ n → (if q = k then v else F q) = ((lev (a.drop i) (b.drop q) : Nat) : Int))) := fun v hv => by
            refine ⟨HT.out.store, by simpa [World.setCell] using hgW, fun q h1 h2 => ?_⟩
            by_cases e : q = k
            · rw [if_pos e, e]; exact hv
            · rw [if_neg e]; exact HF.out q (by omega) h2
          clear hcs e3
          by_cases hend : i = m ∨ k = n
          · have hval : Hid ((m : Int) - (i : Int) + (n : Int) - (k : Int) = ((lev (a.drop i) (b.drop k) : Nat) : Int)) := by
              show _ = _
              rcases hend with h | h
              · subst h
                rw [List.drop_of_length_le (by rw [HA.out]; exact Nat.le_refl _), lev_nil, List.length_drop, HBL.out]
                omega
              · subst h
                rw [List.drop_of_length_le (l := b) (by rw [HBL.out]; exact Nat.le_refl _), lev_nil2, List.length_drop, HA.out]
                omega
            have s1 : IntKind.i64.wrap ((m : Int) - (i : Int)) = (m : Int) - (i : Int) := by rw [IntKind.wrap_i64]; omega
            have s2 : IntKind.i64.wrap ((m : Int) - (i : Int) + (n : Int)) = (m : Int) - (i : Int) + (n : Int) := by rw [IntKind.wrap_i64]; omega
            have s3 : IntKind.i64.wrap ((m : Int) - (i : Int) + (n : Int) - (k : Int)) = (m : Int) - (i : Int) + (n : Int) - (k : Int) := by rw [IntKind.wrap_i64]; omega
            obtain ⟨v1, v2, v3⟩ := HNX.out _ hval.out
            clear HNX HT HF hval
            by_cases h : i = m
            · have p1 : ((i : Int) == (m : Int)) = true := by rw [beq_iff_eq, h]
              have p2 : (i == m) = true := by rw [beq_iff_eq]; exact h
              clear h hend
              go_wp2_with fail
              go_roundw
              case rel => exact ⟨k, _, by omega, rfl, v1, v2, v3⟩
              case measure => first | (simp [intOf]; done) | (simp [intOf]; omega)
            · have h2 : k = n := hend.resolve_left h
              have p1 : ((i : Int) == (m : Int)) = false := by rw [beq_eq_false_iff_ne]; omega
              have p2 : (i == m) = false := by rw [beq_eq_false_iff_ne]; exact h
              have p3 : ((k : Int) == (n : Int)) = true := by rw [beq_iff_eq, h2]
              have p4 : (k == n) = true := by rw [beq_iff_eq]; exact h2
              clear h hend h2
              go_wp2_with fail
              go_roundw
              case rel => exact ⟨k, _, by omega, rfl, v1, v2, v3⟩
              case measure => first | (simp [intOf]; done) | (simp [intOf]; omega)
          · have hi2 : i < m := by omega
            have hk2 : k < n := by omega
            have p1 : ((i : Int) == (m : Int)) = false := by rw [beq_eq_false_iff_ne]; omega
            have p2 : (i == m) = false := by rw [beq_eq_false_iff_ne]; omega
            have p3 : ((k : Int) == (n : Int)) = false := by rw [beq_eq_false_iff_ne]; omega
            have p4 : (k == n) = false := by rw [beq_eq_false_iff_ne]; omega
            obtain ⟨x, hx⟩ : ∃ x, a[i]? = some x := ⟨a[i]'(by rw [HA.out]; exact hi2), List.getElem?_eq_getElem _⟩
            obtain ⟨y, hy⟩ : ∃ y, b[k]? = some y := ⟨b[k]'(by rw [HBL.out]; exact hk2), List.getElem?_eq_getElem _⟩
            obtain ⟨ba, oa, rfl, hba, hca⟩ := HS1.out.at_ hi2
            obtain ⟨bb, ob, rfl, hbb, hcb⟩ := HS2.out.at_ hk2
            have hcx : wr.cell? ⟨ba, oa + i, none⟩ = some (.int .i64 x) := (HT.out.bel.cell (p := ⟨ba, oa + i, none⟩) (by show ba < _; omega)).trans (hca i (.int .i64 x) (by rw [List.getElem?_map, hx]; rfl))
            have hcy : wr.cell? ⟨bb, ob + k, none⟩ = some (.int .i64 y) := (HT.out.bel.cell (p := ⟨bb, ob + k, none⟩) (by show bb < _; omega)).trans (hcb k (.int .i64 y) (by rw [List.getElem?_map, hy]; rfl))
            have hbw : ba < wr.heap.size := Nat.lt_of_lt_of_le hba (Nat.le_trans hB HT.out.bel.size)
            have hbw2 : bb < wr.heap.size := Nat.lt_of_lt_of_le hbb (Nat.le_trans hB HT.out.bel.size)
            obtain ⟨hvp, Fp, hFp, hFq⟩ := HT.out.prev (by omega)
            have t1 := own_cell HT.out.tab hvp
            have u0 := own_cell hFp (rowF_at hkn)
            have u1 := own_cell hFp (rowF_at (k := k + 1) (by omega))
            have u2 := own_cell HT.out.row (rowF_at (k := k + 1) (by omega))
            have hgpw := (own_blk hFp).2.1
            have HST := Lib.hid (lev_drop hx hy)
            have b1 := HBND.out (i + 1) (k + 1)
            have b2 := HBND.out (i + 1) k
            have b3 := HBND.out i (k + 1)
            rw [hFq k hkn] at u0
            rw [hFq (k + 1) (by omega)] at u1
            rw [HF.out (k + 1) (by omega) (by omega)] at u2
            obtain ⟨P1, hP1⟩ : ∃ z, lev (a.drop (i + 1)) (b.drop (k + 1)) = z := ⟨_, rfl⟩
            obtain ⟨P2, hP2⟩ : ∃ z, lev (a.drop (i + 1)) (b.drop k) = z := ⟨_, rfl⟩
            obtain ⟨P3, hP3⟩ : ∃ z, lev (a.drop i) (b.drop (k + 1)) = z := ⟨_, rfl⟩
            rw [hP1] at u1 b1 HST
            rw [hP2] at u0 b2 HST
            rw [hP3] at u2 b3 HST
            clear hFp hFq hvp hca hcb hx hy hP1 hP2 hP3 hend HF
            obtain ⟨D, hD⟩ : ∃ D, P1 + (if x = y then 0 else 1) = D := ⟨_, rfl⟩
            rw [hD] at HST
            have hDb : D ≤ 101 := by rw [← hD]; split <;> omega
            have hcmp : (x = y ∧ (x != y) = false ∧ P1 = D) ∨ (x ≠ y ∧ (x != y) = true ∧ P1 + 1 = D) := by
              by_cases e : x = y
              · rw [if_pos e] at hD
                exact .inl ⟨e, by simp [e], hD⟩
              · rw [if_neg e] at hD
                exact .inr ⟨e, by rw [bne_iff_ne]; exact e, hD⟩
            rcases hcmp with ⟨_, hne, hd⟩ | ⟨_, hne, hd⟩
            · subst hd
              by_cases k1 : P2 + 1 < P1
              · have c1 : decide ((P2 : Int) + 1 < (P1 : Int)) = true := decide_eq_true (by omega)
                by_cases k2 : P3 + 1 < P2 + 1
                · have c2 : decide ((P3 : Int) + 1 < (P2 : Int) + 1) = true := decide_eq_true (by omega)
                  have c3 : decide (P3 < P2) = true := decide_eq_true (by omega)
                  obtain ⟨v1, v2, v3⟩ := HNX.out ((P3 : Int) + 1) (by rw [HST.out]; omega)
                  clear HNX HT HST hD
                  go_wp2_with fail
                  go_region
                  go_wp2_with fail
                  go_roundw
                  case rel => exact ⟨k, _, by omega, rfl, Lib.hid v1.out.drew, v2, v3⟩
                  case measure => first | (simp [intOf]; done) | (simp [intOf]; omega)
                · have c2 : decide ((P3 : Int) + 1 < (P2 : Int) + 1) = false := decide_eq_false (by omega)
                  have c3 : decide (P3 < P2) = false := decide_eq_false (by omega)
                  obtain ⟨v1, v2, v3⟩ := HNX.out ((P2 : Int) + 1) (by rw [HST.out]; omega)
                  clear HNX HT HST hD
                  go_wp2_with fail
                  go_region
                  go_wp2_with fail
                  go_roundw
                  case rel => exact ⟨k, _, by omega, rfl, Lib.hid v1.out.drew, v2, v3⟩
                  case measure => first | (simp [intOf]; done) | (simp [intOf]; omega)
              · have c1 : decide ((P2 : Int) + 1 < (P1 : Int)) = false := decide_eq_false (by omega)
                by_cases k2 : P3 + 1 < P1
                · have c2 : decide ((P3 : Int) + 1 < (P1 : Int)) = true := decide_eq_true (by omega)
                  obtain ⟨v1, v2, v3⟩ := HNX.out ((P3 : Int) + 1) (by rw [HST.out]; omega)
                  clear HNX HT HST hD
                  go_wp2_with fail
                  go_region
                  go_wp2_with fail
                  go_roundw
                  case rel => exact ⟨k, _, by omega, rfl, Lib.hid v1.out.drew, v2, v3⟩
                  case measure => first | (simp [intOf]; done) | (simp [intOf]; omega)
                · have c2 : decide ((P3 : Int) + 1 < (P1 : Int)) = false := decide_eq_false (by omega)
                  obtain ⟨v1, v2, v3⟩ := HNX.out ((P1 : Int)) (by rw [HST.out]; omega)
                  clear HNX HT HST hD
                  go_wp2_with fail
                  go_region
                  go_wp2_with fail
                  go_roundw
                  case rel => exact ⟨k, _, by omega, rfl, Lib.hid v1.out.drew, v2, v3⟩
                  case measure => first | (simp [intOf]; done) | (simp [intOf]; omega)
            · subst hd
              by_cases k1 : P2 + 1 < P1 + 1
              · have c9 : decide (P2 < P1) = true := decide_eq_true (by omega)
                have c1 : decide ((P2 : Int) + 1 < ((P1 : Int) + 1)) = true := decide_eq_true (by omega)
                by_cases k2 : P3 + 1 < P2 + 1
                · have c2 : decide ((P3 : Int) + 1 < (P2 : Int) + 1) = true := decide_eq_true (by omega)
                  have c3 : decide (P3 < P2) = true := decide_eq_true (by omega)
                  obtain ⟨v1, v2, v3⟩ := HNX.out ((P3 : Int) + 1) (by rw [HST.out]; omega)
                  clear HNX HT HST hD
                  go_wp2_with fail
                  go_region
                  go_wp2_with fail
                  go_roundw
                  case rel => exact ⟨k, _, by omega, rfl, Lib.hid v1.out.drew, v2, v3⟩
                  case measure => first | (simp [intOf]; done) | (simp [intOf]; omega)
                · have c2 : decide ((P3 : Int) + 1 < (P2 : Int) + 1) = false := decide_eq_false (by omega)
                  have c3 : decide (P3 < P2) = false := decide_eq_false (by omega)
                  obtain ⟨v1, v2, v3⟩ := HNX.out ((P2 : Int) + 1) (by rw [HST.out]; omega)
                  clear HNX HT HST hD
                  go_wp2_with fail
                  go_region
                  go_wp2_with fail
                  go_roundw
                  case rel => exact ⟨k, _, by omega, rfl, Lib.hid v1.out.drew, v2, v3⟩
                  case measure => first | (simp [intOf]; done) | (simp [intOf]; omega)
              · have c9 : decide (P2 < P1) = false := decide_eq_false (by omega)
                have c1 : decide ((P2 : Int) + 1 < ((P1 : Int) + 1)) = false := decide_eq_false (by omega)
                by_cases k2 : P3 + 1 < P1 + 1
                · have c8 : decide (P3 < P1) = true := decide_eq_true (by omega)
                  have c2 : decide ((P3 : Int) + 1 < ((P1 : Int) + 1)) = true := decide_eq_true (by omega)
                  obtain ⟨v1, v2, v3⟩ := HNX.out ((P3 : Int) + 1) (by rw [HST.out]; omega)
                  clear HNX HT HST hD
                  go_wp2_with fail
                  go_region
                  go_wp2_with fail
                  go_roundw
                  case rel => exact ⟨k, _, by omega, rfl, Lib.hid v1.out.drew, v2, v3⟩
                  case measure => first | (simp [intOf]; done) | (simp [intOf]; omega)
                · have c8 : decide (P3 < P1) = false := decide_eq_false (by omega)
                  have c2 : decide ((P3 : Int) + 1 < ((P1 : Int) + 1)) = false := decide_eq_false (by omega)
                  obtain ⟨v1, v2, v3⟩ := HNX.out (((P1 : Int) + 1)) (by rw [HST.out]; omega)
                  clear HNX HT HST hD
                  go_wp2_with fail
                  go_region
                  go_wp2_with fail
                  go_roundw
                  case rel => exact ⟨k, _, by omega, rfl, Lib.hid v1.out.drew, v2, v3⟩
                  case measure => first | (simp [intOf]; done) | (simp [intOf]; omega)
end Go.Proofs.YtclahhkcbkpofaaDoor
/- Arguments of any depth (numbers, bools, strings, structs, slices): what a value reads as, once for all types. -/
namespace Go.Proofs.YtclahhkcbkpofaaDoor
open Go.RowKit Go.ChangeShapes Go.WideShapes Go.Deep
/-- A shape: a number, a bool, a string, a slice (its element's shape and bytes), a struct as a list of fields. -/
inductive Ty where
  | int (k : IntKind)
  | bool
  | str
  | slice (e : Ty) (bytes : Nat)
  | nil
  | cons (f r : Ty)
def Ty.size : Ty → Nat
  | .nil => 0
  | .cons f r => f.size + r.size
  | _ => 1
structure SlH where
  A : Option Addr
  n : Nat
  c : Nat
def Ty.den : Ty → Type
  | .int _ => Int
  | .bool => Bool
  | .str => ByteArray
  | .slice e _ => SlH × (Nat → e.den)
  | .nil => Unit
  | .cons f r => f.den × r.den
theorem Ty.inh : (t : Ty) → Nonempty t.den
  | .int _ => ⟨(0 : Int)⟩
  | .bool => ⟨false⟩
  | .str => ⟨ByteArray.empty⟩
  | .slice e _ => by
    obtain ⟨x⟩ := Ty.inh e
    exact ⟨(⟨none, 0, 0⟩, fun _ => x)⟩
  | .nil => ⟨()⟩
  | .cons f r => by
    obtain ⟨x⟩ := Ty.inh f
    obtain ⟨y⟩ := Ty.inh r
    exact ⟨(x, y)⟩
def SlH.ok (s : SlH) (bytes : Nat) : Prop := s.n ≤ s.c ∧ s.c ≤ maxLen ∧ s.n * bytes ≤ reachBytes ∧ (s.A = none → s.c = 0)
/-- The cells cs read as d. -/
def Reads (w : World) (B : Nat) : (t : Ty) → t.den → List Value → Prop
  | .int k, d, cs => ∃ z : Int, d = z ∧ cs = [.int k z] ∧ (Lit.int k z).wf = true
  | .bool, d, cs => ∃ b : Bool, d = b ∧ cs = [.bool b]
  | .str, d, cs => ∃ s : ByteArray, d = s ∧ cs = [.string s] ∧ s.size ≤ maxLen ∧ s.size ≤ reachBytes
  | .slice e bytes, d, cs => cs = [.slice d.1.A d.1.n d.1.c] ∧ d.1.ok bytes ∧ (0 < d.1.n → ∃ b off, d.1.A = some ⟨b, off, none⟩ ∧ b < B ∧
      ∀ i, i < d.1.n → ∃ cl : List Value, cl.length = e.size ∧ (∀ j u, cl[j]? = some u → w.cell? ⟨b, off + (i * e.size + j), none⟩ = some u) ∧ Reads w B e (d.2 i) cl)
  | .nil, _, cs => cs = []
  | .cons f r, d, cs => ∃ c1 c2, cs = c1 ++ c2 ∧ c1.length = f.size ∧ Reads w B f d.1 c1 ∧ Reads w B r d.2 c2

theorem Reads.keep {w w' : World} {B B' : Nat} (hB : B ≤ B') (hk : ∀ b o, b < B → w'.cell? ⟨b, o, none⟩ = w.cell? ⟨b, o, none⟩) : ∀ {t : Ty} {d : t.den} {cs : List Value}, Reads w B t d cs → Reads w' B' t d cs
  | .int _, _, _, h => h
  | .bool, _, _, h => h
  | .str, _, _, h => h
  | .slice e bytes, d, cs, h => by
    obtain ⟨h1, h2, h3⟩ := h
    refine ⟨h1, h2, fun hn => ?_⟩
    obtain ⟨b, off, hA, hb, hi⟩ := h3 hn
    refine ⟨b, off, hA, by omega, fun i hin => ?_⟩
    obtain ⟨cl, hl, hc, hr⟩ := hi i hin
    exact ⟨cl, hl, fun j u hu => (hk _ _ hb).trans (hc j u hu), Reads.keep hB hk hr⟩
  | .nil, _, _, h => h
  | .cons f r, d, cs, h => by
    obtain ⟨c1, c2, h1, h2, h3, h4⟩ := h
    exact ⟨c1, c2, h1, h2, Reads.keep hB hk h3, Reads.keep hB hk h4⟩
theorem Reads.below {w w' : World} {t : Ty} {d : t.den} {cs : List Value} (h : Reads w w.heap.size t d cs) (hb : Below w.heap.size w w') : Reads w' w'.heap.size t d cs :=
  h.keep hb.size fun b o hl => hb.cell (p := ⟨b, o, none⟩) hl
theorem Reads.len {w : World} {B : Nat} : ∀ {t : Ty} {d : t.den} {cs : List Value}, Reads w B t d cs → cs.length = t.size
  | .int _, _, _, ⟨_, _, h, _⟩ => by rw [h]; rfl
  | .bool, _, _, ⟨_, _, h⟩ => by rw [h]; rfl
  | .str, _, _, ⟨_, _, h, _⟩ => by rw [h]; rfl
  | .slice _ _, _, _, ⟨h, _⟩ => by rw [h]; rfl
  | .nil, _, _, h => by rw [show _ = [] from h]; rfl
  | .cons f r, d, cs, ⟨c1, c2, h, hl, _, h2⟩ => by
    have := Reads.len h2
    rw [h, List.length_append, hl, this]
    rfl

/-- The cells of what is read. -/
def Ty.cells : (t : Ty) → t.den → List Value
  | .int k, d => [.int k d]
  | .bool, d => [.bool d]
  | .str, d => [.string d]
  | .slice _ _, d => [.slice d.1.A d.1.n d.1.c]
  | .nil, _ => []
  | .cons f r, d => f.cells d.1 ++ r.cells d.2
theorem Reads.cells {w : World} {B : Nat} : ∀ {t : Ty} {d : t.den} {cs : List Value}, Reads w B t d cs → cs = t.cells d
  | .int _, _, _, ⟨_, h, e, _⟩ => by rw [e, h]; rfl
  | .bool, _, _, ⟨_, h, e⟩ => by rw [e, h]; rfl
  | .str, _, _, ⟨_, h, e, _⟩ => by rw [e, h]; rfl
  | .slice _ _, _, _, ⟨h, _⟩ => h
  | .nil, _, _, h => h
  | .cons f r, d, cs, ⟨c1, c2, h, _, h1, h2⟩ => by rw [h, Reads.cells h1, Reads.cells h2]; rfl
theorem Reads.sl {w : World} {B bytes : Nat} {e : Ty} {A : Option Addr} {n c : Nat} {x : Nat → e.den} {cs : List Value} (h : Reads w B (.slice e bytes) (⟨A, n, c⟩, x) cs) (hl : ∀ d : e.den, (e.cells d).length = e.size) :
    Sl w B e.size A n ((List.range n).flatMap fun i => e.cells (x i)) := by
  obtain ⟨_, _, h3⟩ := h
  refine ⟨by rw [flat_length _ e.size (fun i => hl (x i)), List.length_range], fun hn => ?_⟩
  obtain ⟨b, off, hA, hb, hi⟩ := h3 hn
  refine ⟨b, off, hA, hb, fun j u hu => ?_⟩
  have hjl : j < n * e.size := by
    have := (List.getElem?_eq_some_iff.1 hu).1
    rw [flat_length _ e.size (fun i => hl (x i)), List.length_range] at this
    exact this
  have hs : 0 < e.size := by
    rcases Nat.eq_zero_or_pos e.size with h0 | h0
    · rw [h0, Nat.mul_zero] at hjl; omega
    · exact h0
  have hq : j / e.size < n := Nat.div_lt_of_lt_mul (by rw [Nat.mul_comm]; exact hjl)
  have hr : j % e.size < e.size := Nat.mod_lt _ hs
  have hj : j / e.size * e.size + j % e.size = j := by rw [Nat.mul_comm]; exact Nat.div_add_mod j e.size
  obtain ⟨cl, _, hc, hrd⟩ := hi (j / e.size) hq
  rw [← hj] at hu ⊢
  rw [flat_at _ e.size (fun i => hl (x i)) (List.range n) (j / e.size) (j % e.size) (j / e.size) (by simp [hq]) hr] at hu
  refine hc (j % e.size) u ?_
  rw [hrd.cells]
  exact hu
theorem Reads.elem {w : World} {B bytes : Nat} {e : Ty} {A : Option Addr} {n c : Nat} {x : Nat → e.den} {cs : List Value} (h : Reads w B (.slice e bytes) (⟨A, n, c⟩, x) cs) {i : Nat} (hi : i < n) : ∃ cl, Reads w B e (x i) cl := by
  obtain ⟨_, _, h3⟩ := h
  obtain ⟨_, _, _, _, hh⟩ := h3 (show 0 < n by omega)
  obtain ⟨cl, _, _, hr⟩ := hh i hi
  exact ⟨cl, hr⟩

def tyFields (P : Program) (g : TypeId → Option Ty) : List Field → Nat → Option Ty
  | [], _ => some .nil
  | f :: fs, o => if f.offset = o then
      match g f.type with
      | some τ => if P.cellsOf f.type = τ.size then (tyFields P g fs (o + τ.size)).map (.cons τ) else none
      | none => none
    else none
def tyOf (P : Program) : Nat → TypeId → Option Ty
  | 0, _ => none
  | k + 1, t => match P.underlying t with
    | some (.int k) => some (.int k)
    | some .bool => some .bool
    | some .string => some .str
    | some (.slice e) => match tyOf P k e with
      | some τ => if P.cellsOf e = τ.size ∧ 0 < τ.size then some (.slice τ (P.bytesOf e)) else none
      | none => none
    | some (.struct fs) => match tyFields P (tyOf P k) fs.toList 0 with
      | some τ => if P.cellsOf t = τ.size then some τ else none
      | none => none
    | _ => none

section
variable {H : Type} {enc : TypeId × Value → H} {P : Program} {w : World} {base : Nat} {spare : Nat → Bool} {held : Bool}
def Small (P : Program) (t : TypeId) (d : DataW H) : Prop := ∀ n ∈ d.weights P t, n ≤ reachBytes
theorem weights_mem_all {e : TypeId} : ∀ {ds : List (DataW H)} {d : DataW H}, d ∈ ds → ∀ n ∈ d.weights P e, n ∈ DataW.weightsAll P e ds
  | x :: ds, d, hd, n, hn => by
    rw [DataW.weightsAll, List.mem_append]
    rcases List.mem_cons.1 hd with rfl | h
    · exact .inl hn
    · exact .inr (weights_mem_all h n hn)
theorem reads_fields {k n : Nat} (ih : ∀ (t : TypeId) (τ : Ty), tyOf P k t = some τ → ∀ (fuel : Nat) (cs : List Value) (x : DataW H × List MemPlace), DataW.trod enc P w base spare held fuel t cs = some x → Small P t x.1 → ∃ d : τ.den, Reads w w.heap.size τ d cs) (cs : List Value) :
    ∀ (fs : List Field) (o : Nat) (τ : Ty), tyFields P (tyOf P k) fs o = some τ → cs.length = o + τ.size →
      (∀ f ∈ fs, ∃ y : DataW H × List MemPlace, DataW.trod enc P w base spare held n f.type ((cs.drop f.offset).take (P.cellsOf f.type)) = some y ∧ Small P f.type y.1) → ∃ d : τ.den, Reads w w.heap.size τ d (cs.drop o)
  | [], o, τ, h, hl, _ => by
    rw [tyFields] at h
    injection h with h
    subst h
    exact ⟨(), List.drop_eq_nil_of_le (by rw [hl]; exact Nat.le_refl _)⟩
  | f :: fs, o, τ, h, hl, hf => by
    rw [tyFields] at h
    split at h
    · rename_i ho
      split at h
      · rename_i τ0 h0
        split at h
        · rename_i hc
          cases hr : tyFields P (tyOf P k) fs (o + τ0.size) with
          | none => rw [hr] at h; cases h
          | some τ1 =>
            rw [hr] at h
            injection h with h
            subst h
            have hl' : cs.length = o + τ0.size + τ1.size := by rw [hl]; show o + (τ0.size + τ1.size) = _; omega
            obtain ⟨y, hy, hs⟩ := hf f (List.mem_cons_self ..)
            obtain ⟨d0, r0⟩ := ih f.type τ0 h0 n _ y hy hs
            obtain ⟨d1, r1⟩ := reads_fields ih cs fs (o + τ0.size) τ1 hr hl' (fun g hg => hf g (List.mem_cons_of_mem _ hg))
            rw [hc, ho] at r0
            refine ⟨(d0, d1), (cs.drop o).take τ0.size, cs.drop (o + τ0.size), ?_, ?_, r0, r1⟩
            · rw [← List.drop_drop, List.take_append_drop]
            · rw [List.length_take, List.length_drop]; omega
        · cases h
      · cases h
    · cases h
theorem reads_of : ∀ (k : Nat) (t : TypeId) (τ : Ty), tyOf P k t = some τ → ∀ (fuel : Nat) (cs : List Value) (x : DataW H × List MemPlace), DataW.trod enc P w base spare held fuel t cs = some x → Small P t x.1 → ∃ d : τ.den, Reads w w.heap.size τ d cs
  | 0, t, τ, h, _, _, _, _, _ => by rw [tyOf] at h; cases h
  | k + 1, t, τ, h, fuel, cs, x, hx, hs => by
    have ih := reads_of k
    rw [tyOf] at h
    split at h
    · rename_i kk hu
      injection h with h
      subst h
      obtain ⟨z, e, _, wz⟩ := DataW.trod_int hu hx
      exact ⟨z, z, rfl, e, wz⟩
    · rename_i hu
      injection h with h
      subst h
      obtain ⟨b, e, _⟩ := DataW.trod_bool hu hx
      exact ⟨b, b, rfl, e⟩
    · rename_i hu
      injection h with h
      subst h
      obtain ⟨s, e, ex, hm⟩ := DataW.trod_string hu hx
      subst ex
      refine ⟨s, s, rfl, e, hm, ?_⟩
      have := hs s.data.toList.length (by simp [DataW.weights])
      simpa using this
    · rename_i e hu
      split at h
      · rename_i τ0 h0
        split at h
        · rename_i hc
          obtain ⟨hc, hp⟩ := hc
          injection h with h
          subst h
          rcases open_slice hu hx with ⟨hcs, _⟩ | ⟨a, len, cap, mm, nn, D, Pl, hcs, _, hlc, hcm, hmm, ex, hi⟩
          · obtain ⟨x0⟩ := Ty.inh τ0
            exact ⟨(⟨none, 0, 0⟩, fun _ => x0), hcs, ⟨Nat.le_refl _, Nat.zero_le _, by rw [Nat.zero_mul]; exact Nat.zero_le _, fun _ => rfl⟩, fun h => absurd h (Nat.lt_irrefl _)⟩
          · have hle : len ≤ mm := by rw [hmm]; split <;> omega
            subst ex
            have hsl : Small P t (DataW.slice ((List.range len).map D) ((List.range (mm - len)).map fun j => D (len + j))) := hs
            have hbytes : len * P.bytesOf e ≤ reachBytes := by
              have := hsl ((((List.range len).map D).length + ((List.range (mm - len)).map fun j => D (len + j)).length) * P.bytesOf e) (by simp [DataW.weights, hu])
              refine Nat.le_trans (Nat.mul_le_mul_right _ ?_) this
              simp
            have row : ∀ i, i < len → ∃ d : τ0.den, ∃ cl : List Value, cl.length = τ0.size ∧ (∀ j u, cl[j]? = some u → w.cell? ((a.add (i * τ0.size)).add j) = some u) ∧ Reads w w.heap.size τ0 d cl := by
              intro i hin
              obtain ⟨cs', hcs', htr⟩ := hi i (by omega)
              rw [hc] at hcs'
              obtain ⟨_, hcl, hat⟩ := World.cells?_some hcs'
              obtain ⟨d, hd⟩ := ih e τ0 h0 nn cs' _ htr (fun n hn => hsl n (by
                rw [DataW.weights, hu]
                simp only [List.mem_cons, List.mem_append]
                exact .inr (.inl (weights_mem_all (List.mem_map.2 ⟨i, List.mem_range.2 hin, rfl⟩) n hn))))
              refine ⟨d, cs', hd.len, fun j u hu => ?_, hd⟩
              have hj : j < τ0.size := by have := (List.getElem?_eq_some_iff.1 hu).1; have := hd.len; omega
              rw [hat j hj, hu]
            haveI : Inhabited τ0.den := ⟨Classical.choice (Ty.inh τ0)⟩
            obtain ⟨g, hg⟩ := choose_lt' row
            refine ⟨(⟨some a, len, cap⟩, g), hcs, ⟨hlc, hcm, hbytes, fun e => by cases e⟩, fun hn => ?_⟩
            have hn' : 0 < len := hn
            obtain ⟨cl, hl, hcell, _⟩ := hg 0 hn'
            have h00 := hcell 0 (cl[0]'(by omega)) (List.getElem?_eq_getElem _)
            obtain ⟨hb, hsp⟩ := lt_of_cell h00
            simp only [Nat.zero_mul, Addr.add, if_true] at hb hsp
            obtain ⟨ab, ao, asp⟩ := a
            simp only at hb hsp
            subst hsp
            refine ⟨ab, ao, rfl, hb, fun i hin => ?_⟩
            obtain ⟨cl, hl, hcell, hr⟩ := hg i hin
            refine ⟨cl, hl, fun j u hu => ?_, hr⟩
            have := hcell j u hu
            rw [Addr.add_lit, Addr.add_lit, Nat.add_assoc] at this
            exact this
        · cases h
      · cases h
    · rename_i fs hu
      split at h
      · rename_i τ0 h0
        split at h
        · rename_i hc
          injection h with h
          subst h
          obtain ⟨xs, n, _, ex, hl, hxl, hf⟩ := DataW.trod_struct hu hx
          subst ex
          have hS : Small P t (DataW.agg (xs.map (·.1))) := hs
          have := reads_fields (n := n) ih cs fs.toList 0 τ0 h0 (by rw [hl, hc, Nat.zero_add]) (fun f hm => by
            obtain ⟨i, hi⟩ := List.mem_iff_getElem?.1 hm
            have hi' : fs[i]? = some f := by simpa using hi
            have hlt : i < xs.length := by rw [hxl]; exact (Array.getElem?_eq_some_iff.1 hi').1
            refine ⟨xs[i], by rw [hf i f hi', List.getElem?_eq_getElem hlt], fun m hm' => hS m ?_⟩
            rw [DataW.weights, hu]
            exact DataW.weights_mem_each (j := i) (t := f.type) (d := xs[i].1) (by simp [hi]) (by simp [hlt]) m hm')
          rwa [List.drop_zero] at this
        · cases h
      · cases h
    · cases h
theorem small_of {ts : List TypeId} {ds : List (DataW H)} (h : (DataW.weightsEach P ts ds).all (· ≤ reachBytes) = true) {j : Nat} {t : TypeId} {d : DataW H} (ht : ts[j]? = some t) (hd : ds[j]? = some d) : Small P t d :=
  fun n hn => by simpa using List.all_eq_true.1 h n (DataW.weights_mem_each ht hd n hn)
theorem open_deep {k bytes : Nat} {t : TypeId} {e : Ty} {A : Option Addr} {n c : Nat} {d : DataW H} {p : List MemPlace} (hT : tyOf P k t = some (.slice e bytes)) (h : DataW.Trod enc P w base spare held t (.slice A n c) d p) (hs : Small P t d) :
    ∃ x : Nat → e.den, Reads w w.heap.size (.slice e bytes) (⟨A, n, c⟩, x) [.slice A n c] := by
  obtain ⟨m, hm⟩ := h
  obtain ⟨⟨⟨A', n', c'⟩, x⟩, hr⟩ := reads_of k t _ hT m _ _ hm hs
  have e : [Value.slice A n c] = [.slice A' n' c'] := hr.1
  simp only [List.cons.injEq, Value.slice.injEq, and_true] at e
  obtain ⟨rfl, rfl, rfl⟩ := e
  exact ⟨x, hr⟩
end
end Go.Proofs.YtclahhkcbkpofaaDoor
/- Arguments of whole numbers. -/
namespace Go.Proofs.YtclahhkcbkpofaaDoor
open Go.RowKit Go.Maps
theorem ty_ints : tyOf Tryd.prog 8 23 = some (.slice (.int .i64) 8) := by kernel_rfl
/-- The numbers of a list that is read. -/
def intsOf (n : Nat) (x : Nat → (Ty.int .i64).den) : List Int := (List.range n).map fun i => (show Int from x i)
/-- An argument of whole numbers. -/
structure IntsIn (w : World) (A : Option Addr) (n c : Nat) (l : List Int) : Prop where
  len : l.length = n
  nc : n ≤ c
  cm : c ≤ maxLen
  sl : Sl w w.heap.size 1 A n (l.map (.int .i64))
theorem ints_in {w : World} {A : Option Addr} {n c : Nat} {x : Nat → (Ty.int .i64).den} {cs : List Value} (h : Reads w w.heap.size (.slice (.int .i64) 8) (⟨A, n, c⟩, x) cs) : IntsIn w A n c (intsOf n x) := by
  have hs := h.sl (e := .int .i64) (fun d => rfl)
  refine ⟨by unfold intsOf; rw [List.length_map, List.length_range], h.2.1.1, h.2.1.2.1, ?_⟩
  have e : ((List.range n).flatMap fun i => Ty.cells (.int .i64) (x i)) = (intsOf n x).map (.int .i64) := by
    unfold intsOf
    rw [List.map_map, List.map_eq_flatMap]
    rfl
  rw [← e]
  exact hs
end Go.Proofs.YtclahhkcbkpofaaDoor
/- The walk of FuzzyDistances. -/
namespace Go.Proofs.YtclahhkcbkpofaaDoor
open Go.RowKit
open Sp
set_option linter.unusedVariables false
set_option maxRecDepth 100000 in
set_option maxHeartbeats 8000000 in
theorem fdist_walk (w : World) (A1 : Option Addr) (m c1 : Nat) (A2 : Option Addr) (n c2 : Nat) (a b : List Int) (h1 : IntsIn w A1 m c1 a) (h2 : IntsIn w A2 n c2 b) (hT : Tab w) :
    Calls Tryd.prog 5 #[.slice A1 m c1, .slice A2 n c2] w fun e w' => e = .returned (.bool true) ∧ Below w.heap.size w w' := by
  have HA := Lib.hid (fawake_any w hT)
  have HT := Lib.hid hT
  have HS1 := Lib.hid h1.sl
  have HS2 := Lib.hid h2.sl
  have hc1 := h1.cm
  have hc2 := h2.cm
  have hn1 := h1.nc
  have hn2 := h2.nc
  clear hT h1 h2
  go_enter Tryd.func5, Tryd.ntmps5
  go_wp2_with fail
  refine HA.out.mono ?_
  rintro e w1 ⟨rfl, hb1⟩
  have HB1 := Lib.hid hb1
  have HT1 := Lib.hid (HT.out.below hb1)
  clear hb1 HA
  by_cases hm : m ≤ 60
  · have qm : decide (60 < m) = false := decide_eq_false (by omega)
    by_cases hn : n ≤ 60
    · have qn : decide (60 < n) = false := decide_eq_false (by omega)
      go_wp2_with fail
      refine (distance_any w1 w.heap.size HB1.out.size A1 A2 m n c1 c2 a b (HS1.out.below HB1.out) (HS2.out.below HB1.out) (by omega) (by omega)).mono ?_
      rintro e w2 ⟨rfl, hb2⟩
      have HB2 := Lib.hid (bcall HB1.out hb2)
      clear hb2
      go_wp2_with fail
      refine (rdistance_any w2 w.heap.size HB2.out.size A1 A2 m n c1 c2 a b (HS1.out.below HB2.out) (HS2.out.below HB2.out) (by omega) (by omega)).mono ?_
      rintro e w3 ⟨rfl, hb3⟩
      have HB3 := Lib.hid (bcall HB2.out hb3)
      clear hb3
      go_wp2_with fail
      go_ret
      exact ⟨by simp, HB3.out⟩
    · have qn : decide (60 < n) = true := decide_eq_true (by omega)
      go_wp2_with fail
      refine (fawake_any w1 HT1.out).mono ?_
      rintro e w2 ⟨rfl, hb2⟩
      have HB2 := Lib.hid (bcall HB1.out hb2)
      clear hb2
      go_wp2_with fail
      go_ret
      exact ⟨rfl, HB2.out⟩
  · have qm : decide (60 < m) = true := decide_eq_true (by omega)
    go_wp2_with fail
    refine (fawake_any w1 HT1.out).mono ?_
    rintro e w2 ⟨rfl, hb2⟩
    have HB2 := Lib.hid (bcall HB1.out hb2)
    clear hb2
    go_wp2_with fail
    go_ret
    exact ⟨rfl, HB2.out⟩
open Go.Maps in
theorem fdist_walkc (w : World) (A1 : Option Addr) (m c1 : Nat) (x1 : Nat → (Ty.int .i64).den) (h1 : IntsIn w A1 m c1 (intsOf m x1)) (A2 : Option Addr) (n c2 : Nat) (x2 : Nat → (Ty.int .i64).den) (h2 : IntsIn w A2 n c2 (intsOf n x2)) (hT : Tab w) :
    Calls Tryd.prog 5 #[.slice A1 m c1, .slice A2 n c2] w fun e w' => e = .returned (.bool true) ∧ Below w.heap.size w w' := fdist_walk w A1 m c1 A2 n c2 _ _ h1 h2 hT
end Go.Proofs.YtclahhkcbkpofaaDoor
/- The walk of FuzzyMetric. -/
namespace Go.Proofs.YtclahhkcbkpofaaDoor
open Go.RowKit
open Sp
set_option linter.unusedVariables false
set_option linter.unusedSimpArgs false
theorem take_more {a b : List Int} {i : Nat} {x y : Int} (hx : a[i]? = some x) (hy : b[i]? = some y) : (a.take (i + 1) = b.take (i + 1)) ↔ (a.take i = b.take i ∧ x = y) := by
  rw [List.take_add_one, List.take_add_one, hx, hy]
  simp only [Option.toList_some]
  have h1 := (List.getElem?_eq_some_iff.1 hx).1
  have h2 := (List.getElem?_eq_some_iff.1 hy).1
  constructor
  · intro h
    have h3 := List.append_inj h (by rw [List.length_take, List.length_take]; omega)
    exact ⟨h3.1, by simpa using h3.2⟩
  · rintro ⟨h, rfl⟩
    rw [h]
theorem take_full {a b : List Int} {i : Nat} (h : ¬ (i < a.length ∧ i < b.length)) : (a.length = b.length ∧ a.take i = b.take i) ↔ a = b := by
  constructor
  · rintro ⟨h1, h2⟩
    rwa [List.take_of_length_le (by omega), List.take_of_length_le (by omega)] at h2
  · rintro rfl
    exact ⟨rfl, rfl⟩
set_option maxRecDepth 100000 in
set_option maxHeartbeats 8000000 in
theorem fmet_walk (w : World) (A1 : Option Addr) (m c1 : Nat) (A2 : Option Addr) (n c2 : Nat) (A3 : Option Addr) (k c3 : Nat) (a b c : List Int) (h1 : IntsIn w A1 m c1 a) (h2 : IntsIn w A2 n c2 b) (h3 : IntsIn w A3 k c3 c) (hT : Tab w) :
    Calls Tryd.prog 7 #[.slice A1 m c1, .slice A2 n c2, .slice A3 k c3] w fun e w' => e = .returned (.bool true) ∧ Below w.heap.size w w' := by
  have HA := Lib.hid (fawake_any w hT)
  have HT := Lib.hid hT
  have HS1 := Lib.hid h1.sl
  have HS2 := Lib.hid h2.sl
  have HS3 := Lib.hid h3.sl
  have HL1 := Lib.hid h1.len
  have HL2 := Lib.hid h2.len
  have HL3 := Lib.hid h3.len
  have hc1 := h1.cm
  have hc2 := h2.cm
  have hc3 := h3.cm
  have hn1 := h1.nc
  have hn2 := h2.nc
  have hn3 := h3.nc
  clear hT h1 h2 h3
  go_enter Tryd.func7, Tryd.ntmps7
  go_wp2_with fail
  refine HA.out.mono ?_
  rintro e w1 ⟨rfl, hb1⟩
  have HB1 := Lib.hid hb1
  have HT1 := Lib.hid (HT.out.below hb1)
  clear hb1 HA
  by_cases hbig : m ≤ 40 ∧ n ≤ 40 ∧ k ≤ 40
  · obtain ⟨hm, hn, hk⟩ := hbig
    have qm : decide (40 < m) = false := decide_eq_false (by omega)
    have qn : decide (40 < n) = false := decide_eq_false (by omega)
    have qk : decide (40 < k) = false := decide_eq_false (by omega)
    go_wp2_with fail
    refine (distance_any w1 w.heap.size HB1.out.size A1 A2 m n c1 c2 a b (HS1.out.below HB1.out) (HS2.out.below HB1.out) (by omega) (by omega)).mono ?_
    rintro e w2 ⟨rfl, hb2⟩
    have HB2 := Lib.hid (bcall HB1.out hb2)
    clear hb2
    go_wp2_with fail
    refine (distance_any w2 w.heap.size HB2.out.size A2 A3 n k c2 c3 b c (HS2.out.below HB2.out) (HS3.out.below HB2.out) (by omega) (by omega)).mono ?_
    rintro e w3 ⟨rfl, hb3⟩
    have HB3 := Lib.hid (bcall HB2.out hb3)
    clear hb3
    go_wp2_with fail
    refine (distance_any w3 w.heap.size HB3.out.size A1 A3 m k c1 c3 a c (HS1.out.below HB3.out) (HS3.out.below HB3.out) (by omega) (by omega)).mono ?_
    rintro e w4 ⟨rfl, hb4⟩
    have HB4 := Lib.hid (bcall HB3.out hb4)
    clear hb4
    obtain ⟨x, hx⟩ : ∃ x, lev a b = x := ⟨_, rfl⟩
    obtain ⟨y, hy⟩ : ∃ y, lev b c = y := ⟨_, rfl⟩
    obtain ⟨z, hz⟩ : ∃ z, lev a c = z := ⟨_, rfl⟩
    have HX := Lib.hid hx
    have HY := Lib.hid hy
    have HZ := Lib.hid hz
    have hxm : x ≤ max m n := by rw [← hx, ← HL1.out, ← HL2.out]; exact lev_max a b
    have hym : y ≤ max n k := by rw [← hy, ← HL2.out, ← HL3.out]; exact lev_max b c
    rw [hx, hy, hz]
    clear hx hy hz
    go_wp2_with fail
    go_loopw [10, 11] (fun fv iv wr => ∃ (i : Nat) (s : Bool), i ≤ m ∧ i ≤ n ∧ iv = .int .i64 (i : Int) ∧ fv = .bool s ∧ Hid (s = decide (m = n ∧ a.take i = b.take i)) ∧ Hid (Below w.heap.size w wr)) (fun _ iv _ => m + 1 - (intOf iv).toNat)
    case atStart => exact ⟨0, _, Nat.zero_le _, Nat.zero_le _, rfl, rfl, (by show _ = _; rw [Bool.eq_iff_iff]; simp; omega), HB4⟩
    case round =>
      obtain ⟨i, s, him, hin, rfl, rfl, HSM, HBR⟩ := hrel
      by_cases hlt : i < m ∧ i < n
      · obtain ⟨g1, g2⟩ := hlt
        have q1 : decide (i < m) = true := decide_eq_true g1
        have q2 : decide (i < n) = true := decide_eq_true g2
        have e1 := HL1.out
        have e2 := HL2.out
        obtain ⟨x', hx'⟩ : ∃ x, a[i]? = some x := ⟨_, List.getElem?_eq_getElem (by omega)⟩
        obtain ⟨y', hy'⟩ : ∃ x, b[i]? = some x := ⟨_, List.getElem?_eq_getElem (by omega)⟩
        have HX' := Lib.hid hx'
        have HY' := Lib.hid hy'
        obtain ⟨ab, ao, rfl, ha0, hca⟩ := HS1.out.at_ g1
        obtain ⟨bb, bo, rfl, hb0, hcb⟩ := HS2.out.at_ g2
        have ka := (HBR.out.cell (p := ⟨ab, ao + i, none⟩) ha0).trans (hca i (.int .i64 x') (by rw [List.getElem?_map, hx']; rfl))
        have kb := (HBR.out.cell (p := ⟨bb, bo + i, none⟩) hb0).trans (hcb i (.int .i64 y') (by rw [List.getElem?_map, hy']; rfl))
        clear e1 e2 hx' hy' ha0 hb0 hca hcb
        cases s
        · go_wp2_with fail
          refine wp_region_held_drew (S := fun w' => w'.cell? ⟨ab, ao + i, none⟩ = some (.int .i64 x') ∧ w'.cell? ⟨bb, bo + i, none⟩ = some (.int .i64 y')) (by kernel_rfl) ?_ (fun hHeld => ?_)
          · (try dsimp only); (first | assumption | exact ⟨ka, kb⟩)
          refine wpAnyH_take (i := 0) (v := ?_) rfl (by kernel_rfl) (by kernel_rfl) (by kernel_rfl) (fun _ _ _ h => h) (Or.inl ⟨by rfl, ?_⟩) (by assumption) ?_
          rotate_left
          · intro w hSw; (try dsimp only at hSw); go_simp; (try with_reducible rfl)
          try simp only [Act.put, List.setIfInBounds_toArray, List.set_cons_zero, List.set_cons_succ]
          refine wpAnyH_take (i := 1) (v := ?_) rfl (by kernel_rfl) (by kernel_rfl) (by kernel_rfl) (fun _ _ _ h => h) (Or.inl ⟨by rfl, ?_⟩) (by assumption) ?_
          rotate_left
          · intro w hSw; (try dsimp only at hSw); go_simp; (try with_reducible rfl)
          try simp only [Act.put, List.setIfInBounds_toArray, List.set_cons_zero, List.set_cons_succ]
          refine wpAnyH_take (i := 2) (v := undef) rfl (by kernel_rfl) (by kernel_rfl) (by kernel_rfl) (fun _ _ _ h => h) (Or.inr ⟨by kernel_rfl, rfl⟩) (by assumption) ?_
          try simp only [Act.put, List.setIfInBounds_toArray, List.set_cons_zero, List.set_cons_succ]
          refine wpAnyH_take (i := 3) (v := undef) rfl (by kernel_rfl) (by kernel_rfl) (by kernel_rfl) (fun _ _ _ h => h) (Or.inr ⟨by kernel_rfl, rfl⟩) (by assumption) ?_
          try simp only [Act.put, List.setIfInBounds_toArray, List.set_cons_zero, List.set_cons_succ]
          refine wpAnyH_take (i := 4) (v := undef) rfl (by kernel_rfl) (by kernel_rfl) (by kernel_rfl) (fun _ _ _ h => h) (Or.inr ⟨by kernel_rfl, rfl⟩) (by assumption) ?_
          try simp only [Act.put, List.setIfInBounds_toArray, List.set_cons_zero, List.set_cons_succ]
          refine wpAnyH_take (i := 5) (v := undef) rfl (by kernel_rfl) (by kernel_rfl) (by kernel_rfl) (fun _ _ _ h => h) (Or.inr ⟨by kernel_rfl, rfl⟩) (by assumption) ?_
          try simp only [Act.put, List.setIfInBounds_toArray, List.set_cons_zero, List.set_cons_succ]
          refine wpAnyH_take (i := 6) (v := undef) rfl (by kernel_rfl) (by kernel_rfl) (by kernel_rfl) (fun _ _ _ h => h) (Or.inr ⟨by kernel_rfl, rfl⟩) (by assumption) ?_
          try simp only [Act.put, List.setIfInBounds_toArray, List.set_cons_zero, List.set_cons_succ]
          refine wpAnyH_take (i := 7) (v := undef) rfl (by kernel_rfl) (by kernel_rfl) (by kernel_rfl) (fun _ _ _ h => h) (Or.inr ⟨by kernel_rfl, rfl⟩) (by assumption) ?_
          try simp only [Act.put, List.setIfInBounds_toArray, List.set_cons_zero, List.set_cons_succ]
          refine wpAnyH_take (i := 8) (v := undef) rfl (by kernel_rfl) (by kernel_rfl) (by kernel_rfl) (fun _ _ _ h => h) (Or.inr ⟨by kernel_rfl, rfl⟩) (by assumption) ?_
          try simp only [Act.put, List.setIfInBounds_toArray, List.set_cons_zero, List.set_cons_succ]
          refine wpAnyH_take (i := 9) (v := undef) rfl (by kernel_rfl) (by kernel_rfl) (by kernel_rfl) (fun _ _ _ h => h) (Or.inr ⟨by kernel_rfl, rfl⟩) (by assumption) ?_
          try simp only [Act.put, List.setIfInBounds_toArray, List.set_cons_zero, List.set_cons_succ]
          refine wpAnyH_take (i := 10) (v := undef) rfl (by kernel_rfl) (by kernel_rfl) (by kernel_rfl) (fun _ _ _ h => h) (Or.inr ⟨by kernel_rfl, rfl⟩) (by assumption) ?_
          try simp only [Act.put, List.setIfInBounds_toArray, List.set_cons_zero, List.set_cons_succ]
          refine wpAnyH_take (i := 11) (v := ?_) rfl (by kernel_rfl) (by kernel_rfl) (by kernel_rfl) (fun _ _ _ h => h) (Or.inl ⟨by rfl, ?_⟩) (by assumption) ?_
          rotate_left
          · intro w hSw; (try dsimp only at hSw); go_simp; (try with_reducible rfl)
          try simp only [Act.put, List.setIfInBounds_toArray, List.set_cons_zero, List.set_cons_succ]
          refine wpAnyH_take (i := 12) (v := ?_) rfl (by kernel_rfl) (by kernel_rfl) (by kernel_rfl) (fun _ _ _ h => h) (Or.inl ⟨by rfl, ?_⟩) (by assumption) ?_
          rotate_left
          · intro w hSw; (try dsimp only at hSw); go_simp; (try with_reducible rfl)
          try simp only [Act.put, List.setIfInBounds_toArray, List.set_cons_zero, List.set_cons_succ]
          refine wpAnyH_done (by kernel_rfl) ?_ _
          simp only [List.getElem_toArray, List.getElem_cons_zero, List.getElem_cons_succ, Act.put, List.setIfInBounds_toArray, List.set_cons_zero, List.set_cons_succ]
          have HSN : Hid (false = decide (m = n ∧ a.take (i + 1) = b.take (i + 1))) := by
            have h := HSM.out
            have ht := take_more HX'.out HY'.out
            show _ = _
            rw [eq_comm, decide_eq_false_iff_not] at h ⊢
            rintro ⟨h1, h2⟩
            exact h ⟨h1, (ht.1 h2).1⟩
          clear HSM
          go_wp2_with fail
          go_roundw
          case rel => exact ⟨i + 1, false, by omega, by omega, by go_num, rfl, HSN, HBR.out.drew⟩
          case measure => first | (simp [intOf]; done) | (simp [intOf]; omega)
        · go_wp2_with fail
          go_region_held3 (fun w' => w'.cell? ⟨ab, ao + i, none⟩ = some (.int .i64 x') ∧ w'.cell? ⟨bb, bo + i, none⟩ = some (.int .i64 y'))
            (first
              | assumption
              | exact ⟨ka, kb⟩)
            (first
              | (go_at_call 99999))
          have HSN : Hid ((x' == y') = decide (m = n ∧ a.take (i + 1) = b.take (i + 1))) := by
            have h := HSM.out
            have ht := take_more HX'.out HY'.out
            show _ = _
            rw [eq_comm, decide_eq_true_eq] at h
            rw [Bool.eq_iff_iff, beq_iff_eq, decide_eq_true_eq, ht]
            exact ⟨fun e => ⟨h.1, h.2, e⟩, fun e => e.2.2⟩
          clear HSM
          go_wp2_with fail
          go_roundw
          case rel => exact ⟨i + 1, x' == y', by omega, by omega, by go_num, rfl, HSN, HBR.out.drew⟩
          case measure => first | (simp [intOf]; done) | (simp [intOf]; omega)
      · have hsd : s = decide (x = 0) := by
          rw [HSM.out, ← HX.out]
          have h := take_full (a := a) (b := b) (i := i) (by rw [HL1.out, HL2.out]; exact hlt)
          rw [HL1.out, HL2.out] at h
          rw [Bool.eq_iff_iff, decide_eq_true_eq, decide_eq_true_eq, h, lev_zero]
        have hzt : z ≤ x + y := by rw [← HX.out, ← HY.out, ← HZ.out]; exact lev_trans a b c
        have hle := lev_len a b
        rw [HX.out, HL1.out, HL2.out] at hle
        subst hsd
        have HBA := Lib.hid (distance_any wr w.heap.size HBR.out.size A2 A1 n m c2 c1 b a (HS2.out.below HBR.out) (HS1.out.below HBR.out) (by omega) (by omega))
        rw [lev_symm b a, HX.out] at HBA
        clear HSM
        have f1 : decide (x + y < z) = false := decide_eq_false (by omega)
        have f2 : decide (max m n < x) = false := decide_eq_false (by omega)
        obtain ⟨p1, p2⟩ | p1 : (i < m ∧ ¬ i < n) ∨ ¬ i < m := by omega
        · clear hlt
          have q1 : decide (i < m) = true := decide_eq_true p1
          have q2 : decide (i < n) = false := decide_eq_false p2
          obtain rfl | hc : x = 0 ∨ x ≠ 0 := by omega
          · exfalso; omega
          · have q0 : decide (x = 0) = false := decide_eq_false hc
            have q4 : ((x : Int) == 0) = false := by rw [beq_eq_false_iff_ne]; omega
            have q5 : decide (max (m : Int) (n : Int) < (x : Int)) = false := decide_eq_false (by omega)
            have q6 : decide ((x : Int) + (y : Int) < (z : Int)) = false := decide_eq_false (by omega)
            have q3 : decide ((m : Int) - (n : Int) ≤ (x : Int)) = true := decide_eq_true (by omega)
            go_wp2_with fail
            refine HBA.out.mono ?_
            rintro e w5 ⟨rfl, hb5⟩
            have HB5 := Lib.hid (bcall HBR.out hb5)
            clear hb5 HBA
            go_wp2_with fail
            go_ret
            exact ⟨by first | rfl | (simp; done) | (simp; omega), HB5.out⟩
        · clear hlt
          have q1 : decide (i < m) = false := decide_eq_false p1
          obtain rfl | hc : x = 0 ∨ x ≠ 0 := by omega
          · have q3 : decide ((m : Int) - (n : Int) ≤ 0) = true := decide_eq_true (by omega)
            go_wp2_with fail
            refine HBA.out.mono ?_
            rintro e w5 ⟨rfl, hb5⟩
            have HB5 := Lib.hid (bcall HBR.out hb5)
            clear hb5 HBA
            go_wp2_with fail
            go_ret
            exact ⟨by first | rfl | (simp; done) | (simp; omega), HB5.out⟩
          · have q0 : decide (x = 0) = false := decide_eq_false hc
            have q4 : ((x : Int) == 0) = false := by rw [beq_eq_false_iff_ne]; omega
            have q5 : decide (max (m : Int) (n : Int) < (x : Int)) = false := decide_eq_false (by omega)
            have q6 : decide ((x : Int) + (y : Int) < (z : Int)) = false := decide_eq_false (by omega)
            have q3 : decide ((m : Int) - (n : Int) ≤ (x : Int)) = true := decide_eq_true (by omega)
            go_wp2_with fail
            refine HBA.out.mono ?_
            rintro e w5 ⟨rfl, hb5⟩
            have HB5 := Lib.hid (bcall HBR.out hb5)
            clear hb5 HBA
            go_wp2_with fail
            go_ret
            exact ⟨by first | rfl | (simp; done) | (simp; omega), HB5.out⟩
  · obtain hsm | ⟨hsm, hsn⟩ | ⟨hsm, hsn, hsk⟩ : ¬ m ≤ 40 ∨ (m ≤ 40 ∧ ¬ n ≤ 40) ∨ (m ≤ 40 ∧ n ≤ 40 ∧ ¬ k ≤ 40) := by omega
    · have qm : decide (40 < m) = true := decide_eq_true (by omega)
      go_wp2_with fail
      refine (fawake_any w1 HT1.out).mono ?_
      rintro e w2 ⟨rfl, hb2⟩
      have HB2 := Lib.hid (bcall HB1.out hb2)
      clear hb2
      go_wp2_with fail
      go_ret
      exact ⟨rfl, HB2.out⟩
    · have qm : decide (40 < m) = false := decide_eq_false (by omega)
      have qn : decide (40 < n) = true := decide_eq_true (by omega)
      go_wp2_with fail
      refine (fawake_any w1 HT1.out).mono ?_
      rintro e w2 ⟨rfl, hb2⟩
      have HB2 := Lib.hid (bcall HB1.out hb2)
      clear hb2
      go_wp2_with fail
      go_ret
      exact ⟨rfl, HB2.out⟩
    · have qm : decide (40 < m) = false := decide_eq_false (by omega)
      have qn : decide (40 < n) = false := decide_eq_false (by omega)
      have qk : decide (40 < k) = true := decide_eq_true (by omega)
      go_wp2_with fail
      refine (fawake_any w1 HT1.out).mono ?_
      rintro e w2 ⟨rfl, hb2⟩
      have HB2 := Lib.hid (bcall HB1.out hb2)
      clear hb2
      go_wp2_with fail
      go_ret
      exact ⟨rfl, HB2.out⟩
open Go.Maps in
theorem fmet_walkc (w : World) (A1 : Option Addr) (m c1 : Nat) (x1 : Nat → (Ty.int .i64).den) (h1 : IntsIn w A1 m c1 (intsOf m x1)) (A2 : Option Addr) (n c2 : Nat) (x2 : Nat → (Ty.int .i64).den) (h2 : IntsIn w A2 n c2 (intsOf n x2)) (A3 : Option Addr) (k c3 : Nat) (x3 : Nat → (Ty.int .i64).den) (h3 : IntsIn w A3 k c3 (intsOf k x3)) (hT : Tab w) :
    Calls Tryd.prog 7 #[.slice A1 m c1, .slice A2 n c2, .slice A3 k c3] w fun e w' => e = .returned (.bool true) ∧ Below w.heap.size w w' := fmet_walk w A1 m c1 A2 n c2 A3 k c3 _ _ _ h1 h2 h3 hT
end Go.Proofs.YtclahhkcbkpofaaDoor
/- The reference's Letters. -/
namespace Go.Proofs.YtclahhkcbkpofaaDoor
open Go.RowKit
open Sp
set_option linter.unusedVariables false
set_option maxRecDepth 100000 in
set_option maxHeartbeats 8000000 in
theorem rletters_any (w : World) (t m : List UInt8) (ht : t.length ≤ 17592186044414) (hm : m.length ≤ 17592186044414) : Calls Tryd.prog 18 #[.string ⟨t.toArray⟩, .string ⟨m.toArray⟩] w (LetsP w t m) := by
  have HD := Lib.hid (rfolded_any w t ht)
  have hz : (⟨m.toArray⟩ : ByteArray).size = m.length := by show m.toArray.size = _; simp
  have HBY := Lib.hid (fun j b h => @mark_at m j b h)
  obtain ⟨M, hM⟩ : ∃ M, m.length = M := ⟨_, rfl⟩
  rw [hM] at hz hm
  have HML := Lib.hid hM
  clear hM ht
  go_enter Tryd.func18, Tryd.ntmps18
  go_wp2_with fail
  refine HD.out.mono ?_
  rintro e w1 ⟨hb1, ⟨v, l, rfl, hd1, ho1⟩ | ⟨rfl, hno⟩⟩
  · have HB1 := Lib.hid hb1
    obtain ⟨A, cp, rfl, hcp⟩ := own_shape ho1
    obtain ⟨f, hf⟩ : ∃ f, l.map foldI = f := ⟨_, rfl⟩
    have hfl : f.length = l.length := by rw [← hf, List.length_map]
    obtain ⟨n, hn⟩ : ∃ n, l.length = n := ⟨_, rfl⟩
    have HPB : Hid (∀ z : Int, z ≠ 0 → letsE f m = z → ∀ W, Below w1.heap.size w1 W → LetsP w t m (.returned (.tuple #[.slice none 0 0, .int .i64 z])) W) := fun z hz h W hW => ⟨bcall hb1 hW, .inr (.inl ⟨l, z, rfl, hz, hd1, by rw [hf]; exact h⟩)⟩
    have HPO : Hid (letsE f m = 0 → ∀ W, Below w1.heap.size w1 W → LetsP w t m (.returned (.tuple #[.slice A n cp, .int .i64 0])) W) := fun h W hW => ⟨bcall hb1 hW, .inl ⟨.slice A n cp, l, rfl, hd1, by rw [hf]; exact h, by have := own_kept ho1 hW; rwa [hn] at this ⊢⟩⟩
    rw [hf, hn] at ho1
    rw [hn] at hfl hcp ⊢
    have HO1 := Lib.hid (Sl.of_own ho1)
    have HFL := Lib.hid hfl
    clear hb1 hd1 ho1 hn HD hf hfl
    by_cases c1 : 16 < n
    · have HX := Lib.hid (HPB.out 4 (by omega) (by unfold letsE; rw [if_pos (by rw [HFL.out]; exact c1)]) w1 (brefl w1))
      have q1 : decide (16 < n) = true := decide_eq_true c1
      have q2 : decide ((n : Int) > 16) = true := decide_eq_true (by omega)
      go_wp2_with fail
      go_ret2
      exact HX.out
    have q1 : decide (16 < n) = false := decide_eq_false c1
    have q2 : decide ((n : Int) > 16) = false := decide_eq_false (by omega)
    by_cases c2 : n = 0
    · have HX := Lib.hid (HPB.out 20 (by omega) (by unfold letsE; rw [HFL.out, if_neg c1, if_pos c2]) w1 (brefl w1))
      subst c2
      go_wp2_with fail
      go_ret2
      exact HX.out
    have q3 : ((n : Int) == 0) = false := by rw [beq_eq_false_iff_ne]; omega
    have q4 : (n == 0) = false := by rw [beq_eq_false_iff_ne]; exact c2
    have HNB : Hid (f.all (okC m) = false → letsE f m = 20) := fun h => by unfold letsE; rw [HFL.out, if_neg c1, if_neg c2, h]; rfl
    have HNG : Hid (f.all (okC m) = true → letsE f m = 0) := fun h => by unfold letsE; rw [HFL.out, if_neg c1, if_neg c2, h]; rfl
    have hn16 : n ≤ 16 := by omega
    clear c1
    go_wp2_with fail
    go_loopw [8] (fun iv wr => ∃ j : Nat, j ≤ n ∧ iv = .int .i64 (j : Int) ∧ Hid (Below w1.heap.size w1 wr) ∧ Hid ((f.take j).all (okC m) = true)) (fun iv _ => n - (intOf iv).toNat)
    case atStart => exact ⟨0, Nat.zero_le _, rfl, brefl w1, rfl⟩
    case round =>
      obtain ⟨j, hj, rfl, HB, HA⟩ := hrel
      by_cases hjn : j < n
      · obtain ⟨c, hc⟩ : ∃ c, f[j]? = some c := ⟨f[j]'(by rw [HFL.out]; exact hjn), List.getElem?_eq_getElem _⟩
        obtain ⟨b0, off, rfl, hb0, hcl0⟩ := HO1.out.at_ hjn
        have HCE : Hid (∀ W, Below w1.heap.size w1 W → W.cell? ⟨b0, off + j, none⟩ = some (.int .i64 c) ∧ b0 < W.heap.size) := fun W hW => ⟨(hW.cell (p := ⟨b0, off + j, none⟩) hb0).trans (hcl0 j (.int .i64 c) (by rw [List.getElem?_map, hc]; rfl)), Nat.lt_of_lt_of_le hb0 hW.size⟩
        obtain ⟨r0, hbw⟩ := HCE.out wr HB.out
        have hq : decide (j < n) = true := decide_eq_true hjn
        have HC := Lib.hid hc
        clear hc hcl0
        go_wp2_with fail
        refine (rletter_any c _).mono ?_
        rintro e w2 ⟨rfl, hb2⟩
        have HB2 := Lib.hid (bcall HB.out hb2)
        clear hb2 r0 hbw HB
        go_wp2_with fail
        go_loopw [9, 10] (fun okv iv w3 => ∃ k : Nat, k ≤ M ∧ iv = .int .i64 (k : Int) ∧ okv = .bool (letB c || (m.take k).any fun b => c == (b.toNat : Int)) ∧ Hid (Below w1.heap.size w1 w3)) (fun _ iv _ => M - (intOf iv).toNat)
        case atStart => exact ⟨0, Nat.zero_le _, rfl, by simp, HB2⟩
        case round =>
          obtain ⟨k, hk, rfl, rfl, HB3⟩ := hrel
          clear HB2
          obtain ⟨r0, hbw⟩ := HCE.out wr HB3.out
          obtain ⟨ob, hob⟩ : ∃ ob, (letB c || (m.take k).any fun b => c == (b.toNat : Int)) = ob := ⟨_, rfl⟩
          have HOB := Lib.hid hob
          simp only [hob]
          clear hob
          by_cases hkm : k < M
          · obtain ⟨b, hb⟩ : ∃ b, m[k]? = some b := ⟨m[k]'(by rw [HML.out]; exact hkm), List.getElem?_eq_getElem _⟩
            have hy := HBY.out k b hb
            obtain ⟨z, hzb⟩ : ∃ z : Int, (b.toNat : Int) = z := ⟨_, rfl⟩
            rw [hzb] at hy
            have hz0 : 0 ≤ z := by omega
            have hz1 : z ≤ 255 := by have := b.toNat_lt; omega
            obtain ⟨x, hx⟩ : ∃ x, (c == z) = x := ⟨_, rfl⟩
            have HON : Hid ((letB c || (m.take (k + 1)).any fun b => c == (b.toNat : Int)) = (ob || x)) := by
              show _ = _
              rw [any_take hb, ← Bool.or_assoc, HOB.out, hzb, hx]
            have hq2 : decide (k < M) = true := decide_eq_true hkm
            clear hb hzb HOB
            cases ob
            · go_wp2_with fail
              go_region
              go_wp2_with fail
              go_roundw
              case rel => exact ⟨k + 1, by omega, by go_num, by rw [HON.out]; simp, HB3.out.drew⟩
              case measure => simp [intOf]; omega
            · clear hx
              go_wp2_with fail
              go_region
              go_wp2_with fail
              go_roundw
              case rel => exact ⟨k + 1, by omega, by go_num, by rw [HON.out]; simp, HB3.out.drew⟩
              case measure => simp [intOf]; omega
          · obtain rfl : k = M := by omega
            have HOK : Hid (okC m c = ob) := by
              have := HOB.out
              rw [← HML.out, List.take_length] at this
              exact this
            have hq2 : decide (k < k) = false := decide_eq_false hkm
            clear HOB
            cases ob
            · have HX := Lib.hid (HPB.out 20 (by omega) (HNB.out (all_no (List.mem_of_getElem? HC.out) HOK.out)) wr HB3.out)
              go_wp2_with fail
              go_ret2
              exact HX.out
            · have HAN := Lib.hid (all_take HC.out HA.out HOK.out)
              go_wp2_with fail
              go_roundw
              case rel => exact ⟨j + 1, by omega, by go_num, HB3, HAN⟩
              case measure => simp [intOf]; omega
      · obtain rfl : j = n := by omega
        have HX := Lib.hid (HPO.out (HNG.out (by have := HA.out; rwa [← HFL.out, List.take_length] at this)) wr HB.out)
        have hq : decide (j < j) = false := decide_eq_false hjn
        go_wp2_with fail
        go_ret2
        exact HX.out
  · have HPOST : Hid (LetsP w t m (.returned (.tuple #[.slice none 0 0, .int .i64 7])) w1) := ⟨hb1, .inr (.inr ⟨rfl, hno⟩)⟩
    clear hb1 hno HD
    go_wp2_with fail
    go_ret2
    exact HPOST.out
end Go.Proofs.YtclahhkcbkpofaaDoor
