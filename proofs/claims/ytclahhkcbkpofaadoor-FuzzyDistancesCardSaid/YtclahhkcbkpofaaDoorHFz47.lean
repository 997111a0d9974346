/- The reference's Distance: a table from the ends. -/
import Derived.Test.YtclahhkcbkpofaaDoorHFz46
namespace Go.Proofs.YtclahhkcbkpofaaDoor
open Go.RowKit
set_option linter.unusedVariables false
/-- The row that the table's next one is made of. -/
def PrevR (W : World) (B m n s : Nat) (V : List Value) (gp : Nat) (a b : List Int) : Prop := s ≤ m → V[s]? = some (.slice (some ⟨gp, 0, none⟩) (n + 1) (n + 1)) ∧ ∃ F : Nat → Int, W.ownsRow B 3 1 (.slice (some ⟨gp, 0, none⟩) (n + 1) (n + 1)) (n + 1) (rowF n F) ∧ ∀ q, q ≤ n → F q = ((lev (a.drop s) (b.drop q) : Nat) : Int)
/-- The table, the row being made, the one it is made of. -/
structure TabR (w W : World) (m n i : Nat) (T g gp : Nat) (V : List Value) (F : Nat → Int) (a b : List Int) : Prop where
  tab : W.ownsRow w.heap.size 23 1 (.slice (some ⟨T, 0, none⟩) (m + 1) (m + 1)) (m + 1) V
  here : V[i]? = some (.slice (some ⟨g, 0, none⟩) (n + 1) (n + 1))
  row : W.ownsRow w.heap.size 3 1 (.slice (some ⟨g, 0, none⟩) (n + 1) (n + 1)) (n + 1) (rowF n F)
  prev : PrevR W w.heap.size m n (i + 1) V gp a b
  ne : gp < g
  bel : Below w.heap.size w W
theorem TabR.store {w W : World} {m n i T g gp k : Nat} {V : List Value} {F : Nat → Int} {a b : List Int} {v : Int} (h : TabR w W m n i T g gp V F a b) : TabR w (W.setCell ⟨g, k, none⟩ (.int .i64 v)) m n i T g gp V (fun q => if q = k then v else F q) a b := by
  obtain ⟨hg1, hg2, cs, hcs⟩ := own_blk h.row
  refine ⟨own_other h.tab hcs (by decide), h.here, rowF_store h.row, fun hs => ?_, h.ne, below_set h.bel hg1 (Nat.le_refl _)⟩
  obtain ⟨h1, F', h2, h3⟩ := h.prev hs
  refine ⟨h1, F', h2.kept (set_grown _ _ _) (.inr fun e => ?_), h3⟩
  injection e with e
  have := h.ne
  simp at e
  omega
theorem TabR.drew {w W : World} {m n i T g gp : Nat} {V : List Value} {F : Nat → Int} {a b : List Int} (h : TabR w W m n i T g gp V F a b) : TabR w W.drew m n i T g gp V F a b := ⟨h.tab, h.here, h.row, h.prev, h.ne, h.bel.drew⟩
theorem lev_bound (a b : List Int) (i k : Nat) : lev (a.drop i) (b.drop k) ≤ max a.length b.length := by
  have := lev_max (a.drop i) (b.drop k)
  rw [List.length_drop, List.length_drop] at this
  omega
theorem make_tab (n : Nat) (hn : n ≤ 1000) (w : World) : (Instr.makeSlice 70 (.int .i64 ((n : Int) + 1)) (.int .i64 ((n : Int) + 1))).run Tryd.prog w = .ok (.slice (some ⟨w.heap.size, 0, none⟩) (n + 1) (n + 1)) (w.alloc (.cells (madeCells #[.slice none 0 0] (n + 1)) 23)) := by
  have := make_ints (n + 1) (by omega) w
  rw [show ((n + 1 : Nat) : Int) = (n : Int) + 1 by omega] at this
  exact this
theorem make_row1 (n : Nat) (hn : n ≤ 1000) (w : World) : (Instr.makeSlice 23 (.int .i64 ((n : Int) + 1)) (.int .i64 ((n : Int) + 1))).run Tryd.prog w = .ok (.slice (some ⟨w.heap.size, 0, none⟩) (n + 1) (n + 1)) (w.alloc (.cells (madeCells #[.int .i64 0] (n + 1)) 3)) := by
  have := make_int (n + 1) (by omega) w
  rw [show ((n + 1 : Nat) : Int) = (n : Int) + 1 by omega] at this
  exact this
/-- A row more in the table. -/
theorem tab_new {w W : World} {m n i T gp : Nat} {V : List Value} {a b : List Int} (hT : W.ownsRow w.heap.size 23 1 (.slice (some ⟨T, 0, none⟩) (m + 1) (m + 1)) (m + 1) V) (hi : i ≤ m) (hn : n ≤ 1000) (hp : PrevR W w.heap.size m n (i + 1) V gp a b) (hg : gp < W.heap.size) (hb : Below w.heap.size w W) :
    TabR w ((W.setCell ⟨T, i, none⟩ (.slice (some ⟨W.heap.size, 0, none⟩) (n + 1) (n + 1))).alloc (.cells (madeCells #[.int .i64 0] (n + 1)) 3)) m n i T W.heap.size gp (V.set i (.slice (some ⟨W.heap.size, 0, none⟩) (n + 1) (n + 1))) (fun _ => 0) a b := by
  obtain ⟨hT1, hT2, cs, hcs⟩ := own_blk hT
  obtain ⟨W1, hW1⟩ : ∃ W1, W.setCell ⟨T, i, none⟩ (.slice (some ⟨W.heap.size, 0, none⟩) (n + 1) (n + 1)) = W1 := ⟨_, rfl⟩
  have hs1 : W1.heap.size = W.heap.size := by rw [← hW1]; simp [World.setCell]
  have hV : V.length = m + 1 := by have := hT.1; simpa using this
  have hp1 : W1.ownsRow w.heap.size 23 1 (.slice (some ⟨T, 0, none⟩) (m + 1) (m + 1)) (m + 1) (V.set i (.slice (some ⟨W.heap.size, 0, none⟩) (n + 1) (n + 1))) := by rw [← hW1]; exact own_put hT
  have hb1 : Below w.heap.size w W1 := by rw [← hW1]; exact below_set hb hT1 (Nat.le_refl _)
  rw [hW1]
  refine ⟨own_kept hp1 (bnew (brefl W1) _), by rw [List.getElem?_set_self (by omega)], ?_, fun hs => ?_, hg, bnew hb1 _⟩
  · have := own_made W1 (.int .i64 0) (n + 1) (by omega) 3 (nb := W.heap.size) hs1.symm (base := w.heap.size) hb1.size
    rw [rowF_zero] at this
    exact this
  · obtain ⟨h1, F', h2, h3⟩ := hp hs
    refine ⟨by rw [List.getElem?_set_ne (by omega)]; exact h1, F', ?_, h3⟩
    have h4 : W1.ownsRow w.heap.size 3 1 (.slice (some ⟨gp, 0, none⟩) (n + 1) (n + 1)) (n + 1) (rowF n F') := by rw [← hW1]; exact own_other h2 hcs (by decide)
    exact own_kept h4 (bnew (brefl W1) _)
set_option maxRecDepth 100000 in
set_option maxHeartbeats 8000000 in
theorem rdistance_any (w : World) (B : Nat) (hB : B ≤ w.heap.size) (A1 A2 : Option Addr) (m n c1 c2 : Nat) (a b : List Int) (h1 : Sl w B 1 A1 m (a.map (.int .i64))) (h2 : Sl w B 1 A2 n (b.map (.int .i64))) (hm : m ≤ 100) (hn : n ≤ 100) :
    Calls Tryd.prog 23 #[.slice A1 m c1, .slice A2 n c2] w fun e w' => e = .returned (.int .i64 ((lev a b : Nat) : Int)) ∧ Below w.heap.size w w' := by
  have HA : Hid (a.length = m) := by have := h1.1; show _ = _; simpa using this
  have HBL : Hid (b.length = n) := by have := h2.1; show _ = _; simpa using this
  have HS1 := Lib.hid h1
  have HS2 := Lib.hid h2
  have hmk := fun W => make_tab m (by omega) W
  have hmr := fun W => make_row1 n (by omega) W
  have ho0 := own_made w (.slice none 0 0) (m + 1) (by omega) 23 (nb := w.heap.size) rfl (base := w.heap.size) (Nat.le_refl _)
  have HO0 := Lib.hid ho0
  have HB0 := Lib.hid (bnew (brefl w) (.cells (madeCells #[.slice none 0 0] (m + 1)) 23))
  have HSZ : Hid (w.heap.size < (w.alloc (.cells (madeCells #[.slice none 0 0] (m + 1)) 23)).heap.size) := by show _ < _; simp
  have HBND : Hid (∀ i k, lev (a.drop i) (b.drop k) ≤ 100) := fun i k => by
    have := lev_bound a b i k
    rw [HA.out, HBL.out] at this
    omega
  obtain ⟨T, hT⟩ : ∃ T, T = w.heap.size := ⟨_, rfl⟩
  have HO1 : Hid ((w.alloc (.cells (madeCells #[.slice none 0 0] (m + 1)) 23)).ownsRow w.heap.size 23 1 (.slice (some ⟨T, 0, none⟩) (m + 1) (m + 1)) (m + 1) (List.replicate (m + 1) (.slice none 0 0))) := by rw [hT]; exact HO0.out
  have HTT := Lib.hid hT
  rw [← hT] at HSZ
  clear h1 h2 ho0 HO0
  go_enter Tryd.func23, Tryd.ntmps23
  go_wp2_with fail
  rw [← hT]
  clear hmk
  generalize w.alloc (.cells (madeCells #[.slice none 0 0] (m + 1)) 23) = W0 at *
  clear hT
  have HP1 : Hid (PrevR W0 w.heap.size m n (m + 1) (List.replicate (m + 1) (.slice none 0 0)) T a b) := fun hs => by omega
  have e0 : (m : Int) = ((m + 1 : Nat) : Int) - 1 := by omega
  go_loopw [6] (fun iv wr => ∃ (s gp : Nat) (V : List Value), s ≤ m + 1 ∧ iv = .int .i64 ((s : Int) - 1) ∧ Hid (wr.ownsRow w.heap.size 23 1 (.slice (some ⟨T, 0, none⟩) (m + 1) (m + 1)) (m + 1) V) ∧ Hid (PrevR wr w.heap.size m n s V gp a b) ∧ gp < wr.heap.size ∧ Hid (Below w.heap.size w wr)) (fun iv _ => ((intOf iv) + 1).toNat)
  case atStart => exact ⟨m + 1, T, _, Nat.le_refl _, by rw [e0], HO1, HP1, HSZ.out, HB0⟩
  case round =>
    clear HO1 HP1 HSZ HB0 e0
    obtain ⟨s, gp, V, hs, rfl, HO, HP, hgp, HB⟩ := hrel
    cases s with
    | zero =>
      have e1 : ((0 : Nat) : Int) - 1 = -1 := rfl
      rw [e1]
      have hl0 := HP.out (Nat.zero_le _)
      obtain ⟨hv0, F, hF1, hF2⟩ := hl0
      have r0 := own_cell HO.out hv0
      have r1 := own_cell hF1 (rowF_at (k := 0) (Nat.zero_le _))
      rw [hF2 0 (Nat.zero_le _), List.drop_zero, List.drop_zero] at r1
      obtain ⟨_, hTw, _⟩ := own_blk HO.out
      clear hv0 hF1 hF2 HO HP e1
      go_wp2_with fail
      go_ret
      exact ⟨rfl, HB.out⟩
    | succ i =>
      have e1 : ((i + 1 : Nat) : Int) - 1 = (i : Int) := by omega
      rw [e1]
      have him : i ≤ m := by omega
      have q1 : decide ((i : Int) ≥ 0) = true := decide_eq_true (by omega)
      obtain ⟨hT1, hTw, cs, hcs⟩ := own_blk HO.out
      have hVl : V.length = m + 1 := by have := HO.out.1; simpa using this
      obtain ⟨v0, hv0⟩ : ∃ v, V[i]? = some v := ⟨V[i]'(by omega), List.getElem?_eq_getElem _⟩
      have r0 := own_cell HO.out hv0
      have f0 := free_at hcs i
      obtain ⟨g, hg⟩ : ∃ g, g = wr.heap.size := ⟨_, rfl⟩
      have hTN := tab_new HO.out him (by omega) HP.out hgp HB.out
      obtain ⟨W1, hW1⟩ : ∃ W, (wr.setCell ⟨T, i, none⟩ (.slice (some ⟨wr.heap.size, 0, none⟩) (n + 1) (n + 1))).alloc (.cells (madeCells #[.int .i64 0] (n + 1)) 3) = W := ⟨_, rfl⟩
      rw [hW1] at hTN
      have HTN := Lib.hid hTN
      have hgW : g < W1.heap.size := by rw [hg, ← hW1]; simp [World.setCell]
      rw [← hg] at HTN
      obtain ⟨V1, hV1⟩ : ∃ V1, V.set i (.slice (some ⟨g, 0, none⟩) (n + 1) (n + 1)) = V1 := ⟨_, rfl⟩
      rw [hV1] at HTN
      clear hV1
      have HGP : Hid (gp < g) := by rw [hg]; exact hgp
      have HG := Lib.hid hg
      have HW1 := Lib.hid hW1
      clear hTN hcs hv0 hVl HO HP hg hW1
      go_wp2_with fail
      rw [HW1.out]
      clear r0 f0 hTw HW1 HB
      have e2 : (n : Int) = ((n + 1 : Nat) : Int) - 1 := by omega
      have HF0 : Hid (∀ q, n + 1 ≤ q → q ≤ n → (fun _ : Nat => (0 : Int)) q = ((lev (a.drop i) (b.drop q) : Nat) : Int)) := fun q h1 h2 => by omega
      go_loopw [7] (fun kv W => ∃ (u : Nat) (F : Nat → Int), u ≤ n + 1 ∧ kv = .int .i64 ((u : Int) - 1) ∧ Hid (TabR w W m n i T g gp V1 F a b) ∧ g < W.heap.size ∧ Hid (∀ q, u ≤ q → q ≤ n → F q = ((lev (a.drop i) (b.drop q) : Nat) : Int))) (fun kv _ => ((intOf kv) + 1).toNat)
      case atStart => exact ⟨n + 1, _, Nat.le_refl _, by rw [e2], HTN, hgW, HF0⟩
      case round =>
        clear HTN hgW HF0 e2
        obtain ⟨u, F, hu, rfl, HT, hgW, HF⟩ := hrel
        cases u with
        | zero =>
          have e3 : ((0 : Nat) : Int) - 1 = -1 := rfl
          rw [e3]
          have HPN : Hid (PrevR wr w.heap.size m n i V1 g a b) := fun _ => ⟨HT.out.here, F, HT.out.row, fun q hq => HF.out q (Nat.zero_le _) hq⟩
          have e4 : (i : Int) - 1 = (((i : Nat) : Int) - 1) := rfl
          have s4 : IntKind.i64.wrap ((i : Int) - 1) = (i : Int) - 1 := by rw [IntKind.wrap_i64]; omega
          clear e3
          go_wp2_with fail
          go_roundw
          case rel => exact ⟨i, g, V1, by omega, rfl, HT.out.tab, HPN, hgW, HT.out.bel⟩
          case measure => first | (simp [intOf]; done) | (simp [intOf]; omega)
        | succ k =>
          have e3 : ((k + 1 : Nat) : Int) - 1 = (k : Int) := by omega
          rw [e3]
          have hkn : k ≤ n := by omega
          have q2 : decide ((k : Int) ≥ 0) = true := decide_eq_true (by omega)
          have s4 : IntKind.i64.wrap ((k : Int) - 1) = (k : Int) - 1 := by rw [IntKind.wrap_i64]; omega
          obtain ⟨_, hTw, _⟩ := own_blk HT.out.tab
          have t0 := own_cell HT.out.tab HT.out.here
          obtain ⟨_, _, cs, hcs⟩ := own_blk HT.out.row
          have f0 := free_at hcs k
          have g0 := own_cell HT.out.row (rowF_at hkn)
          have HNX : Hid (∀ v : Int, v = ((lev (a.drop i) (b.drop k) : Nat) : Int) → Hid (TabR w (wr.setCell ⟨g, k, none⟩ (.int .i64 v)) m n i T g gp V1 (fun q => if q = k then v else F q) a b) ∧ g < (wr.setCell ⟨g, k, none⟩ (.int .i64 v)).heap.size ∧ Hid (∀ q, k ≤ q → q ≤ n → (if q = k then v else F q) = ((lev (a.drop i) (b.drop q) : Nat) : Int))) := fun v hv => by
            refine ⟨HT.out.store, by simpa [World.setCell] using hgW, fun q h1 h2 => ?_⟩
            by_cases e : q = k
            · rw [if_pos e, e]; exact hv
            · rw [if_neg e]; exact HF.out q (by omega) h2
          clear hcs e3
          by_cases hend : i = m ∨ k = n
          · have hval : Hid ((m : Int) - (i : Int) + (n : Int) - (k : Int) = ((lev (a.drop i) (b.drop k) : Nat) : Int)) := by
              show _ = _
              rcases hend with h | h
              · subst h
                rw [List.drop_of_length_le (by rw [HA.out]; exact Nat.le_refl _), lev_nil, List.length_drop, HBL.out]
                omega
              · subst h
                rw [List.drop_of_length_le (l := b) (by rw [HBL.out]; exact Nat.le_refl _), lev_nil2, List.length_drop, HA.out]
                omega
            have s1 : IntKind.i64.wrap ((m : Int) - (i : Int)) = (m : Int) - (i : Int) := by rw [IntKind.wrap_i64]; omega
            have s2 : IntKind.i64.wrap ((m : Int) - (i : Int) + (n : Int)) = (m : Int) - (i : Int) + (n : Int) := by rw [IntKind.wrap_i64]; omega
            have s3 : IntKind.i64.wrap ((m : Int) - (i : Int) + (n : Int) - (k : Int)) = (m : Int) - (i : Int) + (n : Int) - (k : Int) := by rw [IntKind.wrap_i64]; omega
            obtain ⟨v1, v2, v3⟩ := HNX.out _ hval.out
            clear HNX HT HF hval
            by_cases h : i = m
            · have p1 : ((i : Int) == (m : Int)) = true := by rw [beq_iff_eq, h]
              have p2 : (i == m) = true := by rw [beq_iff_eq]; exact h
              clear h hend
              go_wp2_with fail
              go_roundw
              case rel => exact ⟨k, _, by omega, rfl, v1, v2, v3⟩
              case measure => first | (simp [intOf]; done) | (simp [intOf]; omega)
            · have h2 : k = n := hend.resolve_left h
              have p1 : ((i : Int) == (m : Int)) = false := by rw [beq_eq_false_iff_ne]; omega
              have p2 : (i == m) = false := by rw [beq_eq_false_iff_ne]; exact h
              have p3 : ((k : Int) == (n : Int)) = true := by rw [beq_iff_eq, h2]
              have p4 : (k == n) = true := by rw [beq_iff_eq]; exact h2
              clear h hend h2
              go_wp2_with fail
              go_roundw
              case rel => exact ⟨k, _, by omega, rfl, v1, v2, v3⟩
              case measure => first | (simp [intOf]; done) | (simp [intOf]; omega)
          · have hi2 : i < m := by omega
            have hk2 : k < n := by omega
            have p1 : ((i : Int) == (m : Int)) = false := by rw [beq_eq_false_iff_ne]; omega
            have p2 : (i == m) = false := by rw [beq_eq_false_iff_ne]; omega
            have p3 : ((k : Int) == (n : Int)) = false := by rw [beq_eq_false_iff_ne]; omega
            have p4 : (k == n) = false := by rw [beq_eq_false_iff_ne]; omega
            obtain ⟨x, hx⟩ : ∃ x, a[i]? = some x := ⟨a[i]'(by rw [HA.out]; exact hi2), List.getElem?_eq_getElem _⟩
            obtain ⟨y, hy⟩ : ∃ y, b[k]? = some y := ⟨b[k]'(by rw [HBL.out]; exact hk2), List.getElem?_eq_getElem _⟩
            obtain ⟨ba, oa, rfl, hba, hca⟩ := HS1.out.at_ hi2
            obtain ⟨bb, ob, rfl, hbb, hcb⟩ := HS2.out.at_ hk2
            have hcx : wr.cell? ⟨ba, oa + i, none⟩ = some (.int .i64 x) := (HT.out.bel.cell (p := ⟨ba, oa + i, none⟩) (by show ba < _; omega)).trans (hca i (.int .i64 x) (by rw [List.getElem?_map, hx]; rfl))
            have hcy : wr.cell? ⟨bb, ob + k, none⟩ = some (.int .i64 y) := (HT.out.bel.cell (p := ⟨bb, ob + k, none⟩) (by show bb < _; omega)).trans (hcb k (.int .i64 y) (by rw [List.getElem?_map, hy]; rfl))
            have hbw : ba < wr.heap.size := Nat.lt_of_lt_of_le hba (Nat.le_trans hB HT.out.bel.size)
            have hbw2 : bb < wr.heap.size := Nat.lt_of_lt_of_le hbb (Nat.le_trans hB HT.out.bel.size)
            obtain ⟨hvp, Fp, hFp, hFq⟩ := HT.out.prev (by omega)
            have t1 := own_cell HT.out.tab hvp
            have u0 := own_cell hFp (rowF_at hkn)
            have u1 := own_cell hFp (rowF_at (k := k + 1) (by omega))
            have u2 := own_cell HT.out.row (rowF_at (k := k + 1) (by omega))
            have hgpw := (own_blk hFp).2.1
            have HST := Lib.hid (lev_drop hx hy)
            have b1 := HBND.out (i + 1) (k + 1)
            have b2 := HBND.out (i + 1) k
            have b3 := HBND.out i (k + 1)
            rw [hFq k hkn] at u0
            rw [hFq (k + 1) (by omega)] at u1
            rw [HF.out (k + 1) (by omega) (by omega)] at u2
            obtain ⟨P1, hP1⟩ : ∃ z, lev (a.drop (i + 1)) (b.drop (k + 1)) = z := ⟨_, rfl⟩
            obtain ⟨P2, hP2⟩ : ∃ z, lev (a.drop (i + 1)) (b.drop k) = z := ⟨_, rfl⟩
            obtain ⟨P3, hP3⟩ : ∃ z, lev (a.drop i) (b.drop (k + 1)) = z := ⟨_, rfl⟩
            rw [hP1] at u1 b1 HST
            rw [hP2] at u0 b2 HST
            rw [hP3] at u2 b3 HST
            clear hFp hFq hvp hca hcb hx hy hP1 hP2 hP3 hend HF
            obtain ⟨D, hD⟩ : ∃ D, P1 + (if x = y then 0 else 1) = D := ⟨_, rfl⟩
            rw [hD] at HST
            have hDb : D ≤ 101 := by rw [← hD]; split <;> omega
            have hcmp : (x = y ∧ (x != y) = false ∧ P1 = D) ∨ (x ≠ y ∧ (x != y) = true ∧ P1 + 1 = D) := by
              by_cases e : x = y
              · rw [if_pos e] at hD
                exact .inl ⟨e, by simp [e], hD⟩
              · rw [if_neg e] at hD
                exact .inr ⟨e, by rw [bne_iff_ne]; exact e, hD⟩
            rcases hcmp with ⟨_, hne, hd⟩ | ⟨_, hne, hd⟩
            · subst hd
              by_cases k1 : P2 + 1 < P1
              · have c1 : decide ((P2 : Int) + 1 < (P1 : Int)) = true := decide_eq_true (by omega)
                by_cases k2 : P3 + 1 < P2 + 1
                · have c2 : decide ((P3 : Int) + 1 < (P2 : Int) + 1) = true := decide_eq_true (by omega)
                  have c3 : decide (P3 < P2) = true := decide_eq_true (by omega)
                  obtain ⟨v1, v2, v3⟩ := HNX.out ((P3 : Int) + 1) (by rw [HST.out]; omega)
                  clear HNX HT HST hD
                  go_wp2_with fail
                  go_region
                  go_wp2_with fail
                  go_roundw
                  case rel => exact ⟨k, _, by omega, rfl, Lib.hid v1.out.drew, v2, v3⟩
                  case measure => first | (simp [intOf]; done) | (simp [intOf]; omega)
                · have c2 : decide ((P3 : Int) + 1 < (P2 : Int) + 1) = false := decide_eq_false (by omega)
                  have c3 : decide (P3 < P2) = false := decide_eq_false (by omega)
                  obtain ⟨v1, v2, v3⟩ := HNX.out ((P2 : Int) + 1) (by rw [HST.out]; omega)
                  clear HNX HT HST hD
                  go_wp2_with fail
                  go_region
                  go_wp2_with fail
                  go_roundw
                  case rel => exact ⟨k, _, by omega, rfl, Lib.hid v1.out.drew, v2, v3⟩
                  case measure => first | (simp [intOf]; done) | (simp [intOf]; omega)
              · have c1 : decide ((P2 : Int) + 1 < (P1 : Int)) = false := decide_eq_false (by omega)
                by_cases k2 : P3 + 1 < P1
                · have c2 : decide ((P3 : Int) + 1 < (P1 : Int)) = true := decide_eq_true (by omega)
                  obtain ⟨v1, v2, v3⟩ := HNX.out ((P3 : Int) + 1) (by rw [HST.out]; omega)
                  clear HNX HT HST hD
                  go_wp2_with fail
                  go_region
                  go_wp2_with fail
                  go_roundw
                  case rel => exact ⟨k, _, by omega, rfl, Lib.hid v1.out.drew, v2, v3⟩
                  case measure => first | (simp [intOf]; done) | (simp [intOf]; omega)
                · have c2 : decide ((P3 : Int) + 1 < (P1 : Int)) = false := decide_eq_false (by omega)
                  obtain ⟨v1, v2, v3⟩ := HNX.out ((P1 : Int)) (by rw [HST.out]; omega)
                  clear HNX HT HST hD
                  go_wp2_with fail
                  go_region
                  go_wp2_with fail
                  go_roundw
                  case rel => exact ⟨k, _, by omega, rfl, Lib.hid v1.out.drew, v2, v3⟩
                  case measure => first | (simp [intOf]; done) | (simp [intOf]; omega)
            · subst hd
              by_cases k1 : P2 + 1 < P1 + 1
              · have c9 : decide (P2 < P1) = true := decide_eq_true (by omega)
                have c1 : decide ((P2 : Int) + 1 < ((P1 : Int) + 1)) = true := decide_eq_true (by omega)
                by_cases k2 : P3 + 1 < P2 + 1
                · have c2 : decide ((P3 : Int) + 1 < (P2 : Int) + 1) = true := decide_eq_true (by omega)
                  have c3 : decide (P3 < P2) = true := decide_eq_true (by omega)
                  obtain ⟨v1, v2, v3⟩ := HNX.out ((P3 : Int) + 1) (by rw [HST.out]; omega)
                  clear HNX HT HST hD
                  go_wp2_with fail
                  go_region
                  go_wp2_with fail
                  go_roundw
                  case rel => exact ⟨k, _, by omega, rfl, Lib.hid v1.out.drew, v2, v3⟩
                  case measure => first | (simp [intOf]; done) | (simp [intOf]; omega)
                · have c2 : decide ((P3 : Int) + 1 < (P2 : Int) + 1) = false := decide_eq_false (by omega)
                  have c3 : decide (P3 < P2) = false := decide_eq_false (by omega)
                  obtain ⟨v1, v2, v3⟩ := HNX.out ((P2 : Int) + 1) (by rw [HST.out]; omega)
                  clear HNX HT HST hD
                  go_wp2_with fail
                  go_region
                  go_wp2_with fail
                  go_roundw
                  case rel => exact ⟨k, _, by omega, rfl, Lib.hid v1.out.drew, v2, v3⟩
                  case measure => first | (simp [intOf]; done) | (simp [intOf]; omega)
              · have c9 : decide (P2 < P1) = false := decide_eq_false (by omega)
                have c1 : decide ((P2 : Int) + 1 < ((P1 : Int) + 1)) = false := decide_eq_false (by omega)
                by_cases k2 : P3 + 1 < P1 + 1
                · have c8 : decide (P3 < P1) = true := decide_eq_true (by omega)
                  have c2 : decide ((P3 : Int) + 1 < ((P1 : Int) + 1)) = true := decide_eq_true (by omega)
                  obtain ⟨v1, v2, v3⟩ := HNX.out ((P3 : Int) + 1) (by rw [HST.out]; omega)
                  clear HNX HT HST hD
                  go_wp2_with fail
                  go_region
                  go_wp2_with fail
                  go_roundw
                  case rel => exact ⟨k, _, by omega, rfl, Lib.hid v1.out.drew, v2, v3⟩
                  case measure => first | (simp [intOf]; done) | (simp [intOf]; omega)
                · have c8 : decide (P3 < P1) = false := decide_eq_false (by omega)
                  have c2 : decide ((P3 : Int) + 1 < ((P1 : Int) + 1)) = false := decide_eq_false (by omega)
                  obtain ⟨v1, v2, v3⟩ := HNX.out (((P1 : Int) + 1)) (by rw [HST.out]; omega)
                  clear HNX HT HST hD
                  go_wp2_with fail
                  go_region
                  go_wp2_with fail
                  go_roundw
                  case rel => exact ⟨k, _, by omega, rfl, Lib.hid v1.out.drew, v2, v3⟩
                  case measure => first | (simp [intOf]; done) | (simp [intOf]; omega)
end Go.Proofs.YtclahhkcbkpofaaDoor
