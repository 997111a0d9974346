/- The law's alike, find. -/
import Derived.Test.YtheickndnniomaaDoorArgs
import Derived.Test.YtheickndnniomaaDoorNodeg
namespace Go.Proofs.YtheickndnniomaaDoor
open Go.RowKit Go.Maps

theorem neq_way (w : World) (x y : Int × Int × Int) : (binOp .neq 55 (.agg #[.int .i64 x.1, .int .i64 x.2.1, .int .i64 x.2.2]) (.agg #[.int .i64 y.1, .int .i64 y.2.1, .int .i64 y.2.2])).run Tryd.prog w = .ok (.bool (!decide (x = y))) w := by
  rw [run_neq_struct, run_equalIn_agg _ _ _ _ _ (by kernel_rfl) (by kernel_rfl)]
  obtain ⟨a, b, c⟩ := x
  obtain ⟨a', b', c'⟩ := y
  simp [go_sem, Program.fieldsOf, Tryd.underlying55]
  by_cases h1 : a = a' <;> by_cases h2 : b = b' <;> by_cases h3 : c = c' <;> simp [h1, h2, h3]
theorem gu_way : Tryd.prog.eqGuardType Tryd.prog.depth 55 = false := by kernel_rfl
/-- A row of ways. -/
theorem ways_at {w : World} {B m : Nat} {A : Option Addr} {l : List (Int × Int × Int)} (h : Sl w B 3 A m (waysC l)) (hm : 0 < m) : ∃ b off, A = some ⟨b, off, none⟩ ∧ b < B ∧
    ∀ k x, l[k]? = some x → w.cell? ⟨b, off + k * 3, none⟩ = some (.int .i64 x.1) ∧ w.cell? ⟨b, off + k * 3 + 1, none⟩ = some (.int .i64 x.2.1) ∧ w.cell? ⟨b, off + k * 3 + 2, none⟩ = some (.int .i64 x.2.2) := by
  obtain ⟨b, off, hA, hb, hc⟩ := h.at_ hm
  refine ⟨b, off, hA, hb, fun k x hx => ?_⟩
  have g : ∀ j u, (wayC x)[j]? = some u → j < 3 → w.cell? ⟨b, off + (k * 3 + j), none⟩ = some u := fun j u hu hj =>
    hc _ _ (by unfold waysC; rw [flat_at wayC 3 (fun _ => rfl) l k j x hx hj]; exact hu)
  exact ⟨g 0 _ rfl (by omega), by have := g 1 _ rfl (by omega); rwa [← Nat.add_assoc] at this, by have := g 2 _ rfl (by omega); rwa [← Nat.add_assoc] at this⟩
set_option maxRecDepth 100000 in
set_option maxHeartbeats 4000000 in
theorem alike_any (w : World) (d e : Nd) (A A' : Option Addr) (m c m' c' : Nat) (hs : Sl w w.heap.size 3 A m (waysC d.ways)) (hs' : Sl w w.heap.size 3 A' m' (waysC e.ways)) (hm : d.ways.length = m) (hm' : e.ways.length = m') (hm2 : m ≤ 4294967296) (hm3 : m' ≤ 4294967296) :
    Calls Tryd.prog 22 #[.agg #[.bool d.fin, .int .i64 d.out, .slice A m c], .agg #[.bool e.fin, .int .i64 e.out, .slice A' m' c']] w fun r w' => r = .returned (.bool (decide (d = e))) ∧ Below w.heap.size w w' := by
  obtain ⟨f, o, ws⟩ := d
  obtain ⟨f', o', ws'⟩ := e
  simp only at hs hs' hm hm' ⊢
  obtain ⟨r, hr⟩ : ∃ r, decide ((⟨f, o, ws⟩ : Nd) = ⟨f', o', ws'⟩) = r := ⟨_, rfl⟩
  rw [hr]
  have HR : Hid (∀ b, (f = f' ∧ o = o' ∧ ws = ws' ↔ b = true) → r = b) := fun b hb => by
    rw [← hr]
    cases b
    · refine decide_eq_false fun h => ?_
      injection h with h1 h2 h3
      have := hb.1 ⟨h1, h2, h3⟩
      cases this
    · obtain ⟨h1, h2, h3⟩ := hb.2 rfl
      exact decide_eq_true (by rw [h1, h2, h3])
  clear hr
  have HB := Lib.hid (bnew (bnew (brefl w) (.cells #[.bool f, .int .i64 o, .slice A m c] 51)) (.cells #[.bool f', .int .i64 o', .slice A' m' c'] 51))
  by_cases h1 : f = f'
  · subst h1
    by_cases h2 : o = o'
    · subst h2
      by_cases h3 : m = m'
      · subst h3
        have q1 : (f != f) = false := by cases f <;> rfl
        have q2 : (o != o) = false := by simp
        go_enter Tryd.func22, Tryd.ntmps22
        go_wp2_with fail
        have hsz : (w.alloc (.cells #[.bool f, .int .i64 o, .slice A m c] 51)).heap.size = w.heap.size + 1 := by simp
        have K1 : ((w.alloc (.cells #[.bool f, .int .i64 o, .slice A m c] 51)).alloc (.cells #[.bool f, .int .i64 o, .slice A' m c'] 51)).heap[w.heap.size]? = some (.cells #[.bool f, .int .i64 o, .slice A m c] 51 (0, 0)) := by
          rw [Below.heap_alloc _ _ _ (by simp)]
          exact heap_alloc_new w _
        have K2 : ((w.alloc (.cells #[.bool f, .int .i64 o, .slice A m c] 51)).alloc (.cells #[.bool f, .int .i64 o, .slice A' m c'] 51)).heap[w.heap.size + 1]? = some (.cells #[.bool f, .int .i64 o, .slice A' m c'] 51 (0, 0)) := by
          have := heap_alloc_new (w.alloc (.cells #[.bool f, .int .i64 o, .slice A m c] 51)) (.cells #[.bool f, .int .i64 o, .slice A' m c'] 51)
          rw [hsz] at this
          exact this
        have HK := Lib.hid (And.intro K1 K2)
        clear K1 K2 hsz q1 q2
        generalize (w.alloc (.cells #[.bool f, .int .i64 o, .slice A m c] 51)).alloc (.cells #[.bool f, .int .i64 o, .slice A' m c'] 51) = W at *
        have hWN : w.heap.size + 1 < W.heap.size := (Array.getElem?_eq_some_iff.1 HK.out.2).1
        go_loopw [5] (fun iv wr => ∃ k : Nat, k ≤ m ∧ iv = .int .i64 k ∧ Hid (ws.take k = ws'.take k) ∧ Hid (Below W.heap.size W wr)) (fun iv _ => m - (intOf iv).toNat)
        case atStart => exact ⟨0, Nat.zero_le _, rfl, rfl, Lib.hid (brefl W)⟩
        case round =>
          obtain ⟨k, hk, rfl, HL, HBW⟩ := hrel
          have k1 := (HBW.out.block _ (by omega)).trans HK.out.1
          have k2 := (HBW.out.block _ hWN).trans HK.out.2
          have e0 := cell_of_row wr _ 2 _ _ (0, 0) k1
          have e1 := cell_of_row wr _ 2 _ _ (0, 0) k2
          simp at e0 e1
          clear k1 k2
          by_cases hlt : k < m
          · obtain ⟨x, hx⟩ : ∃ e, ws[k]? = some e := ⟨ws[k]'(by omega), List.getElem?_eq_getElem _⟩
            obtain ⟨y, hy⟩ : ∃ e, ws'[k]? = some e := ⟨ws'[k]'(by omega), List.getElem?_eq_getElem _⟩
            obtain ⟨b, off, rfl, hb, hcell⟩ := ways_at hs (by omega)
            obtain ⟨b', off', rfl, hb', hcell'⟩ := ways_at hs' (by omega)
            obtain ⟨c0, c1, c2⟩ := hcell k x hx
            obtain ⟨d0, d1, d2⟩ := hcell' k y hy
            have HBB : Below w.heap.size w wr := bcall HB.out HBW.out
            have f0 := (HBB.cell (p := ⟨b, off + k * 3, none⟩) (by show b < _; omega)).trans c0
            have f1 := (HBB.cell (p := ⟨b, off + k * 3 + 1, none⟩) (by show b < _; omega)).trans c1
            have f2 := (HBB.cell (p := ⟨b, off + k * 3 + 2, none⟩) (by show b < _; omega)).trans c2
            have g0 := (HBB.cell (p := ⟨b', off' + k * 3, none⟩) (by show b' < _; omega)).trans d0
            have g1 := (HBB.cell (p := ⟨b', off' + k * 3 + 1, none⟩) (by show b' < _; omega)).trans d1
            have g2 := (HBB.cell (p := ⟨b', off' + k * 3 + 2, none⟩) (by show b' < _; omega)).trans d2
            have hg := gu_way
            have HQ := Lib.hid (fun w => neq_way w x y)
            have hone : ws.take (k + 1) = ws.take k ++ [x] := by rw [List.take_add_one, hx]; rfl
            have hone' : ws'.take (k + 1) = ws'.take k ++ [y] := by rw [List.take_add_one, hy]; rfl
            clear c0 c1 c2 d0 d1 d2 hcell hcell' HBB
            by_cases hee : x = y
            · subst hee
              have hq := HQ.out
              rw [decide_eq_true rfl] at hq
              have HN : Hid (ws.take (k + 1) = ws'.take (k + 1)) := by show _ = _; rw [hone, hone', HL.out]
              clear HQ hone hone' hx hy
              go_wp2_with fail
              go_quiet (fail)
              go_wp2_with fail
              go_roundw
              case rel => exact ⟨k + 1, by omega, by go_num, HN, Lib.hid (below_drewN HBW.out nq)⟩
              case measure => simp [intOf]; omega
            · have hq := HQ.out
              rw [decide_eq_false hee] at hq
              have HN : Hid (r = false) := HR.out false ⟨fun h => by
                obtain ⟨_, _, h⟩ := h
                rw [h, hy] at hx
                injection hx with hx
                exact absurd hx.symm hee, fun h => by cases h⟩
              clear HQ hone hone' hx hy hee
              go_wp2_with fail
              go_quiet (fail)
              go_wp2_with fail
              go_ret
              exact ⟨by rw [HN.out]; rfl, bcall HB.out (below_drewN HBW.out nq)⟩
          · obtain rfl : k = m := by omega
            rw [List.take_of_length_le (by omega), List.take_of_length_le (by omega)] at HL
            have HN : Hid (r = true) := HR.out true ⟨fun _ => rfl, fun _ => by first | exact ⟨rfl, rfl, HL.out⟩ | exact ⟨trivial, trivial, HL.out⟩⟩
            clear HL
            go_wp2_with fail
            go_ret
            exact ⟨by rw [HN.out]; rfl, bcall HB.out HBW.out⟩
      · have HN : Hid (r = false) := HR.out false ⟨fun h => absurd (by rw [← hm, ← hm', h.2.2]) h3, fun h => by cases h⟩
        have q1 : (f != f) = false := by cases f <;> rfl
        have q2 : (o != o) = false := by simp
        have q3 : ((m : Int) != (m' : Int)) = true := by simp; omega
        clear hs hs'
        go_enter Tryd.func22, Tryd.ntmps22
        go_wp2_with fail
        go_ret
        exact ⟨by rw [HN.out]; rfl, HB.out⟩
    · have HN : Hid (r = false) := HR.out false ⟨fun h => absurd h.2.1 h2, fun h => by cases h⟩
      have q1 : (f != f) = false := by cases f <;> rfl
      have q2 : (o != o') = true := by simpa using h2
      clear hs hs'
      go_enter Tryd.func22, Tryd.ntmps22
      go_wp2_with fail
      go_ret
      exact ⟨by rw [HN.out]; rfl, HB.out⟩
  · have HN : Hid (r = false) := HR.out false ⟨fun h => absurd h.1 h1, fun h => by cases h⟩
    have q1 : (f != f') = true := by cases f <;> cases f' <;> simp at h1 <;> rfl
    clear hs hs'
    go_enter Tryd.func22, Tryd.ntmps22
    go_wp2_with fail
    go_ret
    exact ⟨by rw [HN.out]; rfl, HB.out⟩
theorem set_three {w : World} {N : Nat} {a b c x y z : Value} {t : TypeId} (h : w.heap[N]? = some (.cells #[a, b, c] t (0, 0))) : (((w.setCell ⟨N, 0, none⟩ x).setCell ⟨N, 1, none⟩ y).setCell ⟨N, 2, none⟩ z).heap[N]? = some (.cells #[x, y, z] t (0, 0)) := by
  have := blk_set (j := 2) (blk_set (j := 1) (blk_set (j := 0) h x) y) z
  simpa using this
/-- What find answers. -/
def findW (ws : List (Int × Int × Int)) (c : Int) : Int × Int × Int := (wayBy ws c).getD (0, 0, -1)
set_option maxRecDepth 100000 in
set_option maxHeartbeats 4000000 in
theorem find_any (w : World) (A : Option Addr) (m c : Nat) (ws : List (Int × Int × Int)) (hs : Sl w w.heap.size 3 A m (waysC ws)) (hm : ws.length = m) (hm2 : m ≤ 4294967296) (z : Int) :
    Calls Tryd.prog 23 #[.slice A m c, .int .i64 z] w fun r w' => r = .returned (.agg #[.int .i64 (findW ws z).1, .int .i64 (findW ws z).2.1, .int .i64 (findW ws z).2.2]) ∧ Below w.heap.size w w' := by
  obtain ⟨R, hR⟩ : ∃ R, findW ws z = R := ⟨_, rfl⟩
  rw [hR]
  have HR := Lib.hid hR
  clear hR
  go_enter Tryd.func23, Tryd.ntmps23
  go_wp2_with fail
  have HB := Lib.hid (bnew (brefl w) (.cells #[.int .i64 0, .int .i64 0, .int .i64 0] 55))
  have HK := Lib.hid (heap_alloc_new w (.cells #[.int .i64 0, .int .i64 0, .int .i64 0] 55))
  generalize w.alloc (.cells #[.int .i64 0, .int .i64 0, .int .i64 0] 55) = W at *
  have hWN : w.heap.size < W.heap.size := (Array.getElem?_eq_some_iff.1 HK.out).1
  go_loopw [5] (fun iv wr => ∃ k : Nat, k ≤ m ∧ iv = .int .i64 k ∧ Hid (findW (ws.drop k) z = R) ∧ Hid (Below W.heap.size W wr)) (fun iv _ => m - (intOf iv).toNat)
  case atStart => exact ⟨0, Nat.zero_le _, rfl, HR, Lib.hid (brefl W)⟩
  case round =>
    obtain ⟨k, hk, rfl, HL, HBW⟩ := hrel
    have k1 := (HBW.out.block _ hWN).trans HK.out
    have hge : w.heap.size ≤ wr.heap.size := by have := HBW.out.size; omega
    have HKW := Lib.hid k1
    have b0 := cell_of_row wr _ 0 _ _ (0, 0) k1
    have b1 := cell_of_row wr _ 1 _ _ (0, 0) k1
    have b2 := cell_of_row wr _ 2 _ _ (0, 0) k1
    simp at b0 b1 b2
    have z0 := free_at k1 0
    have z1 := free_at k1 1
    have z2 := free_at k1 2
    clear k1
    by_cases hlt : k < m
    · obtain ⟨x, hx⟩ : ∃ e, ws[k]? = some e := ⟨ws[k]'(by omega), List.getElem?_eq_getElem _⟩
      obtain ⟨b, off, rfl, hb, hcell⟩ := ways_at hs (by omega)
      obtain ⟨c0, c1, c2⟩ := hcell k x hx
      have HBB : Below w.heap.size w wr := bcall HB.out HBW.out
      have f0 := (HBB.cell (p := ⟨b, off + k * 3, none⟩) (by show b < _; omega)).trans c0
      have f1 := (HBB.cell (p := ⟨b, off + k * 3 + 1, none⟩) (by show b < _; omega)).trans c1
      have f2 := (HBB.cell (p := ⟨b, off + k * 3 + 2, none⟩) (by show b < _; omega)).trans c2
      have hdrop : ws.drop k = x :: ws.drop (k + 1) := by
        obtain ⟨h1, h2⟩ := List.getElem?_eq_some_iff.1 hx
        rw [List.drop_eq_getElem_cons h1, h2]
      have hstep : findW (x :: ws.drop (k + 1)) z = if x.1 = z then x else findW (ws.drop (k + 1)) z := by
        unfold findW wayBy
        rw [List.find?_cons]
        by_cases hc : x.1 = z
        · rw [if_pos hc, show (x.1 == z) = true by simpa using hc]; rfl
        · rw [if_neg hc, show (x.1 == z) = false by simpa using hc]
      rw [hdrop, hstep] at HL
      obtain ⟨x0, x1, x2⟩ := x
      simp only at f0 f1 f2 HL
      clear c0 c1 c2 hcell HBB hdrop hstep hx
      by_cases hc : x0 = z
      · rw [if_pos hc] at HL
        have q1 : (x0 == z) = true := by simpa using hc
        clear hc
        go_wp2_with fail
        have HKS := Lib.hid (set_three (x := .int .i64 x0) (y := .int .i64 x1) (z := .int .i64 x2) HKW.out)
        have HBS := Lib.hid (below_set (k := w.heap.size) (j := 2) (u := .int .i64 x2) (below_set (k := w.heap.size) (j := 1) (u := .int .i64 x1) (below_set (k := w.heap.size) (j := 0) (u := .int .i64 x0) (bcall HB.out HBW.out) (Nat.le_refl _) (Nat.le_refl _)) (Nat.le_refl _) (Nat.le_refl _)) (Nat.le_refl _) (Nat.le_refl _))
        generalize (((wr.setCell ⟨w.heap.size, 0, none⟩ (.int .i64 x0)).setCell ⟨w.heap.size, 1, none⟩ (.int .i64 x1)).setCell ⟨w.heap.size, 2, none⟩ (.int .i64 x2)) = W4 at *
        have d0 := cell_of_row _ _ 0 _ _ (0, 0) HKS.out
        have d1 := cell_of_row _ _ 1 _ _ (0, 0) HKS.out
        have d2 := cell_of_row _ _ 2 _ _ (0, 0) HKS.out
        simp at d0 d1 d2
        refine bodyPost_ret (v := .agg #[.int .i64 x0, .int .i64 x1, .int .i64 x2]) (by simp [results, Tryd.results23, go_sem, d0, d1, d2]) rfl ⟨by first | (rw [← HL.out]; done) | (rw [← HL.out]; rfl), HBS.out⟩
      · rw [if_neg hc] at HL
        have q1 : (x0 == z) = false := by simpa using hc
        clear hc
        go_wp2_with fail
        go_roundw
        case rel => exact ⟨k + 1, by omega, by go_num, HL, HBW⟩
        case measure => simp [intOf]; omega
    · obtain rfl : k = m := by omega
      rw [List.drop_of_length_le (by omega)] at HL
      go_wp2_with fail
      have HKS := Lib.hid (set_three (x := .int .i64 0) (y := .int .i64 0) (z := .int .i64 (-1)) HKW.out)
      have HBS := Lib.hid (below_set (k := w.heap.size) (j := 2) (u := .int .i64 (-1)) (below_set (k := w.heap.size) (j := 1) (u := .int .i64 0) (below_set (k := w.heap.size) (j := 0) (u := .int .i64 0) (bcall HB.out HBW.out) (Nat.le_refl _) (Nat.le_refl _)) (Nat.le_refl _) (Nat.le_refl _)) (Nat.le_refl _) (Nat.le_refl _))
      generalize (((wr.setCell ⟨w.heap.size, 0, none⟩ (.int .i64 0)).setCell ⟨w.heap.size, 1, none⟩ (.int .i64 0)).setCell ⟨w.heap.size, 2, none⟩ (.int .i64 (-1))) = W4 at *
      have d0 := cell_of_row _ _ 0 _ _ (0, 0) HKS.out
      have d1 := cell_of_row _ _ 1 _ _ (0, 0) HKS.out
      have d2 := cell_of_row _ _ 2 _ _ (0, 0) HKS.out
      simp at d0 d1 d2
      refine bodyPost_ret (v := .agg #[.int .i64 0, .int .i64 0, .int .i64 (-1)]) (by simp [results, Tryd.results23, go_sem, d0, d1, d2]) rfl ⟨by first | (rw [← HL.out]; done) | (rw [← HL.out]; rfl), HBS.out⟩
end Go.Proofs.YtheickndnniomaaDoor
