/- wild.made: the automaton of a pattern. -/
import Derived.Test.YtclahhkcbkpofaaDoorHWd41
import Derived.Test.YtclahhkcbkpofaaDoorHWd29
import Derived.Test.YtclahhkcbkpofaaDoorHWd37
namespace Go.Proofs.YtclahhkcbkpofaaDoor
open Go.RowKit
open Sp
set_option linter.unusedVariables false
/-- What made answers: the least automaton, to be read. -/
def MadeR (w : World) (q : List Int) (star : Bool) : Ending → World → Prop := fun e w' => ∃ (A : Option Addr) (c : Nat) (hs : List Sh), e = .returned (.slice A hs.length c) ∧ StsIn w' w'.heap.size A hs.length c hs ∧ MadeQ q star (hs.map (·.d)) ∧ Below w.heap.size w w'
theorem sts_use {W : World} {base : Nat} {v : Value} {hs : List Sh} (h : OwnSts W base v hs) (hl : hs.length ≤ 20000) (hg : Good (hs.map (·.d))) : ∃ A c, v = .slice A hs.length c ∧ StsIn W W.heap.size A hs.length c hs := by
  obtain ⟨A, c, rfl, _⟩ := own_shape h.out
  refine ⟨A, c, rfl, h.sts rfl (by omega) fun x hx => ?_⟩
  have h1 := hg.asc x.d (List.mem_map_of_mem hx)
  have := asc_few h1
  omega
set_option maxRecDepth 100000 in
set_option maxHeartbeats 8000000 in
theorem made_any (w : World) (B : Nat) (hB : B ≤ w.heap.size) (A : Option Addr) (n cp : Nat) (q : List Int) (star : Bool) (hs : Sl w B 1 A n ((q ++ if star then [42] else []).map (.int .i64))) (h42 : ∀ c ∈ q, c ≠ 42) (hq : q.length ≤ 17) (K : Nat) (hK : ∀ k c, k ≠ K → q[k]? = some c → c ≠ 63) (ht : Tab w) :
    Calls Tryd.prog 52 #[.slice A n cp] w (MadeR w q star) := by
  have HS := Lib.hid hs
  have HT := Lib.hid ht
  have H42 := Lib.hid h42
  have HK := Lib.hid hK
  have hnq : n = endN (rowsC q) star := by
    have h1 := hs.1
    rw [List.length_map, List.length_append] at h1
    unfold endN
    rw [rowsC_len]
    cases star
    · simp at h1 ⊢; omega
    · simp at h1 ⊢; omega
  have hn18 : n ≤ 18 := by
    rw [hnq]
    unfold endN
    rw [rowsC_len]
    split <;> omega
  have HNQ := Lib.hid hnq
  obtain ⟨Q, hQ⟩ : ∃ Q, q.length = Q := ⟨_, rfl⟩
  have HQ := Lib.hid hQ
  rw [hQ] at hq
  have HQN : Hid ((star = false ∧ n = Q) ∨ (star = true ∧ n = Q + 1)) := by
    have := hnq
    unfold endN at this
    rw [rowsC_len, hQ] at this
    cases star
    · exact .inl ⟨rfl, this⟩
    · exact .inr ⟨rfl, this⟩
  have hmk := fun W => make_loose n (by omega) W
  obtain ⟨m1, m2, m3⟩ := loose_made w n (by omega)
  rw [World.setCell_alloc_new] at m1
  have HM := Lib.hid m1
  clear hs ht h42 hK hnq hQ m1
  go_enter Tryd.func52, Tryd.ntmps52
  go_wp2_with fail
  have HL0 : Hid ((List.replicate n bareH ++ [endH]).map (·.d) = stg q star 0) := by show _ = _; rw [base_map, stg_zero, HNQ.out]
  have HB0 := Lib.hid (brefl w)
  clear m2 m3 hmk
  generalize w.alloc (.cells ((madeCells zeroL ((n + 1) * 3)).setIfInBounds (n * 3) (.bool true)) 25) = W0 at *
  go_loopw [3, 19] (fun nv iv wr => ∃ (j : Nat) (w0 : World) (go m cp2 : Nat) (hs : List Lsh), j ≤ n ∧ nv = .slice (some ⟨go, 0, none⟩) m cp2 ∧ iv = .int .i64 (j : Int) ∧ Hid (Below w.heap.size w w0) ∧ Hid (LoR w0 wr (.slice (some ⟨go, 0, none⟩) m cp2) m hs) ∧ Hid (hs.map (·.d) = stg q star j)) (fun _ iv _ => n - (intOf iv).toNat)
  case atStart => exact ⟨0, w, w.heap.size, n + 1, n + 1, _, Nat.zero_le _, rfl, rfl, HB0, HM, HL0⟩
  case round =>
    clear HM HL0 HB0
    obtain ⟨j, w0, go, m, cp2, hs, hj, rfl, rfl, HW0, HR, HL⟩ := hrel
    have HB := Lib.hid (bcall HW0.out HR.out.bel)
    by_cases hjn : j < n
    · have hqd : decide (j < n) = true := decide_eq_true hjn
      obtain ⟨b0, off, rfl, hb0, hcl⟩ := (HS.out.below (HB.out.mono hB)).at_ hjn
      have hbw : b0 < wr.heap.size := Nat.lt_of_lt_of_le hb0 (Nat.le_trans hB HB.out.size)
      have hml := HR.out.len
      by_cases hjq : j < Q
      · obtain ⟨c, hc⟩ : ∃ c, q[j]? = some c := ⟨q[j]'(by rw [HQ.out]; exact hjq), List.getElem?_eq_getElem _⟩
        have r0 := hcl j (.int .i64 c) (by rw [List.getElem?_map, List.getElem?_append_left (by rw [HQ.out]; exact hjq), hc]; rfl)
        have hc42 : (c == 42) = false := by rw [beq_eq_false_iff_ne]; exact H42.out c (List.mem_of_getElem? hc)
        have hlen := stg_len (q := q) (star := star) (j := j) (by rw [HQ.out]; omega)
        rw [← HL.out, List.length_map, hml, ← HNQ.out] at hlen
        have hmb : m ≤ 1100 := by omega
        have hjm : j < m := by omega
        have hjm1 : j + 1 < m := by omega
        have hfew := stg_few (q := q) (star := star) (j := j) (by rw [HQ.out]; omega)
        have HFW : Hid (∀ x ∈ hs, x.d.arcs.length ≤ 1400 ∧ x.d.free.length ≤ 0) := fun x hx => by
          have h1 := hfew x.d (by rw [← HL.out]; exact List.mem_map_of_mem hx)
          rw [HQ.out] at h1
          omega
        have HIN : Hid (LoIn wr wr.heap.size (some ⟨go, 0, none⟩) m cp2 hs) := HR.out.lo (by omega) (fun y hy => by have := (HFW.out y hy).1; omega) (fun y hy => by have := (HFW.out y hy).2; omega)
        have HSN : Hid (stg q star (j + 1) = leadRows (stg q star j) j (j + 1) (allP (rangeOf c).1 (rangeOf c).2)) := stg_step hc
        have e1 : ((j : Int) + 1) = ((j + 1 : Nat) : Int) := by omega
        have HLD := fun lo hi => lead_any wr wr.heap.size (Nat.le_refl _) (some ⟨go, 0, none⟩) m cp2 hs HIN.out (by omega) (fun y hy => by have := HFW.out y hy; omega) j (j + 1) hjm hjm1 lo hi
        clear hcl hc hfew hlen
        by_cases h63 : c = 63
        · have HLD2 := Lib.hid (HLD 0 1114111)
          have er : rangeOf c = (0, 1114111) := if_pos h63
          rw [er] at HSN
          have h63b : (c == 63) = true := by rw [beq_iff_eq]; exact h63
          rw [← e1] at HLD2
          clear HLD h63 er e1
          go_wp2_with fail
          refine HLD2.out.mono ?_
          rintro e w3 ⟨go3, m3, cp3, hs3, rfl, hlo3, hle3, _, _, _⟩
          have HLO3 := Lib.hid hlo3
          have HL3 : Hid (hs3.map (·.d) = stg q star (j + 1)) := by show _ = _; rw [hle3, HL.out, HSN.out]
          clear HLD2 hlo3 hle3 HL HR HSN HIN HFW
          go_wp2_with fail
          go_roundw
          case rel => exact ⟨j + 1, wr, go3, m3, cp3, hs3, by omega, rfl, by go_num, HB, HLO3, HL3⟩
          case measure => simp [intOf]; omega
        · have HLD2 := Lib.hid (HLD c c)
          have er : rangeOf c = (c, c) := if_neg h63
          rw [er] at HSN
          have h63b : (c == 63) = false := by rw [beq_eq_false_iff_ne]; exact h63
          rw [← e1] at HLD2
          clear HLD h63 er e1
          go_wp2_with fail
          refine HLD2.out.mono ?_
          rintro e w3 ⟨go3, m3, cp3, hs3, rfl, hlo3, hle3, _, _, _⟩
          have HLO3 := Lib.hid hlo3
          have HL3 : Hid (hs3.map (·.d) = stg q star (j + 1)) := by show _ = _; rw [hle3, HL.out, HSN.out]
          clear HLD2 hlo3 hle3 HL HR HSN HIN HFW
          go_wp2_with fail
          go_roundw
          case rel => exact ⟨j + 1, wr, go3, m3, cp3, hs3, by omega, rfl, by go_num, HB, HLO3, HL3⟩
          case measure => simp [intOf]; omega
      · obtain ⟨rfl, rfl⟩ : star = true ∧ n = j + 1 := by
          rcases HQN.out with ⟨_, h⟩ | ⟨h1, h2⟩
          · omega
          · exact ⟨h1, by omega⟩
        obtain rfl : j = Q := by rcases HQN.out with ⟨h, _⟩ | ⟨_, h2⟩; cases h; omega
        have r0 := hcl j (.int .i64 42) (by rw [List.getElem?_map, List.getElem?_append_right (by rw [HQ.out]; exact Nat.le_refl _), HQ.out, Nat.sub_self]; rfl)
        have hlen := stg_len (q := q) (star := true) (j := j) (by rw [HQ.out]; exact Nat.le_refl _)
        rw [← HL.out, List.length_map, hml, ← HNQ.out] at hlen
        have hjm : j < m := by omega
        obtain ⟨x, hx⟩ : ∃ x, hs[j]? = some x := ⟨hs[j]'(by omega), List.getElem?_eq_getElem _⟩
        have hfew := stg_few (q := q) (star := true) (j := j) (by rw [HQ.out]; exact Nat.le_refl _) x.d (by rw [← HL.out]; exact List.mem_map_of_mem (List.mem_of_getElem? hx))
        rw [HQ.out] at hfew
        obtain ⟨na, hna⟩ : ∃ k, x.d.arcs.length = k := ⟨_, rfl⟩
        obtain ⟨nf, hnf⟩ : ∃ k, x.d.free.length = k := ⟨_, rfl⟩
        obtain ⟨_, _, k2⟩ := lo_cell HR.out.out hx
        have HXF : Hid (wr.ownsRow w0.heap.size 3 1 (.slice x.F nf x.e) nf (x.d.free.map (.int .i64))) := by
          have := HR.out.fr.own x.frow (List.mem_map.2 ⟨x, List.mem_of_getElem? hx, rfl⟩)
          have h2 : wr.ownsRow w0.heap.size 3 1 (.slice x.F x.d.free.length x.e) x.d.free.length (x.d.free.map (.int .i64)) := this
          rwa [hnf] at h2
        have HFW : Hid (∀ (A9 : Option Addr) (c9 : Nat) (w9 : World), wr.grownBy w9 (Value.slice x.F nf x.e).ownBlock → w9.ownsRow w0.heap.size 3 1 (.slice A9 (nf + 1) c9) (nf + 1) (x.d.free.map (.int .i64) ++ [.int .i64 ((j : Int) + 1)]) → ((Value.slice A9 (nf + 1) c9).ownBlock = (Value.slice x.F nf x.e).ownBlock ∨ ∃ g, (Value.slice A9 (nf + 1) c9).ownBlock = some g ∧ wr.heap.size ≤ g) →
            LoR w0 (w9.setCell ⟨go, j * 3 + 2, none⟩ (.slice A9 (nf + 1) c9)) (.slice (some ⟨go, 0, none⟩) m cp2) m (hs.set j ⟨⟨x.d.fin, x.d.arcs, x.d.free ++ [(j : Int) + 1]⟩, x.A, x.c, A9, c9⟩) ∧
            w9.cell? ⟨go, j * 3 + 2, none⟩ = some (.slice x.F nf x.e) ∧ w9.frozen? ⟨go, j * 3 + 2, none⟩ = false ∧ go < w9.heap.size ∧ w9.cell? ⟨go, j * 3 + 1, none⟩ = some (.slice x.A na x.c)) := fun A9 c9 w9 g1 g2 g3 => by
          have := HR.out.fway (x := x) (z := (j : Int) + 1) (A2 := A9) (c2 := c9) (W' := w9) hx (by rw [hnf]; exact g1) (by rw [hnf]; exact g2) (by rw [hnf]; exact g3)
          rw [hnf, hna] at this
          exact this
        have HBL := Lib.hid HR.out.bel
        have hS := HBL.out.size
        rw [hnf] at k2
        rw [hna, hnf] at hfew
        have hgo := (own_blk HR.out.out).2.1
        have HX := Lib.hid hx
        have HNA := Lib.hid hna
        have HNF := Lib.hid hnf
        have hnf0 : nf ≤ 0 := hfew.2
        have hna0 : na ≤ 80 * j := hfew.1
        clear hcl hx hna hnf hfew hlen
        have HXS : Hid (∀ (A2 A3 : Option Addr) (c2 c3 : Nat), ((hs.set j ⟨⟨x.d.fin, x.d.arcs, x.d.free ++ [((j : Int) + 1)]⟩, x.A, x.c, A2, c2⟩).set j ⟨⟨x.d.fin, x.d.arcs ++ [(0, 255, (j : Int))], x.d.free ++ [((j : Int) + 1)]⟩, A3, c3, A2, c2⟩).map (·.d) = starL (hs.map (·.d)) j) := fun A2 A3 c2 c3 => star_map HX.out
        have hqd2 : decide ((j : Int) < (j : Int) + 1) = true := decide_eq_true (by omega)
        go_wp2_with (first
          | (have hw2 := HR9.out
             clear hw2
             at_builtin
             refine wpList_pushm w0 _ _ rfl _ _ _ rfl el_arc _ _ _ rfl HXA9.out (m := 1) rfl (by simp) rfl (by simp [Value.oneCell']) (by unfold maxLen; omega) (by omega) hS9 HBL9.out ?_
             intro v10 w10 hown10 _ hg10 hor10
             obtain ⟨A10, c10, rfl, _⟩ := own_shape hown10
             obtain ⟨hr10, k10, f10, gw10, _⟩ := HAR9.out A10 c10 w10 hg10 hown10 hor10
             have HR10 := Lib.hid hr10
             clear hown10 hg10 hor10 hr10 HAR9 HXA9 HBL9 hS9 HR9)
          | (at_builtin
             refine wpList_pushm w0 wr _ rfl _ _ _ rfl el_int _ _ _ rfl HXF.out (m := 1) rfl rfl rfl (by simp [Value.oneCell']) (by unfold maxLen; omega) (by omega) hS HBL.out ?_
             intro v9 w9 hown9 _ hg9 hor9
             obtain ⟨A9, c9, rfl, _⟩ := own_shape hown9
             obtain ⟨hr9, k9, f9, gw9, k8⟩ := HFW.out A9 c9 w9 hg9 hown9 hor9
             have HX9 : Hid ((hs.set j (⟨⟨x.d.fin, x.d.arcs, x.d.free ++ [(j : Int) + 1]⟩, x.A, x.c, A9, c9⟩ : Lsh))[j]? = some ⟨⟨x.d.fin, x.d.arcs, x.d.free ++ [(j : Int) + 1]⟩, x.A, x.c, A9, c9⟩) := List.getElem?_set_self (by omega)
             have HXA9 : Hid ((w9.setCell ⟨go, j * 3 + 2, none⟩ (.slice A9 (nf + 1) c9)).ownsRow w0.heap.size 63 3 (.slice x.A na x.c) na (arcsC x.d.arcs)) := by
               have h1 := hr9.ar.own (⟨⟨x.d.fin, x.d.arcs, x.d.free ++ [(j : Int) + 1]⟩, x.A, x.c, A9, c9⟩ : Lsh).arow (List.mem_map.2 ⟨_, List.mem_of_getElem? HX9.out, rfl⟩)
               have h2 : (w9.setCell ⟨go, j * 3 + 2, none⟩ (.slice A9 (nf + 1) c9)).ownsRow w0.heap.size 63 3 (.slice x.A x.d.arcs.length x.c) x.d.arcs.length (arcsC x.d.arcs) := h1
               rwa [HNA.out] at h2
             have HAR9 : Hid (∀ (A10 : Option Addr) (c10 : Nat) (w10 : World), (w9.setCell ⟨go, j * 3 + 2, none⟩ (.slice A9 (nf + 1) c9)).grownBy w10 (Value.slice x.A na x.c).ownBlock → w10.ownsRow w0.heap.size 63 3 (.slice A10 (na + 1) c10) (na + 1) (arcsC x.d.arcs ++ arcC (0, 255, (j : Int))) → ((Value.slice A10 (na + 1) c10).ownBlock = (Value.slice x.A na x.c).ownBlock ∨ ∃ g, (Value.slice A10 (na + 1) c10).ownBlock = some g ∧ (w9.setCell ⟨go, j * 3 + 2, none⟩ (.slice A9 (nf + 1) c9)).heap.size ≤ g) →
                 LoR w0 (w10.setCell ⟨go, j * 3 + 1, none⟩ (.slice A10 (na + 1) c10)) (.slice (some ⟨go, 0, none⟩) m cp2) m ((hs.set j ⟨⟨x.d.fin, x.d.arcs, x.d.free ++ [(j : Int) + 1]⟩, x.A, x.c, A9, c9⟩).set j ⟨⟨x.d.fin, x.d.arcs ++ [(0, 255, (j : Int))], x.d.free ++ [(j : Int) + 1]⟩, A10, c10, A9, c9⟩) ∧
                 w10.cell? ⟨go, j * 3 + 1, none⟩ = some (.slice x.A na x.c) ∧ w10.frozen? ⟨go, j * 3 + 1, none⟩ = false ∧ go < w10.heap.size ∧ True) := fun A10 c10 w10 g1 g2 g3 => by
               have := hr9.arc (x := ⟨⟨x.d.fin, x.d.arcs, x.d.free ++ [(j : Int) + 1]⟩, x.A, x.c, A9, c9⟩) (a := (0, 255, (j : Int))) (A2 := A10) (c2 := c10) (W' := w10) HX9.out (by show World.grownBy _ _ (Value.slice x.A x.d.arcs.length x.c).ownBlock; rw [HNA.out]; exact g1) (by show World.ownsRow _ _ _ _ (.slice A10 (x.d.arcs.length + 1) c10) (x.d.arcs.length + 1) _; rw [HNA.out]; exact g2) (by show (Value.slice A10 (x.d.arcs.length + 1) c10).ownBlock = (Value.slice x.A x.d.arcs.length x.c).ownBlock ∨ _; rw [HNA.out]; exact g3)
               obtain ⟨p1, p2, p3, p4, _⟩ := this
               have p1 : LoR w0 (w10.setCell ⟨go, j * 3 + 1, none⟩ (.slice A10 (x.d.arcs.length + 1) c10)) (.slice (some ⟨go, 0, none⟩) m cp2) m _ := p1
               have p2 : w10.cell? ⟨go, j * 3 + 1, none⟩ = some (.slice x.A x.d.arcs.length x.c) := p2
               rw [HNA.out] at p1 p2
               exact ⟨p1, p2, p3, p4, trivial⟩
             have HBL9 := Lib.hid hr9.bel
             have hS9 := HBL9.out.size
             have HR9 := Lib.hid hr9
             clear hown9 hg9 hor9 hr9 HX9))
        have HMP := Lib.hid (HXS.out A9 A10 c9 c10)
        have HL3 : Hid (((hs.set j ⟨⟨x.d.fin, x.d.arcs, x.d.free ++ [(j : Int) + 1]⟩, x.A, x.c, A9, c9⟩).set j ⟨⟨x.d.fin, x.d.arcs ++ [(0, 255, (j : Int))], x.d.free ++ [(j : Int) + 1]⟩, A10, c10, A9, c9⟩).map (·.d) = stg q true (j + 1)) := by
          have h1 := stg_star (q := q)
          rw [HQ.out] at h1
          show _ = _
          rw [h1, ← HL.out]
          exact HMP.out
        clear HMP HXS
        go_roundw
        case rel => exact ⟨_, _, _, .int .i64 ((j : Int) + 1), ⟨j + 1, Nat.le_refl _, w0, go, m, cp2, rfl, by go_num, HW0, _, HR10, HL3⟩, rfl, rfl, rfl, rfl⟩
        case measure => first | (simp [intOf]; done) | (simp [intOf]; omega)
    · obtain rfl : j = n := by omega
      have hqd : decide (j < j) = false := decide_eq_false hjn
      have HWL : Hid (hs.map (·.d) = wildL (rowsC q) star) := by
        show _ = _
        rw [HL.out]
        rcases HQN.out with ⟨h1, h2⟩ | ⟨h1, h2⟩
        · rw [h2, ← HQ.out, stg_full h1]
        · rw [h2, ← HQ.out, h1]
          unfold stg
          rw [if_neg (by omega)]
      have hml := HR.out.len
      have hwl := wild_len (rss := rowsC q) (star := star) (rowsC_ok q)
      rw [← HWL.out, List.length_map, hml, rowsC_len, HQ.out] at hwl
      have HGD : Hid (LGood (hs.map (·.d))) := by rw [HWL.out]; exact wild_good star (rowsC_ok q)
      have HNF : Hid (∀ f : Nat, ¬ ((20000 : Int) < (((subW (hs.map (·.d))).run f 0 [setL m (Clo (hs.map (·.d)) fun x => x = 0)]).length : Nat))) := fun f => by
        have h1 := wild_few (star := star) (rowsC_ok q) (rowsC_few HK.out) f
        rw [← HWL.out, List.length_map, hml, rowsC_len, HQ.out] at h1
        omega
      have HIN : Hid (LoIn wr wr.heap.size (some ⟨go, 0, none⟩) m cp2 hs) := by
        have hb : ∀ x ∈ hs, x.d.arcs.length ≤ 2000 ∧ x.d.free.length ≤ 1 := fun x hx => by
          have h0 : x.d ∈ stg q star j := by rw [← HL.out]; exact List.mem_map_of_mem hx
          rcases HQN.out with ⟨h1, h2⟩ | ⟨h1, h2⟩
          · have h3 := stg_few (q := q) (star := star) (j := j) (by rw [HQ.out]; omega) x.d h0
            rw [HQ.out] at h3
            omega
          · subst h1 h2
            have h3 := stg_star (q := q)
            rw [HQ.out] at h3
            rw [h3] at h0
            have h4 := stg_few (q := q) (star := true) (j := Q) (by rw [HQ.out]; exact Nat.le_refl _)
            rw [HQ.out] at h4
            obtain ⟨i, hi⟩ := List.mem_iff_getElem?.1 h0
            by_cases e : Q = i
            · subst e
              have hi2 := (List.getElem?_eq_some_iff.1 hi).1
              rw [starL_len] at hi2
              rw [starL_at (List.getElem?_eq_getElem hi2)] at hi
              injection hi with hi
              have h5 := h4 _ (List.getElem_mem hi2)
              rw [← hi]
              show (_ ++ [_]).length ≤ _ ∧ (_ ++ [_]).length ≤ _
              rw [List.length_append, List.length_append, List.length_singleton, List.length_singleton]
              omega
            · rw [starL_ne e] at hi
              have h5 := h4 _ (List.mem_of_getElem? hi)
              omega
        exact HR.out.lo (by omega) (fun y hy => by have := (hb y hy).1; omega) (fun y hy => by have := (hb y hy).2; omega)
      have hm2 : m ≤ 2000 := by omega
      have HTG := Lib.hid (tight_any wr wr.heap.size (Nat.le_refl _) (some ⟨go, 0, none⟩) m cp2 hs HIN.out (by omega) HGD.out 20000 (by omega) (HT.out.below HB.out))
      clear HIN HR HL hwl
      go_wp2_with fail
      refine HTG.out.mono ?_
      rintro e w7 (⟨⟨f', hf'⟩, _, _⟩ | ⟨_, v7, X, dd, rfl, hown7, hl7, hq7, hle7, hd7, hb7⟩)
      · exact absurd hf' (by have := HNF.out f'; omega)
      · have hxl : X.length ≤ 20000 := by omega
        have hxl2 : (X.map (·.d)).length ≤ 20000 := by rw [List.length_map]; exact hxl
        have hxg := hl7.good hxl2
        have HXT : Hid (∀ t : List UInt8, takesB (X.map (·.d)) t = looseTakes (wildL (rowsC q) star) t) := fun t => by
          rw [← HWL.out]
          exact tight_takes (l := hs.map (·.d)) hl7 (by rw [List.length_map, hml]; exact hq7) hxl2 t
        obtain ⟨Ax, cx, rfl, hx7⟩ := sts_use hown7 hxl hxg
        have HPOST : Hid (MadeR w q star (.returned (.slice Ax X.length cx)) w7) := ⟨Ax, cx, X, rfl, hx7, ⟨hxl2, hxg, HXT.out⟩, bcall HB.out hb7⟩
        clear hown7 hl7 hq7 hle7 hd7 hxl hxl2 hxg hx7 hb7 HTG HNF HGD HWL HXT
        go_wp2_with fail
        go_ret
        exact HPOST.out
end Go.Proofs.YtclahhkcbkpofaaDoor
