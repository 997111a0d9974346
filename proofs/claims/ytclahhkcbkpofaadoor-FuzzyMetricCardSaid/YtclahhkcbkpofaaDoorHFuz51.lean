/- wild.made: the automaton of a pattern. -/
import Derived.Test.YtclahhkcbkpofaaDoorHFuz31
import Derived.Test.YtclahhkcbkpofaaDoorHFuz34
import Derived.Test.YtclahhkcbkpofaaDoorHFuz50
import Derived.Test.YtclahhkcbkpofaaDoorHFuz43
import Derived.Test.YtclahhkcbkpofaaDoorHFuz7
import Derived.Lib.Slices
import Derived.Test.YtclahhkcbkpofaaDoorHFuz37
import Derived.Test.YtclahhkcbkpofaaDoorHFuz27
import Derived.Test.YtclahhkcbkpofaaDoorHFuz38
import Derived.Test.YtclahhkcbkpofaaDoorHFuz28
import Derived.Test.YtclahhkcbkpofaaDoorHFuz1
namespace Go.Proofs.YtclahhkcbkpofaaDoor
open Go.RowKit
open Sp
set_option linter.unusedVariables false

/-- What made answers: the least automaton, to be read. -/
def MadeR (w : World) (q : List Int) (star : Bool) : Ending → World → Prop := fun e w' => ∃ (A : Option Addr) (c : Nat) (hs : List Sh), e = .returned (.slice A hs.length c) ∧ StsIn w' w'.heap.size A hs.length c hs ∧ MadeQ q star (hs.map (·.d)) ∧ Below w.heap.size w w'
theorem sts_use {W : World} {base : Nat} {v : Value} {hs : List Sh} (h : OwnSts W base v hs) (hl : hs.length ≤ 20000) (hg : Good (hs.map (·.d))) : ∃ A c, v = .slice A hs.length c ∧ StsIn W W.heap.size A hs.length c hs := by
  obtain ⟨A, c, rfl, _⟩ := own_shape h.out
  refine ⟨A, c, rfl, h.sts rfl (by omega) fun x hx => ?_⟩
  have h1 := hg.asc x.d (List.mem_map_of_mem hx)
  have := asc_few h1
  omega
set_option maxRecDepth 100000 in
set_option maxHeartbeats 8000000 in
theorem made_any (w : World) (B : Nat) (hB : B ≤ w.heap.size) (A : Option Addr) (n cp : Nat) (q : List Int) (star : Bool) (hs : Sl w B 1 A n ((q ++ if star then [42] else []).map (.int .i64))) (h42 : ∀ c ∈ q, c ≠ 42) (hq : q.length ≤ 17) (K : Nat) (hK : ∀ k c, k ≠ K → q[k]? = some c → c ≠ 63) (ht : Tab w) :
    Calls Tryd.prog 52 #[.slice A n cp] w (MadeR w q star) := by
  have HS := Lib.hid hs
  have HT := Lib.hid ht
  have H42 := Lib.hid h42
  have HK := Lib.hid hK
  have hnq : n = endN (rowsC q) star := by
    have h1 := hs.1
    rw [List.length_map, List.length_append] at h1
    unfold endN
    rw [rowsC_len]
    cases star
    · simp at h1 ⊢; omega
    · simp at h1 ⊢; omega
  have hn18 : n ≤ 18 := by
    rw [hnq]
    unfold endN
    rw [rowsC_len]
    split <;> omega
  have HNQ := Lib.hid hnq
  obtain ⟨Q, hQ⟩ : ∃ Q, q.length = Q := ⟨_, rfl⟩
  have HQ := Lib.hid hQ
  rw [hQ] at hq
  have HQN : Hid ((star = false ∧ n = Q) ∨ (star = true ∧ n = Q + 1)) := by
    have := hnq
    unfold endN at this
    rw [rowsC_len, hQ] at this
    cases star
    · exact .inl ⟨rfl, this⟩
    · exact .inr ⟨rfl, this⟩
  have hmk := fun W => make_loose n (by omega) W
  obtain ⟨m1, m2, m3⟩ := loose_made w n (by omega)
  rw [World.setCell_alloc_new] at m1
  have HM := Lib.hid m1
  clear hs ht h42 hK hnq hQ m1
  go_enter Tryd.func52, Tryd.ntmps52
  go_wp2_with fail
  have HL0 : Hid ((List.replicate n bareH ++ [endH]).map (·.d) = stg q star 0) := by show _ = _; rw [base_map, stg_zero, HNQ.out]
  have HB0 := Lib.hid (brefl w)
  clear m2 m3 hmk
  generalize w.alloc (.cells ((madeCells zeroL ((n + 1) * 3)).setIfInBounds (n * 3) (.bool true)) 25) = W0 at *
  go_loopw [3, 19] (fun nv iv wr => ∃ (j : Nat) (w0 : World) (go m cp2 : Nat) (hs : List Lsh), j ≤ n ∧ nv = .slice (some ⟨go, 0, none⟩) m cp2 ∧ iv = .int .i64 (j : Int) ∧ Hid (Below w.heap.size w w0) ∧ Hid (LoR w0 wr (.slice (some ⟨go, 0, none⟩) m cp2) m hs) ∧ Hid (hs.map (·.d) = stg q star j)) (fun _ iv _ => n - (intOf iv).toNat)
  case atStart => exact ⟨0, w, w.heap.size, n + 1, n + 1, _, Nat.zero_le _, rfl, rfl, HB0, HM, HL0⟩
  case round =>
    clear HM HL0 HB0
    obtain ⟨j, w0, go, m, cp2, hs, hj, rfl, rfl, HW0, HR, HL⟩ := hrel
    have HB := Lib.hid (bcall HW0.out HR.out.bel)
    by_cases hjn : j < n
    · have hqd : decide (j < n) = true := decide_eq_true hjn
      obtain ⟨b0, off, rfl, hb0, hcl⟩ := (HS.out.below (HB.out.mono hB)).at_ hjn
      have hbw : b0 < wr.heap.size := Nat.lt_of_lt_of_le hb0 (Nat.le_trans hB HB.out.size)
      have hml := HR.out.len
      by_cases hjq : j < Q
      · obtain ⟨c, hc⟩ : ∃ c, q[j]? = some c := ⟨q[j]'(by rw [HQ.out]; exact hjq), List.getElem?_eq_getElem _⟩
        have r0 := hcl j (.int .i64 c) (by rw [List.getElem?_map, List.getElem?_append_left (by rw [HQ.out]; exact hjq), hc]; rfl)
        have hc42 : (c == 42) = false := by rw [beq_eq_false_iff_ne]; exact H42.out c (List.mem_of_getElem? hc)
        have hlen := stg_len (q := q) (star := star) (j := j) (by rw [HQ.out]; omega)
        rw [← HL.out, List.length_map, hml, ← HNQ.out] at hlen
        have hmb : m ≤ 1100 := by omega
        have hjm : j < m := by omega
        have hjm1 : j + 1 < m := by omega
        have hfew := stg_few (q := q) (star := star) (j := j) (by rw [HQ.out]; omega)
        have HFW : Hid (∀ x ∈ hs, x.d.arcs.length ≤ 1400 ∧ x.d.free.length ≤ 0) := fun x hx => by
          have h1 := hfew x.d (by rw [← HL.out]; exact List.mem_map_of_mem hx)
          rw [HQ.out] at h1
          omega
        have HIN : Hid (LoIn wr wr.heap.size (some ⟨go, 0, none⟩) m cp2 hs) := HR.out.lo (by omega) (fun y hy => by have := (HFW.out y hy).1; omega) (fun y hy => by have := (HFW.out y hy).2; omega)
        have HSN : Hid (stg q star (j + 1) = leadRows (stg q star j) j (j + 1) (allP (rangeOf c).1 (rangeOf c).2)) := stg_step hc
        have e1 : ((j : Int) + 1) = ((j + 1 : Nat) : Int) := by omega
        have HLD := fun lo hi => lead_any wr wr.heap.size (Nat.le_refl _) (some ⟨go, 0, none⟩) m cp2 hs HIN.out (by omega) (fun y hy => by have := HFW.out y hy; omega) j (j + 1) hjm hjm1 lo hi
        clear hcl hc hfew hlen
        by_cases h63 : c = 63
        · have HLD2 := Lib.hid (HLD 0 1114111)
          have er : rangeOf c = (0, 1114111) := if_pos h63
          rw [er] at HSN
          have h63b : (c == 63) = true := by rw [beq_iff_eq]; exact h63
          rw [← e1] at HLD2
          clear HLD h63 er e1
          go_wp2_with fail
          refine HLD2.out.mono ?_
          rintro e w3 ⟨go3, m3, cp3, hs3, rfl, hlo3, hle3, _, _, _⟩
          have HLO3 := Lib.hid hlo3
          have HL3 : Hid (hs3.map (·.d) = stg q star (j + 1)) := by show _ = _; rw [hle3, HL.out, HSN.out]
          clear HLD2 hlo3 hle3 HL HR HSN HIN HFW
          go_wp2_with fail
          go_roundw
          case rel => exact ⟨j + 1, wr, go3, m3, cp3, hs3, by omega, rfl, by go_num, HB, HLO3, HL3⟩
          case measure => simp [intOf]; omega
        · have HLD2 := Lib.hid (HLD c c)
          have er : rangeOf c = (c, c) := if_neg h63
          rw [er] at HSN
          have h63b : (c == 63) = false := by rw [beq_eq_false_iff_ne]; exact h63
          rw [← e1] at HLD2
          clear HLD h63 er e1
          go_wp2_with fail
          refine HLD2.out.mono ?_
          rintro e w3 ⟨go3, m3, cp3, hs3, rfl, hlo3, hle3, _, _, _⟩
          have HLO3 := Lib.hid hlo3
          have HL3 : Hid (hs3.map (·.d) = stg q star (j + 1)) := by show _ = _; rw [hle3, HL.out, HSN.out]
          clear HLD2 hlo3 hle3 HL HR HSN HIN HFW
          go_wp2_with fail
          go_roundw
          case rel => exact ⟨j + 1, wr, go3, m3, cp3, hs3, by omega, rfl, by go_num, HB, HLO3, HL3⟩
          case measure => simp [intOf]; omega
      · obtain ⟨rfl, rfl⟩ : star = true ∧ n = j + 1 := by
          rcases HQN.out with ⟨_, h⟩ | ⟨h1, h2⟩
          · omega
          · exact ⟨h1, by omega⟩
        obtain rfl : j = Q := by rcases HQN.out with ⟨h, _⟩ | ⟨_, h2⟩; cases h; omega
        have r0 := hcl j (.int .i64 42) (by rw [List.getElem?_map, List.getElem?_append_right (by rw [HQ.out]; exact Nat.le_refl _), HQ.out, Nat.sub_self]; rfl)
        have hlen := stg_len (q := q) (star := true) (j := j) (by rw [HQ.out]; exact Nat.le_refl _)
        rw [← HL.out, List.length_map, hml, ← HNQ.out] at hlen
        have hjm : j < m := by omega
        obtain ⟨x, hx⟩ : ∃ x, hs[j]? = some x := ⟨hs[j]'(by omega), List.getElem?_eq_getElem _⟩
        have hfew := stg_few (q := q) (star := true) (j := j) (by rw [HQ.out]; exact Nat.le_refl _) x.d (by rw [← HL.out]; exact List.mem_map_of_mem (List.mem_of_getElem? hx))
        rw [HQ.out] at hfew
        obtain ⟨na, hna⟩ : ∃ k, x.d.arcs.length = k := ⟨_, rfl⟩
        obtain ⟨nf, hnf⟩ : ∃ k, x.d.free.length = k := ⟨_, rfl⟩
        obtain ⟨_, _, k2⟩ := lo_cell HR.out.out hx
        have HXF : Hid (wr.ownsRow w0.heap.size 3 1 (.slice x.F nf x.e) nf (x.d.free.map (.int .i64))) := by
          have := HR.out.fr.own x.frow (List.mem_map.2 ⟨x, List.mem_of_getElem? hx, rfl⟩)
          have h2 : wr.ownsRow w0.heap.size 3 1 (.slice x.F x.d.free.length x.e) x.d.free.length (x.d.free.map (.int .i64)) := this
          rwa [hnf] at h2
        have HFW : Hid (∀ (A9 : Option Addr) (c9 : Nat) (w9 : World), wr.grownBy w9 (Value.slice x.F nf x.e).ownBlock → w9.ownsRow w0.heap.size 3 1 (.slice A9 (nf + 1) c9) (nf + 1) (x.d.free.map (.int .i64) ++ [.int .i64 ((j : Int) + 1)]) → ((Value.slice A9 (nf + 1) c9).ownBlock = (Value.slice x.F nf x.e).ownBlock ∨ ∃ g, (Value.slice A9 (nf + 1) c9).ownBlock = some g ∧ wr.heap.size ≤ g) →
            LoR w0 (w9.setCell ⟨go, j * 3 + 2, none⟩ (.slice A9 (nf + 1) c9)) (.slice (some ⟨go, 0, none⟩) m cp2) m (hs.set j ⟨⟨x.d.fin, x.d.arcs, x.d.free ++ [(j : Int) + 1]⟩, x.A, x.c, A9, c9⟩) ∧
            w9.cell? ⟨go, j * 3 + 2, none⟩ = some (.slice x.F nf x.e) ∧ w9.frozen? ⟨go, j * 3 + 2, none⟩ = false ∧ go < w9.heap.size ∧ w9.cell? ⟨go, j * 3 + 1, none⟩ = some (.slice x.A na x.c)) := fun A9 c9 w9 g1 g2 g3 => by
          have := HR.out.fway (x := x) (z := (j : Int) + 1) (A2 := A9) (c2 := c9) (W' := w9) hx (by rw [hnf]; exact g1) (by rw [hnf]; exact g2) (by rw [hnf]; exact g3)
          rw [hnf, hna] at this
          exact this
        have HBL := Lib.hid HR.out.bel
        have hS := HBL.out.size
        rw [hnf] at k2
        rw [hna, hnf] at hfew
        have hgo := (own_blk HR.out.out).2.1
        have HX := Lib.hid hx
        have HNA := Lib.hid hna
        have HNF := Lib.hid hnf
        have hnf0 : nf ≤ 0 := hfew.2
        have hna0 : na ≤ 80 * j := hfew.1
        clear hcl hx hna hnf hfew hlen
        have HXS : Hid (∀ (A2 A3 : Option Addr) (c2 c3 : Nat), ((hs.set j ⟨⟨x.d.fin, x.d.arcs, x.d.free ++ [((j : Int) + 1)]⟩, x.A, x.c, A2, c2⟩).set j ⟨⟨x.d.fin, x.d.arcs ++ [(0, 255, (j : Int))], x.d.free ++ [((j : Int) + 1)]⟩, A3, c3, A2, c2⟩).map (·.d) = starL (hs.map (·.d)) j) := fun A2 A3 c2 c3 => star_map HX.out
        have hqd2 : decide ((j : Int) < (j : Int) + 1) = true := decide_eq_true (by omega)
        go_wp2_with (first
          | (have hw2 := HR9.out
             clear hw2
             at_builtin
             refine wpList_pushm w0 _ _ rfl _ _ _ rfl el_arc _ _ _ rfl HXA9.out (m := 1) rfl (by simp) rfl (by simp [Value.oneCell']) (by unfold maxLen; omega) (by omega) hS9 HBL9.out ?_
             intro v10 w10 hown10 _ hg10 hor10
             obtain ⟨A10, c10, rfl, _⟩ := own_shape hown10
             obtain ⟨hr10, k10, f10, gw10, _⟩ := HAR9.out A10 c10 w10 hg10 hown10 hor10
             have HR10 := Lib.hid hr10
             clear hown10 hg10 hor10 hr10 HAR9 HXA9 HBL9 hS9 HR9)
          | (at_builtin
             refine wpList_pushm w0 wr _ rfl _ _ _ rfl el_int _ _ _ rfl HXF.out (m := 1) rfl rfl rfl (by simp [Value.oneCell']) (by unfold maxLen; omega) (by omega) hS HBL.out ?_
             intro v9 w9 hown9 _ hg9 hor9
             obtain ⟨A9, c9, rfl, _⟩ := own_shape hown9
             obtain ⟨hr9, k9, f9, gw9, k8⟩ := HFW.out A9 c9 w9 hg9 hown9 hor9
             have HX9 : Hid ((hs.set j (⟨⟨x.d.fin, x.d.arcs, x.d.free ++ [(j : Int) + 1]⟩, x.A, x.c, A9, c9⟩ : Lsh))[j]? = some ⟨⟨x.d.fin, x.d.arcs, x.d.free ++ [(j : Int) + 1]⟩, x.A, x.c, A9, c9⟩) := List.getElem?_set_self (by omega)
             have HXA9 : Hid ((w9.setCell ⟨go, j * 3 + 2, none⟩ (.slice A9 (nf + 1) c9)).ownsRow w0.heap.size 63 3 (.slice x.A na x.c) na (arcsC x.d.arcs)) := by
               have h1 := hr9.ar.own (⟨⟨x.d.fin, x.d.arcs, x.d.free ++ [(j : Int) + 1]⟩, x.A, x.c, A9, c9⟩ : Lsh).arow (List.mem_map.2 ⟨_, List.mem_of_getElem? HX9.out, rfl⟩)
               have h2 : (w9.setCell ⟨go, j * 3 + 2, none⟩ (.slice A9 (nf + 1) c9)).ownsRow w0.heap.size 63 3 (.slice x.A x.d.arcs.length x.c) x.d.arcs.length (arcsC x.d.arcs) := h1
               rwa [HNA.out] at h2
             have HAR9 : Hid (∀ (A10 : Option Addr) (c10 : Nat) (w10 : World), (w9.setCell ⟨go, j * 3 + 2, none⟩ (.slice A9 (nf + 1) c9)).grownBy w10 (Value.slice x.A na x.c).ownBlock → w10.ownsRow w0.heap.size 63 3 (.slice A10 (na + 1) c10) (na + 1) (arcsC x.d.arcs ++ arcC (0, 255, (j : Int))) → ((Value.slice A10 (na + 1) c10).ownBlock = (Value.slice x.A na x.c).ownBlock ∨ ∃ g, (Value.slice A10 (na + 1) c10).ownBlock = some g ∧ (w9.setCell ⟨go, j * 3 + 2, none⟩ (.slice A9 (nf + 1) c9)).heap.size ≤ g) →
                 LoR w0 (w10.setCell ⟨go, j * 3 + 1, none⟩ (.slice A10 (na + 1) c10)) (.slice (some ⟨go, 0, none⟩) m cp2) m ((hs.set j ⟨⟨x.d.fin, x.d.arcs, x.d.free ++ [(j : Int) + 1]⟩, x.A, x.c, A9, c9⟩).set j ⟨⟨x.d.fin, x.d.arcs ++ [(0, 255, (j : Int))], x.d.free ++ [(j : Int) + 1]⟩, A10, c10, A9, c9⟩) ∧
                 w10.cell? ⟨go, j * 3 + 1, none⟩ = some (.slice x.A na x.c) ∧ w10.frozen? ⟨go, j * 3 + 1, none⟩ = false ∧ go < w10.heap.size ∧ True) := fun A10 c10 w10 g1 g2 g3 => by
               have := hr9.arc (x := ⟨⟨x.d.fin, x.d.arcs, x.d.free ++ [(j : Int) + 1]⟩, x.A, x.c, A9, c9⟩) (a := (0, 255, (j : Int))) (A2 := A10) (c2 := c10) (W' := w10) HX9.out (by show World.grownBy _ _ (Value.slice x.A x.d.arcs.length x.c).ownBlock; rw [HNA.out]; exact g1) (by show World.ownsRow _ _ _ _ (.slice A10 (x.d.arcs.length + 1) c10) (x.d.arcs.length + 1) _; rw [HNA.out]; exact g2) (by show (Value.slice A10 (x.d.arcs.length + 1) c10).ownBlock = (Value.slice x.A x.d.arcs.length x.c).ownBlock ∨ _; rw [HNA.out]; exact g3)
               obtain ⟨p1, p2, p3, p4, _⟩ := this
               have p1 : LoR w0 (w10.setCell ⟨go, j * 3 + 1, none⟩ (.slice A10 (x.d.arcs.length + 1) c10)) (.slice (some ⟨go, 0, none⟩) m cp2) m _ := p1
               have p2 : w10.cell? ⟨go, j * 3 + 1, none⟩ = some (.slice x.A x.d.arcs.length x.c) := p2
               rw [HNA.out] at p1 p2
               exact ⟨p1, p2, p3, p4, trivial⟩
             have HBL9 := Lib.hid hr9.bel
             have hS9 := HBL9.out.size
             have HR9 := Lib.hid hr9
             clear hown9 hg9 hor9 hr9 HX9))
        have HMP := Lib.hid (HXS.out A9 A10 c9 c10)
        have HL3 : Hid (((hs.set j ⟨⟨x.d.fin, x.d.arcs, x.d.free ++ [(j : Int) + 1]⟩, x.A, x.c, A9, c9⟩).set j ⟨⟨x.d.fin, x.d.arcs ++ [(0, 255, (j : Int))], x.d.free ++ [(j : Int) + 1]⟩, A10, c10, A9, c9⟩).map (·.d) = stg q true (j + 1)) := by
          have h1 := stg_star (q := q)
          rw [HQ.out] at h1
          show _ = _
          rw [h1, ← HL.out]
          exact HMP.out
        clear HMP HXS
        go_roundw
        case rel => exact ⟨_, _, _, .int .i64 ((j : Int) + 1), ⟨j + 1, Nat.le_refl _, w0, go, m, cp2, rfl, by go_num, HW0, _, HR10, HL3⟩, rfl, rfl, rfl, rfl⟩
        case measure => first | (simp [intOf]; done) | (simp [intOf]; omega)
    · obtain rfl : j = n := by omega
      have hqd : decide (j < j) = false := decide_eq_false hjn
      have HWL : Hid (hs.map (·.d) = wildL (rowsC q) star) := by
        show _ = _
        rw [HL.out]
        rcases HQN.out with ⟨h1, h2⟩ | ⟨h1, h2⟩
        · rw [h2, ← HQ.out, stg_full h1]
        · rw [h2, ← HQ.out, h1]
          unfold stg
          rw [if_neg (by omega)]
      have hml := HR.out.len
      have hwl := wild_len (rss := rowsC q) (star := star) (rowsC_ok q)
      rw [← HWL.out, List.length_map, hml, rowsC_len, HQ.out] at hwl
      have HGD : Hid (LGood (hs.map (·.d))) := by rw [HWL.out]; exact wild_good star (rowsC_ok q)
      have HNF : Hid (∀ f : Nat, ¬ ((20000 : Int) < (((subW (hs.map (·.d))).run f 0 [setL m (Clo (hs.map (·.d)) fun x => x = 0)]).length : Nat))) := fun f => by
        have h1 := wild_few (star := star) (rowsC_ok q) (rowsC_few HK.out) f
        rw [← HWL.out, List.length_map, hml, rowsC_len, HQ.out] at h1
        omega
      have HIN : Hid (LoIn wr wr.heap.size (some ⟨go, 0, none⟩) m cp2 hs) := by
        have hb : ∀ x ∈ hs, x.d.arcs.length ≤ 2000 ∧ x.d.free.length ≤ 1 := fun x hx => by
          have h0 : x.d ∈ stg q star j := by rw [← HL.out]; exact List.mem_map_of_mem hx
          rcases HQN.out with ⟨h1, h2⟩ | ⟨h1, h2⟩
          · have h3 := stg_few (q := q) (star := star) (j := j) (by rw [HQ.out]; omega) x.d h0
            rw [HQ.out] at h3
            omega
          · subst h1 h2
            have h3 := stg_star (q := q)
            rw [HQ.out] at h3
            rw [h3] at h0
            have h4 := stg_few (q := q) (star := true) (j := Q) (by rw [HQ.out]; exact Nat.le_refl _)
            rw [HQ.out] at h4
            obtain ⟨i, hi⟩ := List.mem_iff_getElem?.1 h0
            by_cases e : Q = i
            · subst e
              have hi2 := (List.getElem?_eq_some_iff.1 hi).1
              rw [starL_len] at hi2
              rw [starL_at (List.getElem?_eq_getElem hi2)] at hi
              injection hi with hi
              have h5 := h4 _ (List.getElem_mem hi2)
              rw [← hi]
              show (_ ++ [_]).length ≤ _ ∧ (_ ++ [_]).length ≤ _
              rw [List.length_append, List.length_append, List.length_singleton, List.length_singleton]
              omega
            · rw [starL_ne e] at hi
              have h5 := h4 _ (List.mem_of_getElem? hi)
              omega
        exact HR.out.lo (by omega) (fun y hy => by have := (hb y hy).1; omega) (fun y hy => by have := (hb y hy).2; omega)
      have hm2 : m ≤ 2000 := by omega
      have HTG := Lib.hid (tight_any wr wr.heap.size (Nat.le_refl _) (some ⟨go, 0, none⟩) m cp2 hs HIN.out (by omega) HGD.out 20000 (by omega) (HT.out.below HB.out))
      clear HIN HR HL hwl
      go_wp2_with fail
      refine HTG.out.mono ?_
      rintro e w7 (⟨⟨f', hf'⟩, _, _⟩ | ⟨_, v7, X, dd, rfl, hown7, hl7, hq7, hle7, hd7, hb7⟩)
      · exact absurd hf' (by have := HNF.out f'; omega)
      · have hxl : X.length ≤ 20000 := by omega
        have hxl2 : (X.map (·.d)).length ≤ 20000 := by rw [List.length_map]; exact hxl
        have hxg := hl7.good hxl2
        have HXT : Hid (∀ t : List UInt8, takesB (X.map (·.d)) t = looseTakes (wildL (rowsC q) star) t) := fun t => by
          rw [← HWL.out]
          exact tight_takes (l := hs.map (·.d)) hl7 (by rw [List.length_map, hml]; exact hq7) hxl2 t
        obtain ⟨Ax, cx, rfl, hx7⟩ := sts_use hown7 hxl hxg
        have HPOST : Hid (MadeR w q star (.returned (.slice Ax X.length cx)) w7) := ⟨Ax, cx, X, rfl, hx7, ⟨hxl2, hxg, HXT.out⟩, bcall HB.out hb7⟩
        clear hown7 hl7 hq7 hle7 hd7 hxl hxl2 hxg hx7 hb7 HTG HNF HGD HWL HXT
        go_wp2_with fail
        go_ret
        exact HPOST.out
end Go.Proofs.YtclahhkcbkpofaaDoor
/- wild.wide at patterns whose only star is the last; Wild and Prefix. -/
namespace Go.Proofs.YtclahhkcbkpofaaDoor
open Go.RowKit
open Sp
set_option linter.unusedVariables false

theorem lets_zero {f : List Int} {m : List UInt8} (h : letsE f m = 0) : f.length ≤ 16 ∧ 0 < f.length ∧ f.all (okC m) = true := by
  unfold letsE at h
  split at h
  · omega
  · split at h
    · omega
    · split at h
      · exact ⟨by omega, by omega, by assumption⟩
      · omega
theorem run_from (b off n cp i : Nat) (h : i < n) (hc : n ≤ cp) (w : World) : (Instr.slice 23 (.slice (some ⟨b, off, none⟩) n cp) (some (.int .i64 (i : Nat))) none none).run Tryd.prog w = .ok (.slice (some ⟨b, off + i, none⟩) (n - i) (cp - i)) w := by
  have i1 : ((i : Nat) : Int) ≤ (n : Int) := by omega
  have i2 : ¬ (cp = i) := by omega
  have i4 : (0 : Int) ≤ (i : Nat) := by omega
  simp [Instr.slice, run_underlying Tryd.underlying23, Instr.sliceBounds, run_sliceBound, i1, i2, i4, Addr.add_lit]
theorem getD_app {a b : List Int} {j : Nat} (h : j < a.length) : (a ++ b).getD j 0 = a[j] := by
  rw [List.getD_eq_getElem?_getD, List.getElem?_append_left h, List.getElem?_eq_getElem h]
  rfl
set_option maxRecDepth 100000 in
set_option maxHeartbeats 8000000 in
theorem wide_any (w : World) (A : Option Addr) (n cp : Nat) (q : List Int) (star : Bool) (hs : Sl w w.heap.size 1 A n ((q ++ if star then [42] else []).map (.int .i64))) (hcp : n ≤ cp) (h42 : ∀ c ∈ q, c ≠ 42) (hq : q.length ≤ 17) (hn : 0 < n) :
    Calls Tryd.prog 53 #[.slice A n cp] w fun e w' => e = .returned (.bool false) ∧ w' = w := by
  have hln : (q ++ if star then [42] else [] : List Int).length = n := by have := hs.1; simpa using this
  have hn18 : n ≤ 18 := by
    have := hln
    cases star <;> simp at this <;> omega
  obtain ⟨b, off, rfl, hb, hc⟩ := hs.at_ hn
  have hcell : ∀ (zs : List Int), zs = (q ++ if star then [42] else [] : List Int) → ∀ j, j < zs.length → w.cell? ⟨b, off + j, none⟩ = some (.int .i64 (zs.getD j 0)) := by
    rintro zs rfl j hj
    refine hc j _ ?_
    rw [List.getElem?_map, List.getElem?_eq_getElem hj]
    show some _ = some _
    rw [List.getD_eq_getElem?_getD, List.getElem?_eq_getElem hj]
    rfl
  cases star
  · have hx : Lib.idxOf (((q ++ if false then [42] else [] : List Int)).take n) 42 = -1 := Lib.idxOf_miss _ n 42 fun j hj => by
      have hj2 : j < q.length := by simp at hln; omega
      rw [getD_app hj2]
      exact h42 _ (List.getElem_mem _)
    have HI := Lib.hid (Tryd.slices_Index_int b off n cp _ 42 w (by omega) (by omega) (hcell _ rfl))
    rw [hx] at HI
    clear hc hcell hx hs hln h42
    go_enter Tryd.func53, Tryd.ntmps53
    go_wp2_with fail
    refine HI.out.mono ?_
    rintro e w1 ⟨rfl, rfl⟩
    go_wp2_with fail
    go_ret
    exact ⟨rfl, rfl⟩
  · obtain ⟨Q, hQ⟩ : ∃ Q, q.length = Q := ⟨_, rfl⟩
    have hnQ : n = Q + 1 := by
      rw [List.length_append, hQ] at hln
      simp at hln
      omega
    have hx : Lib.idxOf (((q ++ if true then [42] else [] : List Int)).take n) 42 = (Q : Int) := Lib.idxOf_hit _ n Q 42 (by omega) (by omega) (by
      rw [List.getD_eq_getElem?_getD, List.getElem?_append_right (by omega), hQ, Nat.sub_self]
      rfl) fun j hj => by
      rw [getD_app (by omega)]
      exact h42 _ (List.getElem_mem _)
    have HI := Lib.hid (Tryd.slices_Index_int b off n cp _ 42 w (by omega) (by omega) (hcell _ rfl))
    rw [hx] at HI
    have HC := Lib.hid (Tryd.slices_Contains_int b (off + Q) 1 (cp - Q) [42] 63 w (by simp) (by omega) (fun j hj => by
      obtain rfl : j = 0 := by simp at hj; omega
      have := hcell _ rfl Q (by omega)
      rw [List.getD_eq_getElem?_getD, List.getElem?_append_right (by omega), hQ, Nat.sub_self] at this
      exact this))
    have hct : (([42] : List Int).take 1).contains 63 = false := rfl
    rw [hct] at HC
    have HRF := Lib.hid (run_from b off n cp Q (by omega) hcp)
    have hrun := fun W => HRF.out W
    rw [show n - Q = 1 by omega] at hrun
    have hQ0 : ¬ ((Q : Int) < 0) := by omega
    clear hc hcell hx hs h42 HRF hct hln hnQ hQ
    go_enter Tryd.func53, Tryd.ntmps53
    go_wp2_with fail
    refine HI.out.mono ?_
    rintro e w1 ⟨rfl, rfl⟩
    go_wp2_with fail
    refine HC.out.mono ?_
    rintro e w1 ⟨rfl, rfl⟩
    go_wp2_with fail
    go_ret
    exact ⟨rfl, rfl⟩
/-- What Prefix answers. -/
def PreP (w : World) (t : List UInt8) : Ending → World → Prop := fun e w' => Below w.heap.size w w' ∧
  ((∃ (A : Option Addr) (c : Nat) (hs : List Sh) (l : List Int), e = .returned (.tuple #[.slice A hs.length c, .int .i64 0]) ∧ Dec (bytesN t) l ∧ letsE (l.map foldI) [] = 0 ∧ StsIn w' w'.heap.size A hs.length c hs ∧ MadeQ (l.map foldI) true (hs.map (·.d))) ∨
   (∃ l z, e = .returned (.tuple #[.slice none 0 0, .int .i64 z]) ∧ z ≠ 0 ∧ Dec (bytesN t) l ∧ letsE (l.map foldI) [] = z) ∨
   (e = .returned (.tuple #[.slice none 0 0, .int .i64 7]) ∧ ∀ l, ¬ Dec (bytesN t) l))
theorem ok_letter {c : Int} (h : okC [] c = true) : letB c = true := by
  unfold okC at h
  simpa using h
theorem let_no42 {c : Int} (h : letB c = true) : c ≠ 42 ∧ c ≠ 63 := by
  constructor
  · rintro rfl
    exact absurd h (by decide)
  · rintro rfl
    exact absurd h (by decide)
theorem all_letter {f : List Int} (h : f.all (okC []) = true) {c : Int} (hc : c ∈ f) : letB c = true := ok_letter (List.all_eq_true.1 h c hc)
set_option maxRecDepth 100000 in
set_option maxHeartbeats 8000000 in
theorem prefix_any (w : World) (t : List UInt8) (ht : t.length ≤ 17592186044414) (hT : Tab w) : Calls Tryd.prog 29 #[.string ⟨t.toArray⟩] w (PreP w t) := by
  have HD := Lib.hid (letters_any w t [] ht (by simp))
  have HT := Lib.hid hT
  clear hT ht
  go_enter Tryd.func29, Tryd.ntmps29
  go_wp2_with fail
  refine HD.out.mono ?_
  rintro e w1 ⟨hb1, ⟨v, l, rfl, hd, hl, ho⟩ | ⟨l, z, rfl, hz, hd, hl⟩ | ⟨rfl, hno⟩⟩
  · obtain ⟨f, hf⟩ : ∃ f, l.map foldI = f := ⟨_, rfl⟩
    have hfl : f.length = l.length := by rw [← hf, List.length_map]
    obtain ⟨z1, z2, z3⟩ := lets_zero hl
    rw [hf] at z1 z2 z3 ho
    rw [← hfl] at ho
    obtain ⟨n, hn⟩ : ∃ n, f.length = n := ⟨_, rfl⟩
    have HP : Hid (∀ (A : Option Addr) (c : Nat) (hs : List Sh) (W : World), Below w.heap.size w W → StsIn W W.heap.size A hs.length c hs → MadeQ f true (hs.map (·.d)) → PreP w t (.returned (.tuple #[.slice A hs.length c, .int .i64 0])) W) := fun A c hs W hW h1 h2 => ⟨hW, .inl ⟨A, c, hs, l, rfl, hd, hl, h1, by rw [hf]; exact h2⟩⟩
    rw [hn] at ho z1 z2
    have HO1 := Lib.hid ho
    have HB1 := Lib.hid hb1
    have hS := hb1.size
    have HLT := Lib.hid (fun c hc => let_no42 (all_letter z3 (c := c) hc))
    have HN := Lib.hid hn
    clear hd hl ho z3 hf hfl hn hb1
    go_wp2_with (at_builtin; refine wpList_pushm w w1 _ rfl _ _ _ rfl el_int _ _ _ rfl HO1.out (m := 1) rfl rfl rfl (by simp [Value.oneCell']) (by unfold maxLen; omega) (by omega) hS HB1.out ?_; intro v2 w2 hown2 hb2 _ _; obtain ⟨A2, c2, rfl, hc2⟩ := own_shape hown2; have HO2 := Lib.hid hown2; have HB2 := Lib.hid hb2; clear hown2 hb2)
    have HSL : Hid (Sl w2 w2.heap.size 1 A2 (n + 1) ((f ++ if true then [42] else []).map (.int .i64))) := by
      have := Sl.of_own HO2.out
      have e : (f ++ if true then [42] else [] : List Int).map (Value.int .i64) = f.map (.int .i64) ++ [.int .i64 42] := by simp
      show Sl _ _ _ _ _ _
      rw [e]
      exact this
    refine (made_any w2 w2.heap.size (Nat.le_refl _) A2 (n + 1) c2 f true HSL.out (fun c hc => (HLT.out c hc).1) (by rw [HN.out]; omega) 0 (fun _ c _ h => (HLT.out c (List.mem_of_getElem? h)).2) (HT.out.below HB2.out)).mono ?_
    rintro e w3 ⟨A3, c3, hs3, rfl, hst, hmq, hb3⟩
    have HPOST := Lib.hid (HP.out A3 c3 hs3 w3 (bcall HB2.out hb3) hst hmq)
    clear HSL HO2 hst hmq hb3
    go_wp2_with fail
    go_ret2
    exact HPOST.out
  · have HPOST : Hid (PreP w t (.returned (.tuple #[.slice none 0 0, .int .i64 z])) w1) := ⟨hb1, .inr (.inl ⟨l, z, rfl, hz, hd, hl⟩)⟩
    have hz2 : (z != 0) = true := by rw [bne_iff_ne]; exact hz
    clear hb1 hd hl
    go_wp2_with fail
    go_ret2
    exact HPOST.out
  · have HPOST : Hid (PreP w t (.returned (.tuple #[.slice none 0 0, .int .i64 7])) w1) := ⟨hb1, .inr (.inr ⟨rfl, hno⟩)⟩
    clear hb1 hno
    go_wp2_with fail
    go_ret2
    exact HPOST.out
/-- What Wild answers of a pattern whose only star is the last. -/
def WldP (w : World) (q : List Int) (star : Bool) : Ending → World → Prop := fun e w' => Below w.heap.size w w' ∧ ∃ (A : Option Addr) (c : Nat) (hs : List Sh), e = .returned (.tuple #[.slice A hs.length c, .int .i64 0]) ∧ StsIn w' w'.heap.size A hs.length c hs ∧ MadeQ q star (hs.map (·.d))
set_option maxRecDepth 100000 in
set_option maxHeartbeats 8000000 in
theorem wild_any (w : World) (t : List UInt8) (ht : t.length ≤ 17592186044414) (hT : Tab w) (l : List Int) (hl : Dec (bytesN t) l) (he : letsE (l.map foldI) [42, 63] = 0) (q : List Int) (star : Bool) (hf : l.map foldI = (q ++ if star then [42] else [])) (h42 : ∀ c ∈ q, c ≠ 42) (K : Nat) (hK : ∀ k c, k ≠ K → q[k]? = some c → c ≠ 63) :
    Calls Tryd.prog 31 #[.string ⟨t.toArray⟩] w (WldP w q star) := by
  have HD := Lib.hid (letters_any w t [42, 63] ht (by simp))
  have HT := Lib.hid hT
  have HDE := Lib.hid hl
  have HE := Lib.hid he
  have HF := Lib.hid hf
  have H42 := Lib.hid h42
  have HK := Lib.hid hK
  clear hT ht hl he hf h42 hK
  go_enter Tryd.func31, Tryd.ntmps31
  go_wp2_with fail
  refine HD.out.mono ?_
  rintro e w1 ⟨hb1, ⟨v, l2, rfl, hd, hl, ho⟩ | ⟨l2, z, rfl, hz, hd, hl⟩ | ⟨rfl, hno⟩⟩
  · obtain rfl := hd.inj HDE.out
    obtain ⟨z1, z2, z3⟩ := lets_zero hl
    have hfl : (l2.map foldI).length = l2.length := List.length_map ..
    obtain ⟨n, hn⟩ : ∃ n, l2.length = n := ⟨_, rfl⟩
    have hq17 : q.length ≤ 17 := by
      have := congrArg List.length HF.out
      rw [List.length_append] at this
      omega
    rw [HF.out, hn] at ho
    rw [hfl, hn] at z1 z2
    obtain ⟨A, cp, rfl, hcp⟩ := own_shape ho
    have HSL := Lib.hid (Sl.of_own ho)
    have HB1 := Lib.hid hb1
    have HQ17 := Lib.hid hq17
    clear hd hl ho z3 hfl hn hb1 hq17
    go_wp2_with fail
    refine (wide_any w1 A n cp q star HSL.out hcp H42.out HQ17.out z2).mono ?_
    rintro e w2 ⟨rfl, rfl⟩
    go_wp2_with fail
    refine (made_any w2 w2.heap.size (Nat.le_refl _) A n cp q star HSL.out H42.out HQ17.out K HK.out (HT.out.below HB1.out)).mono ?_
    rintro e w3 ⟨A3, c3, hs3, rfl, hst, hmq, hb3⟩
    have HPOST : Hid (WldP w q star (.returned (.tuple #[.slice A3 hs3.length c3, .int .i64 0])) w3) := ⟨bcall HB1.out hb3, A3, c3, hs3, rfl, hst, hmq⟩
    clear HSL hst hmq hb3
    go_wp2_with fail
    go_ret2
    exact HPOST.out
  · obtain rfl := hd.inj HDE.out
    exact absurd (hl.symm.trans HE.out) hz
  · exact absurd HDE.out (hno l)
end Go.Proofs.YtclahhkcbkpofaaDoor
/- fuzzy.Fuzzy. -/
namespace Go.Proofs.YtclahhkcbkpofaaDoor
open Go.RowKit
open Sp
set_option linter.unusedVariables false

/-- The automaton of a word with edits, before it is made tight. -/
def fuzA (f : List Int) (E X : Nat) : List Lst := leadsL (fuzL f.length E X ((f.length + 1) * (E + 1))) (fuzE f E X ((f.length + 1) * (E + 1)))
theorem fuzE_ok (f : List Int) (E X : Nat) : OkE (fuzL f.length E X ((f.length + 1) * (E + 1))).length (fuzE f E X ((f.length + 1) * (E + 1))) := fun e he => by
  obtain ⟨j, hj, he⟩ := List.mem_flatMap.1 he
  have hj := List.mem_range.1 hj
  rw [fuzL_len]
  have hW : 0 < E + 1 := by omega
  have hd := Nat.div_add_mod j (E + 1)
  have hm := Nat.mod_lt j hW
  obtain ⟨i, hi⟩ : ∃ i, j / (E + 1) = i := ⟨_, rfl⟩
  obtain ⟨k, hk⟩ : ∃ k, j % (E + 1) = k := ⟨_, rfl⟩
  rw [hi, hk] at hd
  rw [hk] at hm
  rw [Nat.mul_comm] at hd
  have hin : i ≤ f.length := by
    by_cases h : i ≤ f.length
    · exact h
    · have : (f.length + 1) * (E + 1) ≤ i * (E + 1) := Nat.mul_le_mul_right _ (by omega)
      omega
  unfold edAt at he
  rw [hi, hk] at he
  have hlt : ∀ c, f[i]? = some c → j + E + 2 ≤ (f.length + 1) * (E + 1) ∧ (k < E → j + E + 2 < (f.length + 1) * (E + 1)) := fun c hc => by
    have hif := (List.getElem?_eq_some_iff.1 hc).1
    have h1 := at_lt2 (n := f.length) (E := E) (i := i) (k := k) hif (by omega)
    refine ⟨by omega, fun hkE => ?_⟩
    have h2 := at_lt2 (n := f.length) (E := E) (i := i) (k := k + 1) hif (by omega)
    omega
  have hedA : ∀ e ∈ edA f[i]? j (j + E + 1), e.1 < (f.length + 1) * (E + 1) ∧ e.2.1 < (f.length + 1) * (E + 1) := fun e he => by
    cases hc : f[i]? with
    | none => rw [hc] at he; cases he
    | some c =>
      rw [hc] at he
      rw [List.mem_singleton.1 he]
      have := (hlt c hc).1
      exact ⟨hj, by show j + E + 1 < _; omega⟩
  rcases List.mem_append.1 he with he | he
  · exact hedA e he
  · split at he
    · cases he
    · rename_i hno
      have hkE : k < E := by omega
      rcases List.mem_cons.1 he with rfl | he
      · have := at_lt (n := f.length) (E := E) (i := i) (k := k + 1) hin (by omega)
        exact ⟨hj, by show j + 1 < _; omega⟩
      · cases hc : f[i]? with
        | none => rw [hc] at he; cases he
        | some c =>
          rw [hc] at he
          rw [List.mem_singleton.1 he]
          exact ⟨hj, (hlt c hc).2 hkE⟩
theorem fuzL_fewT (n E X cur : Nat) : FewT 0 1 (fuzL n E X cur) := fun s hs => by
  obtain ⟨j, hj⟩ := List.mem_iff_getElem?.1 hs
  have hl := (List.getElem?_eq_some_iff.1 hj).1
  rw [fuzL_len] at hl
  rw [fuzL_at hl] at hj
  injection hj with hj
  rw [← hj]
  split
  · unfold fuzSt
    refine ⟨Nat.le_refl _, ?_⟩
    show List.length (if _ then _ else _) ≤ 1
    split <;> simp
  · exact ⟨Nat.le_refl _, Nat.zero_le _⟩
theorem fuzL_good (n E X : Nat) (hE : 0 < (n + 1) * (E + 1)) : LGood (fuzL n E X ((n + 1) * (E + 1))) := by
  have hlen := fuzL_len n E X ((n + 1) * (E + 1))
  have key : ∀ s ∈ fuzL n E X ((n + 1) * (E + 1)), s.arcs = [] ∧ ∀ t ∈ s.free, 0 ≤ t ∧ t < (((n + 1) * (E + 1) : Nat) : Int) := fun s hs => by
    obtain ⟨j, hj⟩ := List.mem_iff_getElem?.1 hs
    have hl := (List.getElem?_eq_some_iff.1 hj).1
    rw [hlen] at hl
    rw [fuzL_at hl, if_pos hl] at hj
    injection hj with hj
    rw [← hj]
    refine ⟨rfl, fun t ht => ?_⟩
    unfold fuzSt at ht
    simp only at ht
    split at ht
    · rename_i h
      rw [List.mem_singleton.1 ht]
      have hW : 0 < E + 1 := by omega
      have hd := Nat.div_add_mod j (E + 1)
      obtain ⟨i, hi⟩ : ∃ i, j / (E + 1) = i := ⟨_, rfl⟩
      obtain ⟨k, hk⟩ : ∃ k, j % (E + 1) = k := ⟨_, rfl⟩
      rw [hi, hk] at hd h
      rw [Nat.mul_comm] at hd
      have := at_lt2 (n := n) (E := E) (i := i) (k := k + 1) h.2.2 (by omega)
      refine ⟨by omega, ?_⟩
      have h5 : j + E + 2 < (n + 1) * (E + 1) := by omega
      exact_mod_cast h5
    · cases ht
  refine ⟨fun e => ?_, fun s hs a ha => ?_, fun s hs t ht => ?_⟩
  · have := congrArg List.length e
    rw [hlen, List.length_nil] at this
    omega
  · rw [(key s hs).1] at ha
    cases ha
  · rw [hlen]
    exact (key s hs).2 t ht
/-- What Fuzzy answers of a word, where few sets are met. -/
def FuzR (w : World) (f : List Int) (E X : Nat) : Ending → World → Prop := fun e w' => Below w.heap.size w w' ∧ ∃ (A : Option Addr) (c : Nat) (hs : List Sh), e = .returned (.tuple #[.slice A hs.length c, .int .i64 0]) ∧ StsIn w' w'.heap.size A hs.length c hs ∧ hs.length ≤ 20000 ∧ Good (hs.map (·.d)) ∧ ∀ t : List UInt8, takesB (hs.map (·.d)) t = looseTakes (fuzA f E X) t
set_option maxRecDepth 100000 in
set_option maxHeartbeats 8000000 in
theorem fuzzy_any (w : World) (t : List UInt8) (ht : t.length ≤ 17592186044414) (hT : Tab w) (l : List Int) (hl : Dec (bytesN t) l) (he : letsE (l.map foldI) [] = 0) (f : List Int) (hf : l.map foldI = f) (E X : Nat) (hE : E ≤ 2) (hX : X ≤ f.length)
    (hfew : ∀ g : Nat, ((subW (fuzA f E X)).run g 0 [setL (fuzA f E X).length (Clo (fuzA f E X) fun x => x = 0)]).length ≤ 20000) :
    Calls Tryd.prog 24 #[.string ⟨t.toArray⟩, .int .i64 (E : Int), .int .i64 (X : Int)] w (FuzR w f E X) := by
  have HD := Lib.hid (letters_any w t [] ht (by simp))
  have HT := Lib.hid hT
  have HDE := Lib.hid hl
  have HEE := Lib.hid he
  have HF := Lib.hid hf
  have HFEW := Lib.hid hfew
  clear hT ht hl he hfew
  go_enter Tryd.func24, Tryd.ntmps24
  go_wp2_with fail
  refine HD.out.mono ?_
  rintro e w1 ⟨hb1, ⟨v, l2, rfl, hd, hl, ho⟩ | ⟨l2, z, rfl, hz, hd, hl⟩ | ⟨rfl, hno⟩⟩
  · obtain rfl := hd.inj HDE.out
    obtain ⟨z1, z2, _⟩ := lets_zero hl
    have hfl : f.length = l2.length := by rw [← hf, List.length_map]
    obtain ⟨n, hn⟩ : ∃ n, l2.length = n := ⟨_, rfl⟩
    rw [hf] at ho z1 z2
    rw [hn] at ho hfl
    rw [hfl] at z1 z2 hX
    obtain ⟨A, cp, rfl, hcp⟩ := own_shape ho
    have HSL := Lib.hid (Sl.of_own ho)
    have HB1 := Lib.hid hb1
    have HFL := Lib.hid hfl
    obtain ⟨wb, hwb⟩ : ∃ b, b = w1.heap.size := ⟨_, rfl⟩
    obtain ⟨N, hN⟩ : ∃ N, (n + 1) * (E + 1) = N := ⟨_, rfl⟩
    have HN := Lib.hid hN.symm
    have hNb : N ≤ 51 := by rw [← hN]; exact Nat.le_trans (Nat.mul_le_mul (show n + 1 ≤ 17 by omega) (show E + 1 ≤ 3 by omega)) (by omega)
    have hN0 : 0 < N := by rw [← hN]; exact Nat.mul_pos (by omega) (by omega)
    have hprod : ((n : Int) + 1) * ((E : Int) + 1) = (N : Int) := by rw [← hN, Int.natCast_mul]; rfl
    have hmul : IntKind.i64.wrap (((n : Int) + 1) * ((E : Int) + 1)) = (N : Int) := by rw [hprod, IntKind.wrap_i64]; omega
    have hmk := fun W => make_looseN N (by omega) W
    obtain ⟨w2, hw2⟩ : ∃ W, w1.alloc (.cells #[.int .i64 ((E : Int) + 1)] 3) = W := ⟨_, rfl⟩
    have hb2 : Below w1.heap.size w1 w2 := by rw [← hw2]; exact bnew (brefl w1) _
    have hsz2 : w2.heap.size = w1.heap.size + 1 := by rw [← hw2]; simp
    have hc2 : w2.cell? ⟨wb, 0, none⟩ = some (.int .i64 ((E : Int) + 1)) := by
      rw [← hw2, hwb]
      have := (own_new w1 #[.int .i64 ((E : Int) + 1)] 3 1 1 rfl (by unfold maxLen; omega) (nb := w1.heap.size) rfl (base := 0) (Nat.zero_le _)).cells (g := w1.heap.size) rfl 0 (.int .i64 ((E : Int) + 1)) rfl
      rwa [Addr.add_lit] at this
    have hl2 := loose_bare w2 N (by omega)
    have HW2 := Lib.hid hc2
    have HWB2 : Hid (wb < w2.heap.size) := by show wb < _; rw [hsz2, hwb]; exact Nat.lt_succ_self _
    have HBB := Lib.hid (bcall HB1.out hb2)
    have HS2 := Lib.hid ((HSL.out.below hb2).more hb2.size)
    obtain ⟨go, hgo⟩ : ∃ g, g = w2.heap.size := ⟨_, rfl⟩
    rw [← hgo] at hl2
    have HL2 := Lib.hid hl2
    have HM0 : Hid ((List.replicate N bareH).map (·.d) = fuzL n E X 0) := by
      show _ = _
      rw [List.map_replicate, fuzL_zero, hN]
      rfl
    have HWW := Lib.hid hw2
    have HWBE := Lib.hid hwb
    have HGOE := Lib.hid hgo
    clear hd hl ho hn hb1 hN hprod hb2 hc2 hl2 hw2 hsz2 hwb hgo hf hfl z2
    go_wp2_with fail
    have hg : go = w1.heap.size + 1 := by rw [HGOE.out, ← HWW.out]; simp
    rw [← hg, ← HWBE.out, HWW.out]
    clear hg
    refine fz_i1 w2 _ go N N _ HL2 n E X wb hE z1 (by omega) HN HW2 HWB2 HM0 A cp _ _ _ _ _ _ _ _ _ _ _ _ _ _ _ _ _ _ _ _ _ _ _ _ _ _ _ _ _ _ _ _ _ _ _ _ _ _ _ _ _ _ _ _ _ _ _ _ _ _ _ _ _ _ _ _ _ _ _ _ _ _ _ _ _ _ _ _ _ _ _ _ _ _ _ _ _ _ _ _ _ _ _ _ _ _ _ _ _ _ _ _ _ _ _ _ _ _ _ _ _ _ _ _ _ _ _ _ _ _ _ _ _ _ _ _ _ _ _ _ _ _ _ _ _ _ _ _ _ _ _ _ _ _ _ _ _ _ _ _ _ _ _ _ _ _ _ _ _ _ _ _ _ _ _ _ _ _ _ _ _ _ _ _ _ _ (fun c a a' w hd h => by cases a; cases a'; cases hd; exact h) ?_
    intro W3 hs3 x53 u13 u14 u54 u55 u56 u57 u58 u59 u60 u61 u62 u63 u64 u65 u66 u67 u68 u69 u70 u71 u72 u73 u74 u75 u76 u77 u78 u79 u80 u81 u82 u83 u84 u85 u86 u87 u88 u89 u90 u91 u92 u93 u94 u95 u96 u97 u98 HR3 HM3
    clear HL2 HM0 hmul hmk
    go_wp2_with fail
    have HFZ : Hid (FzS w2 W3 (fuzL n E X N) [] go N N) := ⟨w2, hs3, HR3.out, HM3.out, HR3.out.bel⟩
    refine fz_i3 w2 W3 go N N f (fuzL n E X N) n E X wb (by rw [fuzL_len]) (fuzL_fewT _ _ _ _) HFL hE z1 (by omega) HFZ HW2 HWB2 A cp HS2 _ _ _ _ _ _ _ _ _ _ _ _ _ _ _ _ _ _ _ _ _ _ _ _ _ _ _ _ _ _ _ _ _ _ _ _ _ _ _ _ _ _ _ _ _ _ _ _ _ _ _ _ _ _ _ _ _ _ _ _ _ _ _ _ _ _ _ _ _ _ _ _ _ _ _ _ _ _ _ _ _ _ _ _ _ _ _ _ _ _ _ _ _ _ _ _ _ _ _ _ _ _ _ _ _ _ _ _ _ _ _ _ _ _ _ _ _ _ _ _ _ _ _ _ _ _ _ _ _ _ _ _ _ _ _ _ _ _ _ _ _ _ _ _ _ _ _ _ _ _ _ _ _ _ _ _ _ _ _ _ _ _ _ _ _ _ (fun c a a' w hd h => by cases a; cases a'; cases hd; exact h) ?_
    intro W4 go4 m4 cp4 x102 u15 u16 u103 u104 u105 u106 u107 u108 u109 u110 u111 u112 u113 u114 u115 u116 u117 u118 u119 u120 u121 u122 u123 u124 u125 u126 u127 u128 u129 u130 u131 u132 u133 u134 u135 u136 u137 u138 u139 u140 u141 u142 u143 u144 u145 u146 u147 u148 u149 u150 u151 u152 u153 u154 u155 u156 u157 u158 u159 u160 u161 u162 u163 u164 u165 u166 u167 u168 HR4
    clear HFZ HR3 HM3
    have hb4 := HR4.out.bel
    obtain ⟨hs4, h1, h2, h3, h4, h5, h6⟩ := HR4.out.lo (fuzL_fewT _ _ _ _) (by rw [fuzL_len, ← HN.out]; omega) (Nat.le_trans (fuzE_len _ _ _ _) (by rw [← HN.out]; omega))
    have hA : fuzA f E X = hs4.map (·.d) := by rw [h2, HN.out, ← HFL.out]; rfl
    have HGD : Hid (LGood (hs4.map (·.d))) := by
      rw [← hA]
      exact leads_good _ _ (fuzE_ok f E X) (fuzL_good _ _ _ (Nat.mul_pos (by omega) (by omega)))
    have hml : (fuzA f E X).length = m4 := by rw [hA, List.length_map, h3]
    have HNF : Hid (∀ g : Nat, ¬ ((20000 : Int) < (((subW (hs4.map (·.d))).run g 0 [setL m4 (Clo (hs4.map (·.d)) fun x => x = 0)]).length : Nat))) := fun g => by
      have h := HFEW.out g
      rw [hml, hA] at h
      omega
    have HFA := Lib.hid hA
    have HML := Lib.hid hml
    have HTG := Lib.hid (tight_any W4 W4.heap.size (Nat.le_refl _) (some ⟨go4, 0, none⟩) m4 cp4 hs4 h1 (by omega) HGD.out 20000 (by omega) (HT.out.below (bcall HBB.out hb4)))
    have HB4 := Lib.hid (bcall HBB.out hb4)
    clear h1 h2 h4 h5 h6 hA hml hb4 HR4
    go_wp2_with fail
    refine HTG.out.mono ?_
    rintro e w7 (⟨⟨f', hf'⟩, _, _⟩ | ⟨_, v7, XX, dd, rfl, hown7, hl7, hq7, hle7, hd7, hb7⟩)
    · exact absurd hf' (by have := HNF.out f'; omega)
    · have hxl : XX.length ≤ 20000 := by omega
      have hxl2 : (XX.map (·.d)).length ≤ 20000 := by rw [List.length_map]; exact hxl
      have hxg := hl7.good hxl2
      have HXT : Hid (∀ t : List UInt8, takesB (XX.map (·.d)) t = looseTakes (fuzA f E X) t) := fun t => by
        rw [HFA.out]
        exact tight_takes (l := hs4.map (·.d)) hl7 (by rw [List.length_map, h3]; exact hq7) hxl2 t
      obtain ⟨Ax, cx, rfl, hx7⟩ := sts_use hown7 hxl hxg
      have HPOST : Hid (FuzR w f E X (.returned (.tuple #[.slice Ax XX.length cx, .int .i64 0])) w7) := ⟨bcall HB4.out hb7, Ax, cx, XX, rfl, hx7, hxl, hxg, HXT.out⟩
      clear hown7 hl7 hq7 hle7 hd7 hxl hxl2 hxg hx7 hb7 HTG HNF HGD HXT
      go_wp2_with fail
      go_ret2
      exact HPOST.out
  · obtain rfl := hd.inj HDE.out
    exact absurd (hl.symm.trans HEE.out) hz
  · exact absurd HDE.out (hno l)
end Go.Proofs.YtclahhkcbkpofaaDoor
/- What patterns' automata take of characters' bytes (plain Lean). -/
namespace Go.Proofs.YtclahhkcbkpofaaDoor
open Sp

theorem fit_prefix : ∀ {q l : List Int}, (∀ c ∈ q, c ≠ 63) → (fitQ (q.map rangeOf) l ↔ q <+: l)
  | [], l, _ => ⟨fun _ => List.nil_prefix, fun _ => trivial⟩
  | c :: q, [], _ => ⟨False.elim, fun h => by have := h.length_le; simp at this⟩
  | c :: q, d :: l, h => by
    have e : rangeOf c = (c, c) := if_neg (h c (List.mem_cons_self ..))
    have ih := fit_prefix (q := q) (l := l) fun x hx => h x (List.mem_cons_of_mem _ hx)
    rw [List.cons_prefix_cons, ← ih, List.map_cons, e]
    show (c ≤ d ∧ d ≤ c ∧ _) ↔ _
    constructor
    · rintro ⟨h1, h2, h3⟩
      exact ⟨by omega, h3⟩
    · rintro ⟨rfl, h3⟩
      exact ⟨Int.le_refl _, Int.le_refl _, h3⟩
theorem made_star {q l : List Int} {D : List St} {t : List UInt8} (h : MadeQ q true D) (hd : Dec (bytesN t) l) : takesB D t = true ↔ fitQ (q.map rangeOf) l := by
  rw [h.2.2 t, wild_takes (rowsC_ok q), ← sg_begins (q.map rangeOf) hd.1, ← hd.2]
  constructor
  · rintro ⟨u, v, h1, h2, _⟩
    exact ⟨u, v, h1, h2⟩
  · rintro ⟨u, v, h1, h2⟩
    exact ⟨u, v, h1, h2, .inl rfl⟩
theorem made_begins {q l : List Int} {D : List St} {t : List UInt8} (h : MadeQ q true D) (hq : ∀ c ∈ q, c ≠ 63) (hd : Dec (bytesN t) l) : takesB D t = decide (q <+: l) := by
  rw [Bool.eq_iff_iff, decide_eq_true_eq, made_star h hd, fit_prefix hq]
theorem made_same {q l : List Int} {D : List St} {t : List UInt8} (h : MadeQ q false D) (hq : ∀ c ∈ q, c ≠ 63) (hd : Dec (bytesN t) l) : takesB D t = decide (l = q) := by
  rw [Bool.eq_iff_iff, decide_eq_true_eq, h.2.2 t, wild_takes (rowsC_ok q)]
  have e : (∃ u v, bytesN t = u ++ v ∧ Sg (rowsC q) u ∧ (false = true ∨ v = [])) ↔ Sg (rowsOf (q.map rangeOf)) (encs l) := by
    rw [← hd.2]
    constructor
    · rintro ⟨u, v, h1, h2, h3 | rfl⟩
      · cases h3
      · rw [h1, List.append_nil]; exact h2
    · intro h2
      exact ⟨_, [], (List.append_nil _).symm, h2, .inr rfl⟩
  rw [e, sg_all (q.map rangeOf) hd.1, fit_prefix hq, List.length_map]
  constructor
  · rintro ⟨h1, h2⟩
    exact (h2.eq_of_length h1.symm).symm
  · rintro rfl
    exact ⟨rfl, List.prefix_refl _⟩
/-- The pattern f?x* and three texts. -/
theorem dec_fox : Dec (bytesN [102, 111, 120, 101, 115]) [102, 111, 120, 101, 115] := ⟨by decide, by decide⟩
theorem dec_fex : Dec (bytesN [102, 195, 169, 120]) [102, 233, 120] := ⟨by decide, by decide⟩
theorem dec_fx : Dec (bytesN [102, 120]) [102, 120] := ⟨by decide, by decide⟩
theorem dec_pat : Dec (bytesN [102, 63, 120, 42]) [102, 63, 120, 42] := ⟨by decide, by decide⟩
theorem fold_pat : ([102, 63, 120, 42] : List Int).map foldI = [102, 63, 120] ++ if true then [42] else [] := by decide
theorem dec_star : Dec (bytesN [42]) [42] := ⟨by decide, by decide⟩
end Go.Proofs.YtclahhkcbkpofaaDoor
/- The word fox with an edit behind one character: how few sets are met, three texts (plain Lean). -/
namespace Go.Proofs.YtclahhkcbkpofaaDoor
open Sp

def foxL : List Lst := [⟨false, [], []⟩, ⟨false, [], []⟩, ⟨false, [], [5]⟩, ⟨false, [], []⟩, ⟨false, [], [7]⟩, ⟨false, [], []⟩, ⟨true, [], []⟩, ⟨true, [], []⟩]
def foxE : List Ld := [(0, 2, 102, 102), (1, 3, 102, 102), (2, 4, 111, 111), (2, 3, 0, 1114111), (2, 5, 0, 1114111), (3, 5, 111, 111), (4, 6, 120, 120), (4, 5, 0, 1114111), (4, 7, 0, 1114111), (5, 7, 120, 120), (6, 7, 0, 1114111)]
theorem fox_L : fuzL 3 1 1 ((3 + 1) * (1 + 1)) = foxL := by rfl
theorem fox_E : fuzE [102, 111, 120] 1 1 ((3 + 1) * (1 + 1)) = foxE := by decide
/-- Where one comes without a character. -/
def foxC (x y : Nat) : Bool := x == y || (x == 2 && y == 5) || (x == 4 && y == 7)
theorem fox_at {x : Nat} {s : Lst} (h : foxL[x]? = some s) : s.arcs = [] ∧ ∀ y : Nat, ((y : Nat) : Int) ∈ s.free ↔ (x = 2 ∧ y = 5) ∨ (x = 4 ∧ y = 7) := by
  have hx := (List.getElem?_eq_some_iff.1 h).1
  have hx : x < 8 := hx
  match x, hx, h with
  | 0, _, h => injection h with h; subst h; exact ⟨rfl, fun y => by simp⟩
  | 1, _, h => injection h with h; subst h; exact ⟨rfl, fun y => by simp⟩
  | 2, _, h => injection h with h; subst h; exact ⟨rfl, fun y => by simp; omega⟩
  | 3, _, h => injection h with h; subst h; exact ⟨rfl, fun y => by simp⟩
  | 4, _, h => injection h with h; subst h; exact ⟨rfl, fun y => by simp; omega⟩
  | 5, _, h => injection h with h; subst h; exact ⟨rfl, fun y => by simp⟩
  | 6, _, h => injection h with h; subst h; exact ⟨rfl, fun y => by simp⟩
  | 7, _, h => injection h with h; subst h; exact ⟨rfl, fun y => by simp⟩
def foxF (x y : Nat) : Prop := (x = 2 ∧ y = 5) ∨ (x = 4 ∧ y = 7)
theorem fox_edge (x : Nat) (t : List Nat) (y : Nat) : edgeL foxL x t y ↔ t = [] ∧ foxF x y := by
  constructor
  · rintro ⟨s, hs, h⟩
    obtain ⟨h1, h2⟩ := fox_at hs
    rcases h with ⟨h3, h4⟩ | ⟨_, _, a, h3, _⟩
    · exact ⟨h3, (h2 y).1 h4⟩
    · rw [h1] at h3; cases h3
  · rintro ⟨rfl, h⟩
    have hx : x < foxL.length := by
      show x < 8
      rcases h with ⟨rfl, _⟩ | ⟨rfl, _⟩ <;> omega
    obtain ⟨s, hs⟩ : ∃ s, foxL[x]? = some s := ⟨foxL[x], List.getElem?_eq_getElem hx⟩
    exact ⟨s, hs, .inl ⟨rfl, ((fox_at hs).2 y).2 h⟩⟩
theorem fox_clo (z y : Nat) : Way (orE (edgeL foxL) (esE foxE)) z [] y ↔ foxC z y = true := by
  have e : foxC z y = true ↔ z = y ∨ foxF z y := by
    unfold foxC foxF
    simp only [Bool.or_eq_true, Bool.and_eq_true, beq_iff_eq, or_assoc]
  rw [e]
  constructor
  · intro h
    have key : ∀ {z y : Nat} {t : List Nat}, Way (orE (edgeL foxL) (esE foxE)) z t y → t = [] → z = y ∨ foxF z y := by
      intro z y t h
      induction h with
      | nil => exact fun _ => .inl rfl
      | @cons x y z t u h1 _ ih =>
        intro ht
        obtain ⟨e1, e2⟩ := List.append_eq_nil_iff.1 ht
        rcases h1 with h1 | h1
        · obtain ⟨_, h2⟩ := (fox_edge _ _ _).1 h1
          rcases ih e2 with rfl | h3
          · exact .inr h2
          · exfalso
            unfold foxF at h2 h3
            omega
        · exact absurd e1 (seg_ne (esE_seg h1))
    exact key h rfl
  · rintro (rfl | h)
    · exact .nil _
    · exact .one (.inl ((fox_edge _ _ _).2 ⟨rfl, h⟩))
def foxS : List (List Nat) := [[], [0], [2, 5], [3, 4, 5, 7], [3, 5, 7], [3, 5], [5, 7], [5, 6, 7], [5], [7]]
def stepB (S : List Nat) (k : Nat) (y : Nat) : Bool := foxE.any fun e => S.contains e.1 && fires k e && foxC e.2.1 y
theorem fox_step : ∀ S ∈ foxS, ∀ k ∈ [102, 111, 120, 1000], ∃ T ∈ foxS, ∀ y ∈ List.range 8, T.contains y = stepB S k y := by decide
theorem fox_few : FewC foxL foxE foxC foxS [102, 111, 120, 1000] where
  ok := by
    intro e he
    show e.1 < 8 ∧ e.2.1 < 8
    have : ∀ e ∈ foxE, e.1 < 8 ∧ e.2.1 < 8 := by decide
    exact this e he
  emp := fun x t y h => ((fox_edge x t y).1 h).1
  inl := fun x t y h => by
    obtain ⟨_, h⟩ := (fox_edge x t y).1 h
    show x < 8 ∧ y < 8
    unfold foxF at h
    omega
  kind := by
    intro e he
    have : ∀ e ∈ foxE, (e.2.2.1 = 0 ∧ e.2.2.2 = 1114111) ∨ (0 ≤ e.2.2.1 ∧ e.2.2.1 < 128 ∧ e.2.2.2 = e.2.2.1) := by decide
    exact this e he
  clo := fun z y _ => fox_clo z y
  pos := by decide
  first := ⟨[0], by decide, fun y hy => by
    have hy : y < 8 := hy
    have : ∀ y ∈ List.range 8, y ∈ [0] ↔ foxC 0 y = true := by decide
    exact this y (List.mem_range.2 hy)⟩
  none := by decide
  keys := fun k => by
    have h : ∀ e ∈ foxE, e.2.2.2 = 1114111 ∨ e.2.2.1 = 102 ∨ e.2.2.1 = 111 ∨ e.2.2.1 = 120 := by decide
    by_cases h1 : k = 102
    · exact ⟨102, by decide, fun e _ => by rw [h1]⟩
    by_cases h2 : k = 111
    · exact ⟨111, by decide, fun e _ => by rw [h2]⟩
    by_cases h3 : k = 120
    · exact ⟨120, by decide, fun e _ => by rw [h3]⟩
    refine ⟨1000, by decide, fun e he => ?_⟩
    unfold fires
    rcases h e he with h | h | h | h
    · rw [h]; rfl
    all_goals
      rw [h, beq_eq_false_iff_ne.2 (show _ ≠ ((k : Nat) : Int) by omega), beq_eq_false_iff_ne.2 (show _ ≠ ((1000 : Nat) : Int) by omega)]
  step := fun S hS k hk => by
    obtain ⟨T, hT, h⟩ := fox_step S hS k hk
    refine ⟨T, hT, fun y hy => ?_⟩
    have h1 := h y (List.mem_range.2 hy)
    rw [← List.contains_iff_mem, h1]
    unfold stepB
    rw [List.any_eq_true]
    constructor
    · rintro ⟨e, he, h2⟩
      rw [Bool.and_eq_true, Bool.and_eq_true, List.contains_iff_mem] at h2
      exact ⟨e, he, h2.1.1, h2.1.2, h2.2⟩
    · rintro ⟨e, he, h2, h3, h4⟩
      refine ⟨e, he, ?_⟩
      rw [Bool.and_eq_true, Bool.and_eq_true, List.contains_iff_mem]
      exact ⟨⟨h2, h3⟩, h4⟩
theorem fox_sets (f : Nat) : ((subW (leadsL foxL foxE)).run f 0 [setL (leadsL foxL foxE).length (Clo (leadsL foxL foxE) fun x => x = 0)]).length ≤ 20000 := by
  have h1 := fox_few.few (fun S hS y hy => by
    have : ∀ S ∈ foxS, ∀ y ∈ S, y < 8 := by decide
    exact this S hS y hy) f
  have h2 : foxS.length * 601 ≤ 20000 := by decide
  exact Nat.le_trans h1 h2
/-- By characters. -/
theorem fox_takes {t : List UInt8} {l : List Int} (hd : Dec (bytesN t) l) : looseTakes (leadsL foxL foxE) t = true ↔ CW foxF foxE 0 l 6 ∨ CW foxF foxE 0 l 7 := by
  have h : looseTakes (leadsL foxL foxE) t = true ↔ ∃ z s, (leadsL foxL foxE)[z]? = some s ∧ s.fin = true ∧ Way (edgeL (leadsL foxL foxE)) 0 (bytesN t) z := takes_way
  have hw : ∀ z, z < 8 → (Way (edgeL (leadsL foxL foxE)) 0 (bytesN t) z ↔ CW foxF foxE 0 l z) := fun z hz => by
    rw [← noE_way, leads_way foxE foxL noE fox_few.ok fox_few.inl (noE_in _) (by decide) hz, orE_no, hd.2, cw_iff fox_edge hd.1]
  have hf : ∀ z, (∃ s, (leadsL foxL foxE)[z]? = some s ∧ s.fin = true) ↔ z = 6 ∨ z = 7 := fun z => by
    rw [leads_fin]
    constructor
    · rintro ⟨s, h1, h2⟩
      have hz : z < 8 := (List.getElem?_eq_some_iff.1 h1).1
      match z, hz, h1 with
      | 0, _, h1 => injection h1 with h1; subst h1; cases h2
      | 1, _, h1 => injection h1 with h1; subst h1; cases h2
      | 2, _, h1 => injection h1 with h1; subst h1; cases h2
      | 3, _, h1 => injection h1 with h1; subst h1; cases h2
      | 4, _, h1 => injection h1 with h1; subst h1; cases h2
      | 5, _, h1 => injection h1 with h1; subst h1; cases h2
      | 6, _, _ => exact .inl rfl
      | 7, _, _ => exact .inr rfl
    · rintro (rfl | rfl)
      · exact ⟨_, rfl, rfl⟩
      · exact ⟨_, rfl, rfl⟩
  rw [h]
  constructor
  · rintro ⟨z, s, h1, h2, h3⟩
    rcases (hf z).1 ⟨s, h1, h2⟩ with rfl | rfl
    · exact .inl ((hw 6 (by omega)).1 h3)
    · exact .inr ((hw 7 (by omega)).1 h3)
  · rintro (h1 | h1)
    · obtain ⟨s, h2, h3⟩ := (hf 6).2 (.inl rfl)
      exact ⟨6, s, h2, h3, (hw 6 (by omega)).2 h1⟩
    · obtain ⟨s, h2, h3⟩ := (hf 7).2 (.inr rfl)
      exact ⟨7, s, h2, h3, (hw 7 (by omega)).2 h1⟩
theorem foxE_mem {e : Ld} (h : e ∈ foxE) (c : Int) (l : List Int) {z : Nat} (h1 : e.2.2.1 ≤ c) (h2 : c ≤ e.2.2.2) (r : CW foxF foxE e.2.1 l z) : CW foxF foxE e.1 (c :: l) z := .char h h1 h2 r
theorem dec_fax : Dec (bytesN [102, 97, 120]) [102, 97, 120] := ⟨by decide, by decide⟩
theorem dec_foxy : Dec (bytesN [102, 111, 120, 121]) [102, 111, 120, 121] := ⟨by decide, by decide⟩
theorem dec_box : Dec (bytesN [98, 111, 120]) [98, 111, 120] := ⟨by decide, by decide⟩
theorem dec_word : Dec (bytesN [102, 111, 120]) [102, 111, 120] := ⟨by decide, by decide⟩
theorem fox_fax : looseTakes (leadsL foxL foxE) [102, 97, 120] = true := (fox_takes dec_fax).2 (.inr (
  foxE_mem (e := (0, 2, 102, 102)) (by decide) 102 _ (by decide) (by decide) (foxE_mem (e := (2, 5, 0, 1114111)) (by decide) 97 _ (by decide) (by decide) (foxE_mem (e := (5, 7, 120, 120)) (by decide) 120 _ (by decide) (by decide) (.nil 7)))))
theorem fox_foxy : looseTakes (leadsL foxL foxE) [102, 111, 120, 121] = true := (fox_takes dec_foxy).2 (.inr (
  foxE_mem (e := (0, 2, 102, 102)) (by decide) 102 _ (by decide) (by decide) (foxE_mem (e := (2, 4, 111, 111)) (by decide) 111 _ (by decide) (by decide) (foxE_mem (e := (4, 6, 120, 120)) (by decide) 120 _ (by decide) (by decide) (foxE_mem (e := (6, 7, 0, 1114111)) (by decide) 121 _ (by decide) (by decide) (.nil 7))))))
theorem fox_box : looseTakes (leadsL foxL foxE) [98, 111, 120] = false := by
  have key : ∀ {x z : Nat} {l : List Int}, CW foxF foxE x l z → x = 0 → ∀ c r, l = c :: r → c = 102 := by
    intro x z l h
    cases h with
    | nil => intro _ c r h; cases h
    | free h _ =>
      intro hx
      unfold foxF at h
      omega
    | @char z e d l he h1 h2 _ =>
      intro hx c r h
      injection h with h _
      subst h
      have : ∀ e ∈ foxE, e.1 = 0 → e.2.2.1 = 102 ∧ e.2.2.2 = 102 := by decide
      have := this e he hx
      omega
  cases hb : looseTakes (leadsL foxL foxE) [98, 111, 120]
  · rfl
  · rcases (fox_takes dec_box).1 hb with h | h
    · exact absurd (key h rfl _ _ rfl) (by decide)
    · exact absurd (key h rfl _ _ rfl) (by decide)
end Go.Proofs.YtclahhkcbkpofaaDoor
/- How far two lists are from one another (plain Lean): the distance from the ends and from the beginnings; it is a distance. -/
namespace Go.Proofs.YtclahhkcbkpofaaDoor

/-- From the beginnings on. -/
def lev : List Int → List Int → Nat
  | [], b => b.length
  | a :: u1, [] => (a :: u1).length
  | a :: u1, b :: v1 => min (lev u1 v1 + if a = b then 0 else 1) (min (lev u1 (b :: v1) + 1) (lev (a :: u1) v1 + 1))
termination_by a b => a.length + b.length
theorem lev_nil (b : List Int) : lev [] b = b.length := by rw [lev]
theorem lev_nil2 (a : List Int) : lev a [] = a.length := by
  cases a with
  | nil => rw [lev]
  | cons a u1 => rw [lev]
theorem lev_cons (a b : Int) (u1 v1 : List Int) : lev (a :: u1) (b :: v1) = min (lev u1 v1 + if a = b then 0 else 1) (min (lev u1 (b :: v1) + 1) (lev (a :: u1) v1 + 1)) := by rw [lev]
/-- One list made of another, in so many steps. -/
inductive Al : List Int → List Int → Nat → Prop
  | nil : Al [] [] 0
  | del {x : Int} {a b : List Int} {n : Nat} (h : Al a b n) : Al (x :: a) b (n + 1)
  | ins {y : Int} {a b : List Int} {n : Nat} (h : Al a b n) : Al a (y :: b) (n + 1)
  | sub {x y : Int} {a b : List Int} {n : Nat} (h : Al a b n) : Al (x :: a) (y :: b) (n + if x = y then 0 else 1)
theorem al_ins : ∀ b : List Int, Al [] b b.length
  | [] => .nil
  | _ :: b => .ins (al_ins b)
theorem al_del : ∀ a : List Int, Al a [] a.length
  | [] => .nil
  | _ :: a => .del (al_del a)
theorem lev_al : ∀ a b : List Int, Al a b (lev a b)
  | [], b => by rw [lev_nil]; exact al_ins b
  | a :: u1, [] => by rw [lev_nil2]; exact al_del _
  | a :: u1, b :: v1 => by
    have h1 := lev_al u1 v1
    have h2 := lev_al u1 (b :: v1)
    have h3 := lev_al (a :: u1) v1
    rw [lev_cons]
    have h4 : Al (a :: u1) (b :: v1) (lev u1 v1 + if a = b then 0 else 1) := .sub h1
    have h5 : Al (a :: u1) (b :: v1) (lev u1 (b :: v1) + 1) := .del h2
    have h6 : Al (a :: u1) (b :: v1) (lev (a :: u1) v1 + 1) := .ins h3
    rcases Nat.le_total (lev u1 v1 + if a = b then 0 else 1) (min (lev u1 (b :: v1) + 1) (lev (a :: u1) v1 + 1)) with h | h
    · rw [Nat.min_eq_left h]; exact h4
    · rw [Nat.min_eq_right h]
      rcases Nat.le_total (lev u1 (b :: v1) + 1) (lev (a :: u1) v1 + 1) with h | h
      · rw [Nat.min_eq_left h]; exact h5
      · rw [Nat.min_eq_right h]; exact h6
termination_by a b => a.length + b.length
theorem lev_del (x : Int) (a b : List Int) : lev (x :: a) b ≤ lev a b + 1 := by
  cases b with
  | nil => rw [lev_nil2, lev_nil2]; simp
  | cons y b => rw [lev_cons]; omega
theorem lev_ins (y : Int) (a b : List Int) : lev a (y :: b) ≤ lev a b + 1 := by
  cases a with
  | nil => rw [lev_nil, lev_nil]; simp
  | cons x a => rw [lev_cons]; omega
theorem lev_least {a b : List Int} {n : Nat} (h : Al a b n) : lev a b ≤ n := by
  induction h with
  | nil => rw [lev_nil]; exact Nat.le_refl _
  | @del x a b n _ ih => have := lev_del x a b; omega
  | @ins y a b n _ ih => have := lev_ins y a b; omega
  | @sub x y a b n _ ih => rw [lev_cons]; omega
theorem Al.app {a b c d : List Int} {n m : Nat} (h : Al a b n) (h' : Al c d m) : Al (a ++ c) (b ++ d) (n + m) := by
  induction h with
  | nil => rw [Nat.zero_add]; exact h'
  | @del x a b n _ ih => rw [show n + 1 + m = n + m + 1 by omega]; exact .del ih
  | @ins y a b n _ ih => rw [show n + 1 + m = n + m + 1 by omega]; exact .ins ih
  | @sub x y a b n _ ih => rw [show (n + if x = y then 0 else 1) + m = n + m + if x = y then 0 else 1 by omega]; exact .sub ih
theorem Al.rev {a b : List Int} {n : Nat} (h : Al a b n) : Al a.reverse b.reverse n := by
  induction h with
  | nil => exact .nil
  | @del x a b n _ ih =>
    have := ih.app (Al.del (x := x) Al.nil)
    rw [List.append_nil] at this
    rw [List.reverse_cons]
    exact this
  | @ins y a b n _ ih =>
    have := ih.app (Al.ins (y := y) Al.nil)
    rw [List.append_nil] at this
    rw [List.reverse_cons]
    exact this
  | @sub x y a b n _ ih =>
    have := ih.app (Al.sub (x := x) (y := y) Al.nil)
    rw [Nat.zero_add] at this
    rw [List.reverse_cons, List.reverse_cons]
    exact this
/-- From the ends or from the beginnings: the same. -/
theorem lev_rev (a b : List Int) : lev a.reverse b.reverse = lev a b := by
  have h1 := lev_least (lev_al a b).rev
  have h2 := lev_least (lev_al a.reverse b.reverse).rev
  rw [List.reverse_reverse, List.reverse_reverse] at h2
  omega
/-! ### A distance -/
theorem Al.symm {a b : List Int} {n : Nat} (h : Al a b n) : Al b a n := by
  induction h with
  | nil => exact .nil
  | del _ ih => exact .ins ih
  | ins _ ih => exact .del ih
  | @sub x y a b n _ ih =>
    have := Al.sub (x := y) (y := x) ih
    rw [show (if y = x then 0 else 1) = (if x = y then 0 else 1 : Nat) by
      by_cases e : x = y
      · rw [if_pos e, if_pos e.symm]
      · rw [if_neg e, if_neg fun h => e h.symm]] at this
    exact this
theorem lev_symm (a b : List Int) : lev a b = lev b a := by
  have h1 := lev_least (lev_al a b).symm
  have h2 := lev_least (lev_al b a).symm
  omega
theorem lev_self : ∀ a : List Int, lev a a = 0
  | [] => by rw [lev_nil]; rfl
  | a :: u1 => by
    have := lev_self u1
    rw [lev_cons, if_pos rfl]
    omega
theorem Al.zero {a b : List Int} {n : Nat} (h : Al a b n) : n = 0 → a = b := by
  induction h with
  | nil => exact fun _ => rfl
  | del _ _ => intro h; omega
  | ins _ _ => intro h; omega
  | @sub x y a b n _ ih =>
    intro h
    by_cases e : x = y
    · rw [e, ih (by omega)]
    · rw [if_neg e] at h; omega
theorem lev_zero {a b : List Int} : lev a b = 0 ↔ a = b := ⟨fun h => (lev_al a b).zero h, fun h => by rw [h]; exact lev_self b⟩
/-- Never more than by way of a third. -/
theorem al_trans : ∀ {a b : List Int} {n : Nat}, Al a b n → ∀ {c : List Int} {m : Nat}, Al b c m → ∃ k, k ≤ n + m ∧ Al a c k := by
  intro a b n h
  induction h with
  | nil => exact fun {c m} h => ⟨m, by omega, h⟩
  | @del x a b n _ ih =>
    intro c m h'
    obtain ⟨k, h1, h2⟩ := ih h'
    exact ⟨k + 1, by omega, .del h2⟩
  | @ins y a b n h ih =>
    intro c m h'
    generalize hb : y :: b = yb at h'
    induction h' with
    | nil => cases hb
    | @del z b' c' m h2 _ =>
      injection hb with e1 e2
      subst e1 e2
      obtain ⟨k, h3, h4⟩ := ih h2
      exact ⟨k, by omega, h4⟩
    | @ins z b' c' m h2 ih2 =>
      obtain ⟨k, h3, h4⟩ := ih2 hb
      exact ⟨k + 1, by omega, .ins h4⟩
    | @sub z v b' c' m h2 _ =>
      injection hb with e1 e2
      subst e1 e2
      obtain ⟨k, h3, h4⟩ := ih h2
      exact ⟨k + 1, by omega, .ins h4⟩
  | @sub x y a b n h ih =>
    intro c m h'
    generalize hb : y :: b = yb at h'
    induction h' with
    | nil => cases hb
    | @del z b' c' m h2 _ =>
      injection hb with e1 e2
      subst e1 e2
      obtain ⟨k, h3, h4⟩ := ih h2
      exact ⟨k + 1, by omega, .del h4⟩
    | @ins z b' c' m h2 ih2 =>
      obtain ⟨k, h3, h4⟩ := ih2 hb
      exact ⟨k + 1, by omega, .ins h4⟩
    | @sub z v b' c' m h2 _ =>
      injection hb with e1 e2
      subst e1 e2
      obtain ⟨k, h3, h4⟩ := ih h2
      refine ⟨k + if x = v then 0 else 1, ?_, .sub h4⟩
      by_cases e1 : x = y
      · subst e1
        omega
      · rw [if_neg e1]
        split <;> omega
theorem lev_trans (a b c : List Int) : lev a c ≤ lev a b + lev b c := by
  obtain ⟨k, h1, h2⟩ := al_trans (lev_al a b) (lev_al b c)
  have := lev_least h2
  omega
theorem Al.len {a b : List Int} {n : Nat} (h : Al a b n) : a.length ≤ b.length + n ∧ b.length ≤ a.length + n := by
  induction h with
  | nil => simp
  | del _ ih => simp only [List.length_cons]; omega
  | ins _ ih => simp only [List.length_cons]; omega
  | sub _ ih => simp only [List.length_cons]; omega
theorem lev_len (a b : List Int) : a.length ≤ b.length + lev a b ∧ b.length ≤ a.length + lev a b := (lev_al a b).len
theorem lev_max : ∀ a b : List Int, lev a b ≤ max a.length b.length
  | [], b => by rw [lev_nil]; simp
  | a :: u1, [] => by rw [lev_nil2]; simp
  | a :: u1, b :: v1 => by
    have := lev_max u1 v1
    rw [lev_cons]
    simp only [List.length_cons]
    split <;> omega
/-! ### By beginnings, u1 a row is made -/
/-- What the row says at k when i characters are done. -/
def levB (a b : List Int) (i k : Nat) : Nat := lev (a.take i).reverse (b.take k).reverse
theorem levB_left (a b : List Int) (k : Nat) (hk : k ≤ b.length) : levB a b 0 k = k := by
  unfold levB
  rw [List.take_zero, List.reverse_nil, lev_nil, List.length_reverse, List.length_take]
  omega
theorem levB_top (a b : List Int) (i : Nat) (hi : i ≤ a.length) : levB a b i 0 = i := by
  unfold levB
  rw [List.take_zero, List.reverse_nil, lev_nil2, List.length_reverse, List.length_take]
  omega
theorem levB_step {a b : List Int} {i k : Nat} {x y : Int} (hx : a[i]? = some x) (hy : b[k]? = some y) : levB a b (i + 1) (k + 1) = min (levB a b i k + if x = y then 0 else 1) (min (levB a b i (k + 1) + 1) (levB a b (i + 1) k + 1)) := by
  obtain ⟨hi, rfl⟩ := List.getElem?_eq_some_iff.1 hx
  obtain ⟨hk, rfl⟩ := List.getElem?_eq_some_iff.1 hy
  unfold levB
  rw [List.take_succ_eq_append_getElem hi, List.take_succ_eq_append_getElem hk, List.reverse_append, List.reverse_append]
  exact lev_cons _ _ _ _
theorem levB_all (a b : List Int) : levB a b a.length b.length = lev a b := by
  unfold levB
  rw [List.take_length, List.take_length, lev_rev]
theorem lev_drop {a b : List Int} {i k : Nat} {x y : Int} (hx : a[i]? = some x) (hy : b[k]? = some y) : lev (a.drop i) (b.drop k) = min (lev (a.drop (i + 1)) (b.drop (k + 1)) + if x = y then 0 else 1) (min (lev (a.drop (i + 1)) (b.drop k) + 1) (lev (a.drop i) (b.drop (k + 1)) + 1)) := by
  obtain ⟨hi, rfl⟩ := List.getElem?_eq_some_iff.1 hx
  obtain ⟨hk, rfl⟩ := List.getElem?_eq_some_iff.1 hy
  rw [List.drop_eq_getElem_cons hi, List.drop_eq_getElem_cons hk]
  exact lev_cons _ _ _ _
end Go.Proofs.YtclahhkcbkpofaaDoor
