/- The walk of FstBuilds. -/
import Derived.Test.YtheickndnniomaaDoorRbuild
import Derived.Test.YtheickndnniomaaDoorRnode
import Derived.Test.YtheickndnniomaaDoorArgs
import Derived.Test.YtheickndnniomaaDoorAwake
namespace Go.Proofs.YtheickndnniomaaDoor
open Go.RowKit Go.Maps

theorem EntsIn.keep2 {w w' : World} {A : Option Addr} {n c : Nat} {l : List Ent} (h : EntsIn w A n c l) (hb : Below w.heap.size w w') : Ents w' w.heap.size A n c l := h.ents.keep hb (Nat.le_refl _)
theorem entsC_one (l : List Ent) : ∀ u ∈ entsC l, u.oneCell' = true := by
  intro u hu
  obtain ⟨e, _, he⟩ := List.mem_flatMap.1 hu
  unfold entC at he
  simp at he
  rcases he with rfl | rfl <;> rfl
set_option maxRecDepth 100000 in
set_option maxHeartbeats 40000000 in
theorem builds_walk (HNODE : RNodeAt) (w : World) (A : Option Addr) (n c : Nat) (l : List Ent) (h : EntsIn w A n c l) (ht : Tab w) :
    Calls Tryd.prog 3 #[.slice A n c] w fun e w' => e = .returned (.bool true) ∧ Below w.heap.size w w' := by
  have HT := Lib.hid ht
  have HE := Lib.hid h
  have HND := Lib.hid HNODE
  have hlen := h.ents.len
  have hcm := h.ents.cm
  have hnc := h.ents.nc
  have hA0 : A = none → n = 0 := fun e => by
    subst e
    rcases Nat.eq_zero_or_pos n with h0 | h0
    · exact h0
    · obtain ⟨b, off, hh, _⟩ := h.ents.at_ h0
      cases hh
  have HA0 := Lib.hid hA0
  clear h ht HNODE hA0
  go_enter Tryd.func3, Tryd.ntmps3
  go_wp2_with fail
  refine (awake_any _ HT.out).mono ?_
  rintro e w1 ⟨rfl, hb1⟩
  have HB1 := Lib.hid hb1
  clear hb1
  go_wp2_with fail
  refine (light_any _ w.heap.size HB1.out.size A n c l (HE.out.keep2 HB1.out) HE.out.lens).mono ?_
  rintro e w2 ⟨rfl, hb2⟩
  have HB2 := Lib.hid (bcall HB1.out hb2)
  clear hb2 HB1
  by_cases hli : lightB l = true
  · have hn120 : n ≤ 120 := by
      unfold lightB at hli
      simp only [Bool.and_eq_true, decide_eq_true_eq] at hli
      omega
    rw [hli]
    clear hli
    have HS2 := Lib.hid HB2.out.size
    have hbw := HB2.out.size
    go_wp2_with (first
      | (at_builtin
         refine wpList_append_sl (base := w.heap.size) w _ rfl _ _ _ rfl el_ent (.slice (some ⟨w2.heap.size, 0, none⟩) 0 0) 0 [] rfl (own_lit w2 _ 2 rfl hbw) (A := A) (m := n) (c := c) (news := entsC l) (B := w.heap.size) rfl ((HE.out.keep2 (bnew HB2.out _)).sl) HA0.out (entsC_one l) (by unfold maxLen; omega) (by omega) (by simp; omega) (bnew HB2.out _) ?_
         intro v3 w3 hown3 hb3 _ _
         rw [Nat.zero_add, List.nil_append] at hown3
         obtain ⟨A3, c3, rfl, hnc3⟩ := own_shape hown3
         have HO3 := Lib.hid hown3
         have HB3 := Lib.hid hb3
         have hb3w := HB3.out.size
         clear hown3 hb3)
      | (at_builtin
         refine wpList_push w w3 _ rfl _ _ _ rfl el_ent _ _ _ rfl HO3.out rfl (by simp) rfl (by simp [Value.oneCell']) (by unfold maxLen; omega) (by omega) hb3w HB3.out ?_
         intro v4 w4 hown4 hb4 _ _
         obtain ⟨A4, c4, rfl, hnc4⟩ := own_shape hown4
         have HO4 := Lib.hid hown4
         have HB4 := Lib.hid hb4
         clear hown4 hb4))
    obtain ⟨g4, rfl, hg4, hgl4⟩ := own_head HO4.out (by omega)
    have hen : Ents w4 w4.heap.size (some ⟨g4, 0, none⟩) n c4 l := by
      refine ⟨?_, by omega, hcm⟩
      have h1 := (Sl.of_own HO4.out).pre (k := n) (by omega)
      rw [List.take_append_of_le_length (by rw [entsC_len]; omega), List.take_of_length_le (by rw [entsC_len]; omega)] at h1
      exact h1
    have HEN := Lib.hid hen
    have hcell4 := HO4.out.cells (g := g4) rfl (n * 2) (.string ⟨#[109, 97, 114, 107]⟩) (by
      rw [List.getElem?_append_right (by rw [entsC_len]; omega), entsC_len, hlen, Nat.sub_self]
      rfl)
    rw [Addr.add_lit, Nat.zero_add] at hcell4
    have HC4 := Lib.hid hcell4
    have HBU := Lib.hid (build_any w4 w4.heap.size (Nat.le_refl _) (some ⟨g4, 0, none⟩) n c4 l HEN.out HE.out.fits (HT.out.below HB4.out))
    clear hen hcell4 hb3w hbw
    refine HBU.out.mono ?_
    rintro e w5 ⟨rfl, hb5⟩
    have HB5 := Lib.hid hb5
    have HB5w := Lib.hid (bcall HB4.out hb5)
    clear hb5 HBU
    go_wp2_with fail
    refine (rbuild_any HND.out w5 w.heap.size HB5w.out.size A n c l (HE.out.keep2 HB5w.out) HE.out.fits).mono ?_
    rintro e w6 ⟨rfl, hb6⟩
    have HB6 := Lib.hid (bcall HB5.out hb6)
    have HB6w := Lib.hid (bcall HB5w.out hb6)
    clear hb6
    have hsm := Same_any w6 w6.heap.size (Nat.le_refl _) (some ⟨g4, 0, none⟩) A n c4 n c l l (HEN.out.keep HB6.out HB6.out.size) ((HE.out.keep2 HB6w.out).keep (Below.refl _ _) HB6w.out.size)
    rw [decide_eq_true rfl] at hsm
    have HSM := Lib.hid hsm
    clear hsm
    generalize buildS l = S at *
    generalize rightE l = r at *
    go_wp2_with fail
    refine HSM.out.mono ?_
    rintro e w7 ⟨rfl, hb7⟩
    have HB7w := Lib.hid (bcall HB6w.out hb7)
    have hbl := bcall HB6.out hb7
    have hcell7 := hbl.cell (p := ⟨g4, n * 2, none⟩) hgl4
    rw [HC4.out] at hcell7
    clear hb7 hbl
    go_wp2_with fail
    go_ret
    exact ⟨rfl, HB7w.out⟩
  · rw [Bool.not_eq_true] at hli
    rw [hli]
    go_wp2_with fail
    go_ret
    exact ⟨rfl, HB2.out⟩
theorem rnode_at : RNodeAt := fun p base W l A n c told hM hrow ho hl hm hcap =>
  rnode_any p base 65 0 (by omega) W [] none none 0 0 0 0 [] l A n c told hM Inv.nil hrow ho hl hm hcap
theorem builds_walkx (w : World) (A : Option Addr) (n c : Nat) (x : Nat → tEnt.den) (h : EntsIn w A n c (entL n x)) (ht : Tab w) :
    Calls Tryd.prog 3 #[.slice A n c] w fun e w' => e = .returned (.bool true) ∧ Below w.heap.size w w' := builds_walk rnode_at w A n c (entL n x) h ht
end Go.Proofs.YtheickndnniomaaDoor
