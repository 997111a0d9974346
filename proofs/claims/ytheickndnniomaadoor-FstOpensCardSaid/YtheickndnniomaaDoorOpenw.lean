/- fst.Open: its walk. -/
import Derived.Test.YtheickndnniomaaDoorOpenr
import Derived.Deep.RegionHeldLaw
import Derived.Deep.RegionLaw
namespace Go.Proofs.YtheickndnniomaaDoor
open Go.RowKit Go.Maps

theorem el_int : Elem Tryd.prog 79 3 1 8 := Elem.mk_ Tryd.underlying79 (z := .int .i64 0) (by kernel_rfl) rfl (by omega)
theorem str_same (a b : ByteArray) : (a.toList == b.toList) = decide (a = b) := by
  rw [ByteArray.toList_eq, ByteArray.toList_eq]
  by_cases h : a = b
  · subst h; simp
  · have : a.data.toList ≠ b.data.toList := fun e => h (ByteArray.ext (Array.toList_inj.1 e))
    rw [decide_eq_false h]
    exact beq_eq_false_iff_ne.2 this
theorem bel_b {w W W' : World} {b : Nat} (h : Below w.heap.size w W) (hg : W.grownBy W' (some b)) (hb : w.heap.size ≤ b) : Below w.heap.size w W' :=
  h.grown hg h.size (fun k hk => by injection hk with hk; omega)
theorem bnew' {w W : World} (h : Below w.heap.size w W) (o : Obj) : Below w.heap.size w (W.alloc o) := bnew h o
set_option maxRecDepth 100000 in
set_option maxHeartbeats 40000000 in
theorem open_any (w : World) (t : List UInt8) (ht : t.length ≤ 1099511627776) (htab : Tab w) : Calls Tryd.prog 13 #[.string ⟨t.toArray⟩] w (OpenPost w (openF t)) := by
  obtain ⟨R, hR⟩ : ∃ R, openF t = R := ⟨_, rfl⟩
  rw [hR]
  have HR := Lib.hid hR
  have HT := Lib.hid htab
  have HC1 := Lib.hid (fun (W : World) (b : Nat) (u : List UInt8) (hc : CurAt W b u) (hu : u.length ≤ 1125899906842624) => count_any W b u hc hu)
  have HAT := Lib.hid (at_any w t)
  clear hR htab
  go_enter Tryd.func13, Tryd.ntmps13
  go_wp2_with fail
  refine HAT.out.mono ?_
  rintro e w1 ⟨rfl, hc1, hb1⟩
  have HB1 := Lib.hid hb1
  have HCU1 := Lib.hid hc1
  obtain ⟨b, hbN⟩ : ∃ b, w.heap.size = b := ⟨_, rfl⟩
  have hbb : w.heap.size ≤ b := by omega
  rw [hbN] at HCU1 ⊢
  have HBN := Lib.hid hbN
  clear hc1 hb1 HAT hbN
  go_wp2_with fail
  refine (HC1.out _ _ t HCU1.out (by omega)).mono ?_
  rintro e w2 ⟨rfl, hc2, hg2⟩
  have HB2 := Lib.hid (bel_b HB1.out hg2 hbb)
  have HCU2 := Lib.hid hc2
  have he2 := readCnt_in t
  have hl2 := readCnt_len t
  clear hc2 hg2 HB1 HCU1
  obtain ⟨⟨v2, e2, t2⟩, hq2⟩ : ∃ v, readCnt t = v := ⟨_, rfl⟩
  have HF2 := Lib.hid hq2
  rw [hq2] at he2 hl2 HCU2 ⊢
  simp only at he2 hl2 HCU2
  clear hq2
  by_cases hb2 : e2 = 0
  · subst hb2
    have hp2 := he2 rfl
    clear he2
    go_wp2_with fail
    refine (HC1.out _ _ t2 HCU2.out (by omega)).mono ?_
    rintro e w3 ⟨rfl, hc3, hg3⟩
    have HB3 := Lib.hid (bel_b HB2.out hg3 hbb)
    have HCU3 := Lib.hid hc3
    have he3 := readCnt_in t2
    have hl3 := readCnt_len t2
    clear hc3 hg3 HB2 HCU2
    obtain ⟨⟨v3, e3, t3⟩, hq3⟩ : ∃ v, readCnt t2 = v := ⟨_, rfl⟩
    have HF3 := Lib.hid hq3
    rw [hq3] at he3 hl3 HCU3 ⊢
    simp only at he3 hl3 HCU3
    clear hq3
    by_cases hb3 : e3 = 0
    · subst hb3
      have hp3 := he3 rfl
      have HR3 : Hid (openG t v2 v3 (rdAll v2.toNat [] [] [] t3) = R) := by
        show _ = _
        rw [← HR.out, openF_3 HF2.out HF3.out]
      obtain ⟨C, rfl⟩ := Int.eq_ofNat_of_zero_le hp2.1
      obtain ⟨p, hpN⟩ : ∃ p, w3.heap.size = p := ⟨_, rfl⟩
      have HO3 := Lib.hid (OpAt.start w3 v3 HCU3.out hpN)
      have HB4 := Lib.hid (bnew' HB3.out (.cells #[.slice none 0 0, .int .i64 v3, .int .i64 0] 78))
      have HPN := Lib.hid hpN
      have HP3 := Lib.hid hp3
      rw [Int.toNat_natCast] at HR3
      clear he3 HCU3 HB3 HR HF2 HF3 hp3 hpN
      go_wp2_with fail
      rw [HPN.out]
      generalize w3.alloc (.cells #[.slice none 0 0, .int .i64 v3, .int .i64 0] 78) = W0 at *
      have hC63 : (C : Int) ≤ 9223372036854775807 := hp2.2
      have HBP : Hid (w.heap.size ≤ p) := Nat.le_trans hbb (Nat.le_of_lt HO3.out.lb)
      have hpb := HO3.out.lb
      obtain ⟨RA, hRA⟩ : ∃ RA, rdAll C [] [] [] t3 = RA := ⟨_, rfl⟩
      rw [hRA] at HR3
      have HRA := Lib.hid hRA
      have hl4 : t3.length ≤ 1099511627776 := by omega
      clear hRA hp2 hl2 hl3
      go_loopw [9, 10, 11] (fun sv dv kv wr => ∃ (i : Nat) (A : Option Addr) (c : Nat) (hs : List Nh) (As : Option Addr) (ks : Nat) (Ad : Option Addr) (kd : Nat) (sizes deep : List Int) (u : List UInt8), i ≤ C ∧ kv = .int .i64 i ∧ sv = .slice As i ks ∧ dv = .slice Ad i kd ∧ i + u.length ≤ 1099511627776 ∧ i ≤ ks ∧
        Hid (OpAt wr b p (p + 1) A i c v3 hs As i ks Ad i kd sizes deep u) ∧ Hid (RdInv (hs.map (·.d)) sizes deep) ∧ Hid (Below w.heap.size w wr) ∧ Hid (rdAll (C - i) (hs.map (·.d)) sizes deep u = RA)) (fun _ _ kv _ => C - (intOf kv).toNat)
      case atStart => exact ⟨0, none, 0, [], none, 0, none, 0, [], [], t3, Nat.zero_le _, rfl, rfl, rfl, by omega, Nat.le_refl _, HO3, RdInv.nil, HB4, HRA⟩
      case round =>
        obtain ⟨i, A, c, hs, As, ks, Ad, kd, sizes, deep, u, hiC, rfl, rfl, rfl, hiu, hik, HO, HI, HB, HQ⟩ := hrel
        clear HO3 HB4 HRA
        by_cases hlt : i < C
        · have hlen := HO.out.dict.len
          have hml : (hs.map (·.d)).length = i := by rw [List.length_map]; exact hlen
          have HRD := Lib.hid (read_any wr p b (p + 1) i c A As Ad ks kd sizes deep u HO.out.rd (by omega) (by omega) HI.out.szb HI.out.dpb)
          obtain ⟨⟨e5, d5, s5, h5, u5⟩, hr5⟩ : ∃ r, rdNode i sizes deep u = r := ⟨_, rfl⟩
          have HR5 : Hid (rdNode (hs.map (·.d)).length sizes deep u = (e5, d5, s5, h5, u5)) := by rw [hml]; exact hr5
          rw [hr5] at HRD
          have q0 : decide ((i : Int) < (C : Int)) = true := by simp; omega
          clear hr5 HC1
          go_wp2_with fail
          refine HRD.out.mono ?_
          rintro e w5 ⟨hg5, hcase⟩
          have HB5 := Lib.hid (bel_b HB.out hg5 hbb)
          rcases hcase with ⟨he5, A5, c5, rfl, hcu5, hrow5⟩ | ⟨he5, x5, y5, A5, m5, c5, rfl⟩
          · simp only at he5 hcu5 hrow5
            subst he5
            have hin := rdNode_in HI.out.szb HI.out.dpb HR5.out
            have HI6 := Lib.hid (HI.out.snoc HR5.out)
            have HQ6 : Hid (rdAll (C - (i + 1)) (hs.map (·.d) ++ [d5]) (sizes ++ [s5]) (deep ++ [h5]) u5 = RA) := by
              show _ = _
              rw [← HQ.out, show C - i = (C - (i + 1)) + 1 by omega, rdAll_go HR5.out]
            have hul : u5.length < u.length := hin.2.2.2.2.2.2.2.2
            obtain ⟨m5, hm5⟩ : ∃ m, d5.ways.length = m := ⟨_, rfl⟩
            have hm6 : m5 ≤ 256 := by have := hin.2.2.1; omega
            have HM5 := Lib.hid hm5
            have HO5 := Lib.hid (HO.out.read hg5 hcu5)
            have hpw : p + 1 ≤ wr.heap.size := (Array.getElem?_eq_some_iff.1 HO.out.dict.blk).1
            have hrow := own_less hrow5 hpw
            rw [hm5] at hrow ⊢
            have HRW := Lib.hid (own_kept hrow (bnew (brefl w5) (.cells #[.bool d5.fin, .int .i64 d5.out, .slice A5 m5 c5] 51)))
            have HO6 := Lib.hid (HO5.out.below (bnew (brefl w5) (.cells #[.bool d5.fin, .int .i64 d5.out, .slice A5 m5 c5] 51)))
            have HB6 := Lib.hid (bnew' HB5.out (.cells #[.bool d5.fin, .int .i64 d5.out, .slice A5 m5 c5] 51))
            have HN6 : Hid ((w5.alloc (.cells #[.bool d5.fin, .int .i64 d5.out, .slice A5 m5 c5] 51)).heap[w5.heap.size]? = some (.cells #[.bool d5.fin, .int .i64 d5.out, .slice A5 m5 c5] 51 (0, 0))) := heap_alloc_new w5 _
            clear hg5 hcu5 hrow5 HRD HO HI HB HQ HR5 hin hm5 hrow HO5 HB5 hml
            obtain ⟨fb, hfb⟩ : ∃ x, d5.fin = x := ⟨_, rfl⟩
            obtain ⟨ob, hob⟩ : ∃ x, d5.out = x := ⟨_, rfl⟩
            rw [hfb, hob] at HRW HO6 HB6 HN6 ⊢
            have HFO := Lib.hid (And.intro hfb hob)
            clear hfb hob
            go_wp2_with fail
            generalize w5.alloc (.cells #[.bool fb, .int .i64 ob, .slice A5 m5 c5] 51) = W6 at *
            generalize w5.heap.size = q6 at *
            have k0 := cell_of_row _ q6 0 _ _ (0, 0) HN6.out
            have k1 := cell_of_row _ q6 1 _ _ (0, 0) HN6.out
            have k2 := cell_of_row _ q6 2 _ _ (0, 0) HN6.out
            have r0 := cell_of_row _ p 0 _ _ (0, 0) HO6.out.dict.blk
            simp at k0 k1 k2 r0
            have HNE : Hid (some p ≠ (Value.slice A i c).ownBlock) := fun e => by
              have := (HO6.out.dict.nod.lt _ e.symm).1
              omega
            have hpW : p < W6.heap.size := (Array.getElem?_eq_some_iff.1 HO6.out.dict.blk).1
            have HK : Hid (W6.heap.size = W6.heap.size) := rfl
            go_region_law (
              refine step_pushg (base := p + 1) _ #[.bool fb, .int .i64 ob, .slice A5 m5 c5] ?gd (.tmp 61) (.tmp 63) 48 ?ho el_node (.slice A i c) i (hs.flatMap Nh.hdr) ?hs ?own (nb := W6.heap.size) (m := 1) ?hx ?hxc ?hl ?h1 ?hm ?h63 ?hby ?hba ?_
              case gd => rfl
              case ho => rfl
              case hs => rfl
              case own => exact own_kept HO6.out.dict.nod (by repeat (first | exact brefl _ | refine Below.drew ?_ | refine bnew ?_ _))
              case hx => rfl
              case hxc => first | exact heap_alloc_new _ _ | (simp; done)
              case hl => rfl
              case h1 => simp [Value.oneCell']
              case hm => omega
              case h63 => unfold maxLen; omega
              case hby => omega
              case hba => exact Nat.le_trans hpW (Below.size (B := W6.heap.size) (by repeat (first | exact brefl _ | refine Below.drew ?_ | refine bnew ?_ _)))
              intro g cap w7 hown7 hg7 hgm
              have HG7 := Lib.hid (grown_through (a := W6) (by repeat (first | exact brefl _ | refine Below.drew ?_ | refine bnew ?_ _)) hg7)
              have hb7 : w7.heap[p]? = some (.cells #[.slice A i c, .int .i64 v3, .int .i64 0] 78 (0, 0)) := (HG7.out.block p hpW HNE.out).trans HO6.out.dict.blk
              have f0 := cell_of_row w7 p 0 _ _ (0, 0) hb7
              have fz : w7.frozen? ⟨p, 0, none⟩ = false := by simp [World.frozen?, hb7]
              simp at f0
              clear hb7)
            all_goals
              have HO7 : Hid (OpAt (w7.setCell ⟨p, 0, none⟩ (.slice (some ⟨g, 0, none⟩) (i + 1) cap)) b p (p + 1) (some ⟨g, 0, none⟩) (i + 1) cap v3 (hs ++ [⟨d5, A5, c5⟩]) As i ks Ad i kd sizes deep u5) := by
                refine HO6.out.node (d := d5) (by rw [HM5.out]; exact HRW.out) HG7.out ?_
                rw [HFO.out.1, HFO.out.2, HM5.out]
                exact hown7
              have HB7 : Hid (Below w.heap.size w (w7.setCell ⟨p, 0, none⟩ (.slice (some ⟨g, 0, none⟩) (i + 1) cap))) :=
                (HB6.out.grown HG7.out HB6.out.size (fun k hk => by have := (HO6.out.dict.nod.lt k hk).1; have := HBP.out; omega)).setCell HBP.out _
              clear hown7 hg7 hgm HG7 f0 fz HNE HK k0 k1 k2 r0 HO6 HB6 HN6 HRW
              generalize w7.setCell ⟨p, 0, none⟩ (.slice (some ⟨g, 0, none⟩) (i + 1) cap) = W8 at *
              have hp8 : p + 1 ≤ W8.heap.size := (Array.getElem?_eq_some_iff.1 HO7.out.dict.blk).1
              go_wp2_with (first
                | (at_builtin; refine wpList_push W8 _ _ rfl _ _ _ rfl el_int _ _ _ rfl HO7.out.sz rfl (by simp) rfl (by simp [Value.oneCell']) (by unfold maxLen; omega) (by omega) (by omega) (Below.refl _ _) ?_; intro v9 w9 hown9 hb9 hg9 hm9; obtain ⟨A9, c9, rfl, hc9⟩ := own_shape hown9; have HO9 := Lib.hid (HO7.out.pushS (x := s5) hg9 hown9 hm9); have HB9 := Lib.hid (HB7.out.grown hg9 HB7.out.size (fun k hk => by have := (HO7.out.sz.lt k hk).1; have := HBP.out; omega)); have hp9 : p + 1 ≤ w9.heap.size := (Array.getElem?_eq_some_iff.1 HO9.out.dict.blk).1)
                | (at_builtin; refine wpList_push w9 _ _ rfl _ _ _ rfl el_int _ _ _ rfl HO9.out.dp rfl (by simp) rfl (by simp [Value.oneCell']) (by unfold maxLen; omega) (by omega) (by omega) (Below.refl _ _) ?_; intro v10 w10 hown10 hb10 hg10 hm10; obtain ⟨A10, c10, rfl, _⟩ := own_shape hown10; have HO10 := Lib.hid (HO9.out.pushD (x := h5) hg10 hown10 hm10); have HB10 := Lib.hid (HB9.out.grown hg10 HB9.out.size (fun k hk => by have := (HO9.out.dp.lt k hk).1; have := HBP.out; omega))))
              go_roundw
              case rel => exact ⟨i + 1, _, cap, hs ++ [⟨d5, A5, c5⟩], A9, c9, A10, c10, sizes ++ [s5], deep ++ [h5], u5, by omega, by go_num, rfl, rfl, by omega, hc9, HO10, by rw [List.map_append]; exact HI6, HB10, by rw [List.map_append]; exact HQ6⟩
              case measure => simp [intOf]; omega
          · have hR2 : Hid (R = (e5, [], 0, 0)) := by
              show _ = _
              rw [← HR3.out, ← HQ.out, show C - i = (C - i - 1) + 1 by omega, rdAll_err (by rw [HR5.out]; exact he5), HR5.out, openG_1 he5]
            have q5 : (e5 != 0) = true := by simpa using he5
            have HB6 := Lib.hid (bnew' HB5.out (.cells #[.bool x5, .int .i64 y5, .slice A5 m5 c5] 51))
            clear hg5 HRD HO HI HB HQ HR5 HR3
            go_wp2_with fail
            go_ret2
            refine ⟨HB6.out, .inr ⟨by rw [hR2.out]; exact he5, by rw [hR2.out]; rfl⟩⟩
        · obtain rfl : i = C := by omega
          rw [Nat.sub_self] at HQ
          have hq0 : rdAll 0 (hs.map (·.d)) sizes deep u = (0, hs.map (·.d), sizes, u) := rfl
          rw [hq0] at HQ
          rw [← HQ.out] at HR3
          have hlen := HO.out.dict.len
          have HREST := Lib.hid (rest_any wr b u HO.out.cur)
          clear hq0 HQ HC1
          by_cases hu : u = []
          · subst hu
            have hfine : Fine (hs.map (·.d)) := HI.out.fine
            have hszl := HI.out.lenS
            rw [List.length_map, hlen] at hszl
            have hcmx : i ≤ 1099511627776 := by omega
            obtain ⟨cnt, hcnt⟩ : ∃ z, (if 0 < (i : Int) then sizes.getD ((i : Int).toNat - 1) 0 else 0) = z := ⟨_, rfl⟩
            have HR4 : Hid (¬ (rightE (allE (hs.map (·.d)) v3) ≠ 0 ∨ buildS (allE (hs.map (·.d)) v3) ≠ ⟨t.toArray⟩) → R = (0, hs.map (·.d), v3, cnt)) := fun hh => by
              rw [← HR3.out, openG_4 hh, hcnt]
            have HR5 : Hid ((rightE (allE (hs.map (·.d)) v3) ≠ 0 ∨ buildS (allE (hs.map (·.d)) v3) ≠ ⟨t.toArray⟩) → R = (3, [], 0, 0)) := fun hh => by
              rw [← HR3.out, openG_3 hh]
            have HLEN : Hid ((allE (hs.map (·.d)) v3).length ≤ 65536) := by
              show _ ≤ _
              unfold allE
              by_cases hd : hs.map (·.d) = []
              · rw [if_pos hd]; simp
              · rw [if_neg hd]
                have h1 := allE_len HI.out v3 hd
                have h2 := (getD_in HI.out.szb ⟨by omega, by omega⟩ ((hs.map (·.d)).length - 1)).2
                omega
            have HFIT : Hid (∀ e ∈ allE (hs.map (·.d)) v3, fits64 e.2) := fun e he => by
              unfold allE at he
              split at he
              · cases he
              · exact gath_fits _ _ _ _ e he
            have HALL := Lib.hid (fun (W : World) (hd : DictAt W p (p + 1) A i c v3 cnt hs) => all_any W p (p + 1) i c A v3 cnt hs hd hfine (Nat.le_trans HLEN.out (by omega)) (by omega))
            have HB0 := HB.out
            by_cases hC0 : 0 < i
            have q2 : decide ((i : Int) > 0) = true := by simp; omega
            have q2' : decide (0 < i) = true := by simpa using hC0
            have hc2 : sizes.getD (i - 1) 0 = cnt := by
              rw [← hcnt, if_pos (by omega), Int.toNat_natCast]
            obtain ⟨gs, hAs, _, hgl⟩ := own_head HO.out.sz hC0
            subst hAs
            have hk : sizes[i - 1]? = some cnt := by
              rw [← hc2, List.getD_eq_getElem?_getD, List.getElem?_eq_getElem (by omega)]
              rfl
            have hcell := HO.out.sz.cells (g := gs) rfl (i - 1) (.int .i64 cnt) (by rw [List.getElem?_map, hk]; rfl)
            rw [Addr.add_lit, Nat.zero_add] at hcell
            obtain ⟨j, hj⟩ : ∃ j, i - 1 = j := ⟨_, rfl⟩
            rw [hj] at hcell
            have hw1 : IntKind.i64.wrap ((i : Int) - 1) = (j : Int) := by rw [show (i : Int) - 1 = (j : Int) by omega]; exact IntWalk.i64_in _ (by omega)
            have hji : j < i := by omega
            have hji2 : (j : Int) < (i : Int) := by omega
            have c2 := cell_of_row wr p 2 _ _ (0, 0) HO.out.dict.blk
            simp at c2
            have f2 := HO.out.free 2
            have HDC := Lib.hid (HO.out.dict.setCnt HO.out.lp cnt)
            have HBC : Hid (Below w.heap.size w (wr.setCell ⟨p, 2, none⟩ (.int .i64 cnt))) := HB0.setCell (by show w.heap.size ≤ p; exact HBP.out) _
            clear hcnt HI HR3 hfine hk hc2 hj hszl hlen HB0
            go_wp2_with fail
            refine HREST.out.mono ?_
            rintro e w5 ⟨rfl, rfl⟩
            go_wp2_with fail
            generalize w5.setCell ⟨p, 2, none⟩ (.int .i64 cnt) = W9 at *
            clear hcell hw1 c2 f2 hji hji2 q2 q2' hgl HREST HB HO
            rotate_left
            have hi0 : i = 0 := by omega
            subst hi0
            have hc0 : cnt = 0 := by rw [← hcnt]; simp
            subst hc0
            have HDC := Lib.hid HO.out.dict
            have HBC := HB
            clear hcnt HI HR3 hfine hszl hlen HB0 hC0
            go_wp2_with fail
            refine HREST.out.mono ?_
            rintro e w5 ⟨rfl, rfl⟩
            go_wp2_with fail
            clear HREST HB HO
            obtain ⟨W9, hW9⟩ : ∃ W, w5 = W := ⟨_, rfl⟩
            subst hW9
            rotate_left
            all_goals
              generalize allE (hs.map (·.d)) v3 = L at *
              refine (HALL.out _ HDC.out).mono ?_
              rintro e w6 ⟨v6, rfl, hrow6, hb6⟩
              obtain ⟨A6, c6, rfl, hc6⟩ := own_shape hrow6
              have HB6 := Lib.hid (HBC.out.trans (hb6.mono HBC.out.size))
              have HD6 := Lib.hid (HDC.out.keep hb6)
              have HBU := Lib.hid (build_any w6 w6.heap.size (Nat.le_refl _) A6 L.length c6 L ⟨Sl.of_own hrow6, hc6, by have := HLEN.out; omega⟩ HFIT.out (HT.out.keep HT.out.lt HB6.out))
              clear hrow6 hb6 HALL HDC HBC hc6
              go_wp2_with fail
              refine HBU.out.mono ?_
              rintro e w7 ⟨rfl, hb7⟩
              have HB7 := Lib.hid (HB6.out.trans (hb7.mono HB6.out.size))
              have HD7 := Lib.hid (HD6.out.keep hb7)
              clear hb7 HBU HB6 HD6
              obtain ⟨RE, hRE⟩ : ∃ z, rightE L = z := ⟨_, rfl⟩
              obtain ⟨BS, hBS⟩ : ∃ z, buildS L = z := ⟨_, rfl⟩
              rw [hRE, hBS] at HR4 HR5 ⊢
              clear hRE hBS
              by_cases h1 : RE = 0
              · subst h1
                by_cases h2 : BS = ⟨t.toArray⟩
                · have hR2 := Lib.hid (HR4.out (by simp [h2]))
                  have q8 : (BS.toList == t) = true := by rw [← (show (⟨t.toArray⟩ : ByteArray).toList = t by rw [ByteArray.toList_eq]), str_same]; simpa using h2
                  clear HR4 HR5 h2
                  go_wp2_with fail
                  go_ret2
                  refine ⟨HB7.out, .inl ⟨by rw [hR2.out], p, p + 1, _, c, A, hs, rfl, by rw [hR2.out]; exact HD7.out, by rw [hR2.out], HBP.out, Nat.lt_succ_self _⟩⟩
                · have hR2 := Lib.hid (HR5.out (.inr h2))
                  have q8 : (BS.toList == t) = false := by rw [← (show (⟨t.toArray⟩ : ByteArray).toList = t by rw [ByteArray.toList_eq]), str_same]; simpa using h2
                  clear HR4 HR5 h2
                  go_wp2_with fail
                  go_ret2
                  refine ⟨HB7.out, .inr ⟨by rw [hR2.out]; simp, by rw [hR2.out]; rfl⟩⟩
              · have q9 : (RE != 0) = true := by simpa using h1
                have hR2 := Lib.hid (HR5.out (.inl h1))
                clear HR4 HR5
                go_wp2_with fail
                go_ret2
                refine ⟨HB7.out, .inr ⟨by rw [hR2.out]; simp, by rw [hR2.out]; rfl⟩⟩
          · have hR2 : Hid (R = (5, [], 0, 0)) := by show _ = _; rw [← HR3.out, openG_2 hu]
            have q5 : u.isEmpty = false := by
              cases u with
              | nil => exact absurd rfl hu
              | cons _ _ => rfl
            clear HI HR3
            go_wp2_with fail
            refine HREST.out.mono ?_
            rintro e w5 ⟨rfl, rfl⟩
            go_wp2_with fail
            go_ret2
            refine ⟨HB.out, .inr ⟨by rw [hR2.out]; simp, by rw [hR2.out]; rfl⟩⟩
    · have q1 : (e3 != 0) = true := by simpa using hb3
      have hR2 : Hid (R = (e3, [], 0, 0)) := by show _ = _; rw [← HR.out, openF_2 HF2.out HF3.out hb3]
      clear he3 hl3 HC1
      go_wp2_with fail
      go_ret2
      refine ⟨HB3.out, .inr ⟨by rw [hR2.out]; exact hb3, by rw [hR2.out]; rfl⟩⟩
  · have q1 : (e2 != 0) = true := by simpa using hb2
    have hR2 : Hid (R = (e2, [], 0, 0)) := by show _ = _; rw [← HR.out, openF_1 HF2.out hb2]
    clear he2 hl2 HC1
    go_wp2_with fail
    go_ret2
    refine ⟨HB2.out, .inr ⟨by rw [hR2.out]; exact hb2, by rw [hR2.out]; rfl⟩⟩
end Go.Proofs.YtheickndnniomaaDoor
