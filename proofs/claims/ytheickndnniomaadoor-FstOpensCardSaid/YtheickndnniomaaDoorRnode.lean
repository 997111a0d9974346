/- The reference's node. -/
import Derived.Test.YtheickndnniomaaDoorRhead
import Derived.Deep.RegionHeld3
namespace Go.Proofs.YtheickndnniomaaDoor
open Go.RowKit Go.Maps

/-- Num within a region that draws its order. -/
theorem step_num {ops : Array Oper} {o : Oper} {a : Act} {K : Act → World → Prop} {Q : Exit → Act → World → Prop} {E : Prop} (wx : World) (hgd : o.guard = none) (t : Nat) (T : TypeId)
    (ho : o.op = .call { callee := .value (.func 32), args := #[.tmp t], argTypes := #[T] }) (v S : Value) (hx : a.eval (.tmp t) = v) (hc : Calls Tryd.prog 32 #[v] wx fun e w' => e = .returned S ∧ Below wx.heap.size wx w')
    (h : ∀ w', Below wx.heap.size wx w' → K (a.put o.dst S) w') :
    if Region.wanted o (yielded ops a.tmps) = true then Oper.wp Tryd.prog o a wx K Q else E := by
  have hw : Region.wanted o (yielded ops a.tmps) = true := by simp [Region.wanted, hgd]
  rw [if_pos hw]
  unfold Oper.wp
  have he : (execOp a.eval o).run Tryd.prog wx = .ok (.enter 32 #[v]) wx := by
    simp [execOp, ho, go_sem]
    simpa [go_sem] using hx
  rw [he, Oper.upon_enter]
  refine hc.mono ?_
  rintro e w' ⟨rfl, hb⟩
  exact h w' hb
set_option maxRecDepth 100000 in
set_option maxHeartbeats 40000000 in
theorem rnode_step (p base : Nat) (f at_ : Nat) (hf : 65 ≤ at_ + (f + 1))
    (ih : ∀ (W : World) (ds : List Nd) (Al At : Option Addr) (n1 cl k1 ct : Nat) (H : List Lh) (l : List Ent) (A : Option Addr) (n c : Nat) (told : Int), Hid (MkB W p base Al n1 cl At k1 ct H (ds.map writeZ) ∧ H.map (·.l) = lefts ds) → Inv ds → W.ownsRow base 26 2 (.slice A n c) n (entsC (subE (at_ + 1) told l)) → Okl (at_ + 1) told l → l.length ≤ 65536 → leastO l = told → ds.length + 1 + cost (at_ + 1) l ≤ CAP →
      Calls Tryd.prog 31 #[.pointer (some ⟨p, 0, none⟩), .slice A n c] W (RPost W p base (nodeF f ds l (at_ + 1) told)))
    (W : World) (ds : List Nd) (Al At : Option Addr) (n1 cl k1 ct : Nat) (H : List Lh) (l : List Ent) (A : Option Addr) (n c : Nat) (told : Int) (hM : Hid (MkB W p base Al n1 cl At k1 ct H (ds.map writeZ) ∧ H.map (·.l) = lefts ds)) (hi : Inv ds) (hrow : W.ownsRow base 26 2 (.slice A n c) n (entsC (subE at_ told l))) (ho : Okl at_ told l) (hl : l.length ≤ 65536) (hm : leastO l = told) (hcap : ds.length + 1 + cost at_ l ≤ CAP) :
    Calls Tryd.prog 31 #[.pointer (some ⟨p, 0, none⟩), .slice A n c] W (RPost W p base (nodeF (f + 1) ds l at_ told)) := by
  obtain ⟨Q, hQ⟩ : ∃ Q, nodeF (f + 1) ds l at_ told = Q := ⟨_, rfl⟩
  rw [hQ]
  have HQ := Lib.hid hQ
  have HI := Lib.hid hi
  have HO := Lib.hid ho
  have HR := Lib.hid hrow
  have IH := Lib.hid ih
  obtain ⟨A', c', hv, hnc⟩ := own_shape hrow
  injection hv with hv1 _ hv3
  subst hv1 hv3
  have hSl : (subE at_ told l).length = n := by
    have := hrow.1
    rw [entsC_len] at this
    omega
  have hnl : l.length = n := by rw [← hSl]; unfold subE; rw [List.length_map]
  have hn0 : 0 < n := by rw [← hnl]; exact List.length_pos_iff.2 ho.ne
  have hn1 : n1 = ds.length := by
    have h1 := congrArg List.length hM.out.2
    rw [List.length_map, lefts_len, hM.out.1.hn] at h1
    exact h1
  have hn1c : n1 ≤ 4294967296 := by unfold CAP at hcap; omega
  have HF := Lib.hid hf
  have HL := Lib.hid hl
  have HMI := Lib.hid hm
  have HCAP := Lib.hid hcap
  have HDL := Lib.hid hn1
  have HNL := Lib.hid hnl
  obtain ⟨S, hS⟩ : ∃ S, subE at_ told l = S := ⟨_, rfl⟩
  rw [hS] at HR hSl
  have HS := Lib.hid hS
  have HSL := Lib.hid hSl
  have hlt := hM.out.1.lt
  have hn65 : n ≤ 65536 := by omega
  clear hQ hi ho hrow ih hf hl hm hcap hn1 hnl hS hSl
  go_enter Tryd.func31, Tryd.ntmps31
  go_wp2_with fail
  go_loopw [5] (fun iv wr => ∃ k : Nat, k ≤ n1 ∧ iv = .int .i64 k ∧ Hid (∀ i, i < k → left ds i ≠ S) ∧ Hid (Below W.heap.size W wr)) (fun iv _ => n1 - (intOf iv).toNat)
  case atStart => exact ⟨0, Nat.zero_le _, rfl, fun i h => absurd h (by omega), Lib.hid (brefl W)⟩
  case round =>
    obtain ⟨k, hk, rfl, HNO, HB⟩ := hrel
    have HMW := Lib.hid (hM.out.1.below HB.out)
    obtain ⟨c0, _⟩ := HMW.out.cells
    by_cases hkn : k < n1
    · obtain ⟨g, rfl, _, hgl⟩ := own_head HMW.out.row (by omega)
      obtain ⟨x, hx⟩ : ∃ x, H[k]? = some x := ⟨H[k]'(by rw [HMW.out.hn]; exact hkn), List.getElem?_eq_getElem _⟩
      have hcell := HMW.out.row.cells (g := g) rfl k (.slice x.A x.l.length x.c) (by
        have := flat_at Lh.hdr 1 (fun _ => rfl) H k 0 x hx (by omega)
        rw [Nat.mul_one, Nat.add_zero] at this
        rw [this]
        rfl)
      rw [Addr.add_lit, Nat.zero_add] at hcell
      have hent := HMW.out.ent x (List.mem_of_getElem? hx)
      have hxl : left ds k = x.l := by
        have h1 : (H.map (·.l))[k]? = some x.l := by rw [List.getElem?_map, hx]; rfl
        rw [hM.out.2, lefts_get (by rw [← HDL.out]; exact hkn)] at h1
        injection h1
      have hx65 : x.l.length ≤ 65536 := by
        rw [← hxl]
        obtain ⟨d, hd⟩ : ∃ d, ds[k]? = some d := ⟨ds[k]'(by rw [← HDL.out]; exact hkn), List.getElem?_eq_getElem _⟩
        rw [left_eq HI.out.fine hd]
        exact (HI.out.can k d hd).len
      obtain ⟨xA, xc, hxv, hxc⟩ := own_shape hent
      injection hxv with hxv1 _ hxv3
      have HSA := Lib.hid (same_any wr wr.heap.size (Nat.le_refl _) x.A A x.l.length x.c n c x.l S ⟨Sl.of_own hent, by omega, by omega⟩ ⟨Sl.of_own (own_kept HR.out HB.out), hnc, by omega⟩)
      have HXL := Lib.hid hxl
      clear hx hent hxl hxv1 hxv3 hxc
      go_wp2_with fail
      refine HSA.out.mono ?_
      rintro e w1 ⟨rfl, hb1⟩
      by_cases heq : x.l = S
      · rw [decide_eq_true heq]
        go_wp2_with fail
        go_ret
        have hkeep := nodeF_keep (f + 1) ds l at_ told k HF.out HI.out HO.out HMI.out HL.out (by rw [← HDL.out]; exact hkn) (by rw [HXL.out, heq, HS.out])
        rw [HQ.out] at hkeep
        have hbw : Below W.heap.size W w1 := bcall HB.out hb1
        refine ⟨by rw [hkeep]; rfl, ⟨Keeps.below hbw, hbw.mono (Nat.le_of_lt hlt)⟩, _, _, _, _, _, _, H, ⟨by rw [hkeep]; exact hM.out.1.below hbw, by rw [hkeep]; exact hM.out.2⟩⟩
      · rw [decide_eq_false heq]
        go_wp2_with fail
        go_roundw
        case rel => exact ⟨k + 1, by omega, by go_num, fun i hi => by
          rcases Nat.lt_or_ge i k with h | h
          · exact HNO.out i h
          · obtain rfl : i = k := by omega
            rw [HXL.out]; exact heq, Lib.hid (bcall HB.out hb1)⟩
        case measure => simp [intOf]; omega
    · obtain rfl : k = n1 := by omega
      have HNO2 : Hid (∀ i, i < ds.length → left ds i ≠ subE at_ told l) := fun i hi => by rw [HS.out]; exact HNO.out i (by rw [HDL.out]; exact hi)
      have HRW := Lib.hid (own_kept HR.out HB.out)
      obtain ⟨ga, rfl, hbga, hga⟩ := own_head HRW.out hn0
      obtain ⟨e0, r0, hSe⟩ : ∃ e r, S = e :: r := by
        cases S with
        | nil => have := HSL.out; simp at this; omega
        | cons e r => exact ⟨e, r, rfl⟩
      have a0 := HRW.out.cells (g := ga) rfl 0 (.string ⟨e0.1.toArray⟩) (by rw [hSe]; rfl)
      have a1 := HRW.out.cells (g := ga) rfl 1 (.int .i64 e0.2) (by rw [hSe]; rfl)
      rw [Addr.add_lit, Nat.zero_add] at a0 a1
      obtain ⟨t0, o0⟩ := e0
      simp only at a0 a1
      have hsub := headL_sub HO.out
      rw [HS.out, hSe] at hsub
      have hl0 : headL ((t0, o0) :: r0) = t0.length := rfl
      have ho0 : headO ((t0, o0) :: r0) = o0 := rfl
      rw [hl0, ho0] at hsub
      have hpS : ∀ e ∈ S, pos63 e.2 := by
        rw [← HS.out]
        intro e he
        obtain ⟨y, hy, rfl⟩ := List.mem_map.1 he
        have h1 := HO.out.out y hy
        have h2 := HO.out.t0
        show 0 ≤ y.2 - told ∧ y.2 - told ≤ 9223372036854775807
        omega
      have hop : pos63 o0 := hpS (t0, o0) (by rw [hSe]; exact List.mem_cons_self ..)
      have HSUB := Lib.hid hsub
      have HPS := Lib.hid hpS
      have HNUM := Lib.hid (fun w => refnum_any o0 (by have := hop.1; omega) hop.2 w)
      rw [numA_numI hop] at HNUM
      obtain ⟨b0, hb0⟩ : ∃ b : List Int, (if isFin at_ l then numI o0 else []) = b := ⟨_, rfl⟩
      obtain ⟨h0, hh0⟩ : ∃ h : Int, (if isFin at_ l then 1 else 0) = h := ⟨_, rfl⟩
      have HB0 := Lib.hid (And.intro hb0 hh0)
      have hb9 : b0.length ≤ 9 := by
        rw [← hb0]
        split
        · exact (numI_len hop).2
        · exact Nat.zero_le _
      have hh01 : 0 ≤ h0 ∧ h0 ≤ 1 := by rw [← hh0]; split <;> omega
      obtain ⟨hh00, hh11⟩ := hh01
      have HHD : Hid (o0 = headO l - told) := HSUB.out.2
      clear hl0 ho0 hsub hpS hb0 hh0 hop hSe
      obtain ⟨⟨DS, WS⟩, hDW⟩ : ∃ q, waysL (fun ds g m => nodeF f ds g (at_ + 1) m) at_ told (restL at_ l).length ds [] (restL at_ l) = q := ⟨_, rfl⟩
      have HDW := Lib.hid hDW
      clear hDW
      by_cases ht0 : t0 = []
      subst ht0
      have HFIN : Hid (isFin at_ l = true) := by show _ = _; unfold isFin; exact decide_eq_true (HSUB.out.1.1 rfl)
      focus
        go_wp2_with fail
        refine (HNUM.out _).mono ?_
        rintro e w2 ⟨rfl, hb2⟩
        have HB2 := Lib.hid (bcall HB.out hb2)
        have HINI : Hid (h0 = 1 ∧ b0 = numI o0) := by
          have h1 := HB0.out
          rw [HFIN.out, if_pos rfl, if_pos rfl] at h1
          exact ⟨h1.2.symm, h1.1.symm⟩
        clear hb2 HNUM c0 a0 a1
        go_wp2_with fail
      rotate_left
      have HFIN : Hid (isFin at_ l = false) := by
        show _ = _
        unfold isFin
        exact decide_eq_false fun e => ht0 (List.eq_nil_of_length_eq_zero (HSUB.out.1.2 e))
      have q3 : t0.isEmpty = false := by
        cases t0 with
        | nil => exact absurd rfl ht0
        | cons _ _ => rfl
      focus
        go_wp2_with fail
        have HB2 := Lib.hid HB.out
        have HINI : Hid (h0 = 0 ∧ b0 = []) := by
          have h1 := HB0.out
          rw [HFIN.out, if_neg (by simp), if_neg (by simp)] at h1
          exact ⟨h1.2.symm, h1.1.symm⟩
        clear HNUM c0 a0 a1
      rotate_left
      all_goals
        have HM2 := Lib.hid (hM.out.1.below HB2.out)
        have HK2 : Hid (Keeps W _ ∧ Below p W _) := ⟨Keeps.below HB2.out, HB2.out.mono (Nat.le_of_lt hlt)⟩
        obtain ⟨hrs, hrl⟩ := restL_sub at_ l
        go_loopw [6, 7, 8] (fun hv bv cv wr => ∃ (cc : Nat) (ds1 : List Nd) (ws : List (Int × Int × Int)) (r : List Ent) (nn : Nat) (Al1 At1 : Option Addr) (n11 cl1 k11 ct1 : Nat) (H1 : List Lh), cc ≤ 256 ∧ cv = .int .i64 cc ∧ hv = .int .i64 (h0 + 2 * (ws.length : Int)) ∧ bv = .string (strOfNums (b0 ++ ws.flatMap wayZ)) ∧ ws.length ≤ cc ∧ Hid (∀ x ∈ ws, wayP x) ∧
          Hid (MkB wr p base Al1 n11 cl1 At1 k11 ct1 H1 (ds1.map writeZ) ∧ H1.map (·.l) = lefts ds1) ∧ Hid (Inv ds1) ∧ Hid (Keeps W wr ∧ Below p W wr) ∧ Hid (ds1.length + 1 + cost at_ r ≤ CAP) ∧
          Hid (Okr at_ told r ∧ r.length ≤ nn ∧ r.length ≤ 65536 ∧ (∀ c', cc ≤ c' → rawE c' S = rawE c' (subE at_ told r)) ∧ ∀ e ∈ r, (cc : Int) ≤ byteAt e.1 at_) ∧ Hid (waysL (fun ds g m => nodeF f ds g (at_ + 1) m) at_ told nn ds1 ws r = (DS, WS))) (fun _ _ cv _ => 256 - (intOf cv).toNat)
        case atStart =>
          refine ⟨0, ds, [], restL at_ l, (restL at_ l).length, _, _, _, _, _, _, H, by omega, rfl, by rw [HINI.out.1]; rfl, by rw [HINI.out.2]; first | rfl | simp, Nat.le_refl _, Lib.hid (by simp), ⟨HM2.out, hM.out.2⟩, HI, HK2, ?_, ?_, HDW⟩
          · have h1 := cost_rest at_ l
            have h2 := HCAP.out
            show _ ≤ _
            omega
          · refine ⟨HO.out.rest, Nat.le_refl _, Nat.le_trans hrl HL.out, fun c' _ => ?_, fun e _ => by have := (byteAt_255 e.1 at_).1; omega⟩
            rw [← HS.out]
            have hoo := HO.out
            cases l with
            | nil => exact absurd rfl hoo.ne
            | cons e r =>
              by_cases hh : e.1.length = at_
              · have h2 : restL at_ (e :: r) = r := if_pos hh
                rw [h2, subE_head hh]
                unfold rawE
                rw [List.filterMap_cons]
              · have h2 : restL at_ (e :: r) = e :: r := if_neg hh
                rw [h2]
        case round =>
          clear HM2 HK2 HINI
          obtain ⟨cc, ds1, ws, r, nn, Al1, At1, n11, cl1, k11, ct1, H1, hcc, rfl, rfl, rfl, hwl, HWP, HM1, HI1, HK1, HCP1, HRR, HWL⟩ := hrel
          have HR1 := Lib.hid (HK1.out.1.own HR.out)
          have hbody := ways_snoc_len HWP.out (by omega) hb9
          by_cases hlt2 : cc < 256
          · have hsel : selE S (cc : Int) = rawE cc S := by
              unfold selE
              rw [if_neg (by omega), Int.toNat_natCast]
            have HRS := Lib.hid (rests_any wr wr.heap.size (Nat.le_refl _) (some ⟨ga, 0, none⟩) n c S ⟨Sl.of_own HR1.out, hnc, by omega⟩ hn65 HPS.out (cc : Int))
            unfold rstL at HRS
            rw [hsel, HRR.out.2.2.2.1 cc (Nat.le_refl _)] at HRS
            rcases byte_round HRR.out.1 HRR.out.2.2.1 HRR.out.2.2.2.2 with ⟨hraw, hbs⟩ | ⟨e, r', hre, hbe, hraw, hbs, hcs⟩
            · rw [hraw] at HRS
              have HRR2 : Hid (Okr at_ told r ∧ r.length ≤ nn ∧ r.length ≤ 65536 ∧ (∀ c', cc + 1 ≤ c' → rawE c' S = rawE c' (subE at_ told r)) ∧ ∀ e ∈ r, ((cc + 1 : Nat) : Int) ≤ byteAt e.1 at_) := ⟨HRR.out.1, HRR.out.2.1, HRR.out.2.2.1, fun c' h => HRR.out.2.2.2.1 c' (by omega), hbs⟩
              clear hraw hbs hsel HRR
              go_wp2_with fail
              refine HRS.out.mono ?_
              rintro e w3 ⟨v3, rfl, hrow3, hb3⟩
              have HM3 : Hid (MkB w3 p base Al1 n11 cl1 At1 k11 ct1 H1 (ds1.map writeZ) ∧ H1.map (·.l) = lefts ds1) := ⟨HM1.out.1.below hb3, HM1.out.2⟩
              have HK3 : Hid (Keeps W w3 ∧ Below p W w3) := ⟨HK1.out.1.trans (Keeps.below hb3), HK1.out.2.trans (hb3.mono (Nat.le_of_lt HM1.out.1.lt))⟩
              obtain ⟨A3, c3, rfl, _⟩ := own_shape hrow3
              clear hrow3 hb3 HRS HM1 HK1 HR1
              have hl3 : (lessE (leastO ([] : List Ent)) []).length = 0 := rfl
              rw [hl3]
              clear hl3
              go_wp2_with fail
              go_roundw
              case rel => exact ⟨cc + 1, ds1, ws, r, nn, Al1, At1, n11, cl1, k11, ct1, H1, by omega, by go_num, rfl, rfl, by omega, HWP, HM3, HI1, HK3, HCP1, HRR2, HWL⟩
              case measure => simp [intOf]; omega
            · subst hre
              obtain ⟨nn, rfl⟩ : ∃ n', nn = n' + 1 := ⟨nn - 1, by have := HRR.out.2.1; simp only [List.length_cons] at this; omega⟩
              have hor := HRR.out.1
              have hgr := hor.group
              have ho2 := hor.drop (grpN at_ (e :: r'))
              have hgp := grpN_pos at_ e r'
              have hrl65 := HRR.out.2.2.1
              have hgl : ((e :: r').take (grpN at_ (e :: r'))).length ≤ 65536 := by rw [List.length_take]; omega
              have hgl1 : 1 ≤ ((e :: r').take (grpN at_ (e :: r'))).length := List.length_pos_iff.2 hgr.ne
              have hlen2 : ((e :: r').drop (grpN at_ (e :: r'))).length ≤ nn := by
                have := HRR.out.2.1
                rw [List.length_drop]
                simp only [List.length_cons] at this hgp ⊢
                omega
              have hl2 : ((e :: r').drop (grpN at_ (e :: r'))).length ≤ 65536 := by rw [List.length_drop]; omega
              have hcost := cost_succ (l := (e :: r').take (grpN at_ (e :: r'))) fun x hx => hor.long x (List.mem_of_mem_take hx)
              have hcap2 : cost at_ (e :: r') = cost at_ ((e :: r').take (grpN at_ (e :: r'))) + cost at_ ((e :: r').drop (grpN at_ (e :: r'))) := by rw [← cost_append, List.take_append_drop]
              have hgm : ∀ x ∈ (e :: r').take (grpN at_ (e :: r')), x ∈ e :: r' := fun x hx => List.mem_of_mem_take hx
              have houtr := hor.out
              have ht0r := hor.t0
              have HWN : Hid (waysL (fun ds g m => nodeF f ds g (at_ + 1) m) at_ told nn (nodeF f ds1 ((e :: r').take (grpN at_ (e :: r'))) (at_ + 1) (leastO ((e :: r').take (grpN at_ (e :: r'))))).2 (ws ++ [((cc : Int), leastO ((e :: r').take (grpN at_ (e :: r'))) - told, ((nodeF f ds1 ((e :: r').take (grpN at_ (e :: r'))) (at_ + 1) (leastO ((e :: r').take (grpN at_ (e :: r'))))).1 : Int))]) ((e :: r').drop (grpN at_ (e :: r'))) = (DS, WS)) := by
                have h1 := HWL.out
                rw [waysL_next, hbe] at h1
                exact h1
              have hcs2 : ∀ c', cc + 1 ≤ c' → rawE c' S = rawE c' (subE at_ told ((e :: r').drop (grpN at_ (e :: r')))) := fun c' hc' => (HRR.out.2.2.2.1 c' (by omega)).trans (hcs c' hc')
              rw [hraw, least_sub, if_neg hgr.ne, less_sub] at HRS
              generalize (e :: r').take (grpN at_ (e :: r')) = g at *
              generalize (e :: r').drop (grpN at_ (e :: r')) = r2 at *
              have HRR2 : Hid (Okr at_ told r2 ∧ r2.length ≤ nn ∧ r2.length ≤ 65536 ∧ (∀ c', cc + 1 ≤ c' → rawE c' S = rawE c' (subE at_ told r2)) ∧ ∀ e ∈ r2, ((cc + 1 : Nat) : Int) ≤ byteAt e.1 at_) := ⟨ho2, hlen2, hl2, hcs2, hbs⟩
              have hG := nodeF_left f ds1 g (at_ + 1) (leastO g) (by have := HF.out; omega) HI1.out hgr hgl rfl
              have hNL := nodeF_len f ds1 g (at_ + 1) (leastO g) hgr
              have hcapr := HCP1.out
              rw [hcap2] at hcapr
              have hcapg : ds1.length + 1 + cost (at_ + 1) g ≤ CAP := by omega
              have HIH := Lib.hid (fun W1 A1 c1 a1 a2 => IH.out W1 ds1 Al1 At1 n11 cl1 k11 ct1 H1 g A1 g.length c1 (leastO g) a1 HI1.out a2 hgr hgl rfl hcapg)
              have hmp : pos63 (leastO g - told) := by
                obtain ⟨y, hy, hym⟩ := least_mem hgr.ne
                have := houtr y (hgm y hy)
                exact ⟨by omega, by omega⟩
              obtain ⟨mv, hmv⟩ : ∃ z, leastO g - told = z := ⟨_, rfl⟩
              obtain ⟨mg, hmg⟩ : ∃ z, leastO g = z := ⟨_, rfl⟩
              obtain ⟨⟨qi, dsn⟩, hq⟩ : ∃ q, nodeF f ds1 g (at_ + 1) mg = q := ⟨_, rfl⟩
              rw [hmv] at HRS HWN hmp
              rw [hmg] at HRS HWN hG hNL HIH
              rw [hq] at HWN hG hNL HIH
              simp only at HWN hG hNL
              obtain ⟨gI, _, gq, _, _⟩ := hG
              have gq : qi < dsn.length := gq
              have HI2 := Lib.hid gI
              have hqp : pos63 (qi : Int) := by unfold CAP at hcapg; exact ⟨by omega, by omega⟩
              have HCP2 : Hid (dsn.length + 1 + cost at_ r2 ≤ CAP) := by show _ ≤ _; omega
              have HWP2 : Hid (∀ x ∈ ws ++ [((cc : Int), mv, (qi : Int))], wayP x) := by
                show ∀ x ∈ _, _
                intro x hx
                rcases List.mem_append.1 hx with hx | hx
                · exact HWP.out x hx
                · rw [List.mem_singleton.1 hx]
                  exact ⟨⟨by omega, by show (cc : Int) ≤ _; omega⟩, hmp, hqp⟩
              have hcp : pos63 (cc : Int) := ⟨by omega, by omega⟩
              have HN1 := Lib.hid (fun w => refnum_any (cc : Int) (by omega) hcp.2 w)
              have HN2 := Lib.hid (fun w => refnum_any mv (by have := hmp.1; omega) hmp.2 w)
              have HN3 := Lib.hid (fun w => refnum_any (qi : Int) (by omega) hqp.2 w)
              rw [numA_numI hcp] at HN1
              rw [numA_numI hmp] at HN2
              rw [numA_numI hqp] at HN3
              have l1 := (numI_len hcp).2
              have l2 := (numI_len hmp).2
              have l3 := (numI_len hqp).2
              have hBD : Hid (b0 ++ (ws ++ [((cc : Int), mv, (qi : Int))]).flatMap wayZ = ((b0 ++ ws.flatMap wayZ) ++ numI (cc : Int)) ++ numI mv ++ numI (qi : Int)) := by
                show _ = _
                rw [List.flatMap_append]
                simp [wayZ, numsI]
              generalize numI (cc : Int) = z1 at *
              generalize numI mv = z2 at *
              generalize numI (qi : Int) = z3 at *
              obtain ⟨bd, hbd⟩ : ∃ b, b0 ++ ws.flatMap wayZ = b := ⟨_, rfl⟩
              rw [hbd] at hbody hBD ⊢
              have hc1 := fun w => strcat bd z1 (by omega) w
              have hc2 := fun w => strcat (bd ++ z1) z2 (by rw [List.length_append]; omega) w
              have hc3 := fun w => strcat (bd ++ (z1 ++ z2)) z3 (by rw [List.length_append, List.length_append]; omega) w
              have q5 : ((g.length : Int) == 0) = false := by rw [beq_eq_false_iff_ne]; omega
              have hRl : (subE (at_ + 1) mg g).length = g.length := by unfold subE; rw [List.length_map]
              rw [hRl] at HRS
              have hbw : base ≤ wr.heap.size := by have h1 := HK1.out.2.size; have h2 := HR.out.lt ga rfl; omega
              have hws : ((ws ++ [((cc : Int), mv, (qi : Int))]).length : Int) = (ws.length : Int) + 1 := by rw [List.length_append]; simp
              clear hraw hbs hcs hcs2 hgr ho2 hgp hrl65 hlen2 hl2 hcost hcap2 hgm houtr ht0r hmv hmg hq hRl hcapr hcapg HRR hor gI gq hNL hmp hqp hcp hbe l1 l2 l3 hsel HWL hbd
              go_wp2_with fail
              refine HRS.out.mono ?_
              rintro e w3 ⟨v3, rfl, hrow3, hb3⟩
              have HM3 : Hid (MkB w3 p base Al1 n11 cl1 At1 k11 ct1 H1 (ds1.map writeZ) ∧ H1.map (·.l) = lefts ds1) := ⟨HM1.out.1.below hb3, HM1.out.2⟩
              have HK3 : Hid (Keeps W w3 ∧ Below p W w3) := ⟨HK1.out.1.trans (Keeps.below hb3), HK1.out.2.trans (hb3.mono (Nat.le_of_lt HM1.out.1.lt))⟩
              have HO3 := Lib.hid (own_lower hrow3 hbw)
              obtain ⟨A3, c3, rfl, hc3c⟩ := own_shape hrow3
              clear hrow3 hb3 HRS HM1 HK1 HR1
              go_wp2_with fail
              refine (HN1.out _).mono ?_
              rintro e w4 ⟨rfl, hb4⟩
              have HB4 := Lib.hid hb4
              clear hb4 HN1
              go_wp2_with fail
              refine (HN2.out _).mono ?_
              rintro e w5 ⟨rfl, hb5⟩
              have HB5 := Lib.hid (bcall HB4.out hb5)
              clear hb5 HN2 HB4
              have HM5 : Hid (MkB w5 p base Al1 n11 cl1 At1 k11 ct1 H1 (ds1.map writeZ) ∧ H1.map (·.l) = lefts ds1) := ⟨HM3.out.1.below HB5.out, HM3.out.2⟩
              have HK5 : Hid (Keeps W w5 ∧ Below p W w5) := ⟨HK3.out.1.trans (Keeps.below HB5.out), HK3.out.2.trans (HB5.out.mono (Nat.le_of_lt HM3.out.1.lt))⟩
              go_wp2_with fail
              refine (HIH.out w5 A3 c3 HM5 (own_kept HO3.out HB5.out)).mono ?_
              rintro e w6 ⟨rfl, hk6, Al6, At6, n16, cl6, k16, ct6, H6, hm6⟩
              have HK6 : Hid (Keeps W w6 ∧ Below p W w6) := ⟨HK5.out.1.trans hk6.out.1, HK5.out.2.trans hk6.out.2⟩
              have HM6 := hm6
              simp only at HM6
              clear hk6 hm6 HM5 HK5 HM3 HK3 HO3 HB5 HIH
              go_wp2_with fail
              refine (HN3.out _).mono ?_
              rintro e w7 ⟨rfl, hb7⟩
              have HM7 : Hid (MkB w7 p base Al6 n16 cl6 At6 k16 ct6 H6 (dsn.map writeZ) ∧ H6.map (·.l) = lefts dsn) := ⟨HM6.out.1.below hb7, HM6.out.2⟩
              have HK7 : Hid (Keeps W w7 ∧ Below p W w7) := ⟨HK6.out.1.trans (Keeps.below hb7), HK6.out.2.trans (hb7.mono (Nat.le_of_lt HM6.out.1.lt))⟩
              clear hb7 HN3 HM6 HK6
              go_wp2_with fail
              go_roundw
              case rel => exact ⟨cc + 1, dsn, ws ++ [((cc : Int), mv, (qi : Int))], r2, nn, Al6, At6, n16, cl6, k16, ct6, H6, by omega, by go_num, by rw [hws]; congr 1; omega, by rw [hBD.out]; simp only [List.append_assoc], by rw [List.length_append]; simp; omega, HWP2, HM7, HI2, HK7, HCP2, HRR2, HWN⟩
              case measure => simp [intOf]; omega
          · obtain rfl : cc = 256 := by omega
            have hr0 : r = [] := by
              cases r with
              | nil => rfl
              | cons e r =>
                have h1 := HRR.out.2.2.2.2 e (List.mem_cons_self ..)
                have h2 := (byteAt_255 e.1 at_).2
                omega
            subst hr0
            have hend : waysL (fun ds g m => nodeF f ds g (at_ + 1) m) at_ told nn ds1 ws [] = (ds1, ws) := by cases nn <;> rfl
            have hww := HWL.out
            rw [hend] at hww
            injection hww with hw1 hw2
            subst hw1 hw2
            obtain ⟨hq1, hq2, _⟩ := nodeF_fresh HF.out HI.out HO.out HL.out HMI.out HNO2.out HDW.out
            rw [HQ.out] at hq1
            rw [HS.out] at hq2
            obtain ⟨d, hd⟩ : ∃ d : Nd, (⟨isFin at_ l, if headL l = at_ then headO l - told else 0, ws⟩ : Nd) = d := ⟨_, rfl⟩
            rw [hd] at hq1 hq2
            have hwz : writeZ d = numI (h0 + 2 * (ws.length : Int)) ++ (b0 ++ ws.flatMap wayZ) := by
              rw [← hd, ← HB0.out.1, ← HB0.out.2]
              unfold writeZ headZ isFin
              simp only
              by_cases hh : headL l = at_
              · rw [decide_eq_true hh, if_pos rfl, if_pos rfl, if_pos hh, ← HHD.out, Int.add_comm]
                simp
              · rw [decide_eq_false hh, if_neg (by simp), if_neg (by simp), Int.add_comm]
                simp
            have hdl : n11 = ds1.length := by
              have h1 := congrArg List.length HM1.out.2
              rw [List.length_map, lefts_len, HM1.out.1.hn] at h1
              exact h1
            have hkl : k11 = ds1.length := by
              have h1 := HM1.out.1.tn
              rw [List.length_map] at h1
              exact h1.symm
            have hcap1 := HCP1.out
            unfold CAP at hcap1
            have hhp : pos63 (h0 + 2 * (ws.length : Int)) := ⟨by omega, by omega⟩
            have HNH := Lib.hid (fun w => refnum_any (h0 + 2 * (ws.length : Int)) (by omega) hhp.2 w)
            rw [numA_numI hhp] at HNH
            have lh := (numI_len hhp).2
            have HWZ := Lib.hid hwz
            have HQQ := Lib.hid (And.intro hq1 hq2)
            generalize numI (h0 + 2 * (ws.length : Int)) = zh at *
            obtain ⟨bd, hbd⟩ : ∃ b, b0 ++ ws.flatMap wayZ = b := ⟨_, rfl⟩
            rw [hbd] at hbody HWZ ⊢
            have hcat := fun w => strcat zh bd (by omega) w
            obtain ⟨c0, c1⟩ := HM1.out.1.cells
            have hbw : base ≤ wr.heap.size := by have h1 := HK1.out.2.size; have h2 := HR.out.lt ga rfl; omega
            have HDN := Lib.hid (And.intro hdl hkl)
            have hn11 : n11 ≤ 4294967296 := by omega
            have hk11 : k11 ≤ 4294967296 := by omega
            clear hend hd hq1 hq2 hwz hbd hhp lh HRR HWL hcap1 hdl hkl
            go_wp2_with (at_builtin; refine wpList_push wr _ _ rfl _ _ _ rfl el_ents _ _ _ rfl HM1.out.1.row rfl (by simp) rfl (by simp [Value.oneCell']) (by unfold maxLen; omega) (by omega) hbw (Below.refl _ _) ?_; intro v9 w9 hown9 hb9 hg9 _; obtain ⟨A9, c9, rfl, _⟩ := own_shape hown9; have HGL := Lib.hid (HM1.out.1.growL (x := ⟨S, some ⟨ga, 0, none⟩, c⟩) (by show World.ownsRow _ _ _ _ _ S.length _; rw [HSL.out]; exact HR1.out) hg9 (by unfold Lh.hdr; simp only; rw [HSL.out]; exact hown9)); have kz0 := cell_of_row _ _ 0 _ _ (0, 0) HGL.out.1; have kf0 := free_at HGL.out.1 0; simp at kz0; have HG9 := Lib.hid hg9; clear hown9 hb9 hg9)
            have HK9 : Hid (Keeps W (w9.setCell ⟨p, 0, none⟩ (.slice A9 (n11 + 1) c9)) ∧ Below p W (w9.setCell ⟨p, 0, none⟩ (.slice A9 (n11 + 1) c9))) := by
              refine ⟨HK1.out.1.trans ((Keeps.grown HM1.out.1.row (by decide) HG9.out).trans (Keeps.set HGL.out.1 (by decide))), ?_⟩
              refine below_set (HK1.out.2.grown HG9.out (by have := HK1.out.2.size; omega) (fun q hq => ?_)) (Nat.le_refl _) (Nat.le_of_lt hlt)
              have := (HM1.out.1.row.lt q hq).1
              have := HM1.out.1.lp
              omega
            have HM9 : Hid (MkB (w9.setCell ⟨p, 0, none⟩ (.slice A9 (n11 + 1) c9)) p base A9 (n11 + 1) c9 At1 k11 ct1 (H1 ++ [⟨S, some ⟨ga, 0, none⟩, c⟩]) (ds1.map writeZ)) := HGL.out.2
            clear HGL HG9 kz0 kf0 c0 c1
            generalize w9.setCell ⟨p, 0, none⟩ (.slice A9 (n11 + 1) c9) = W9 at *
            have hW9 : W.heap.size ≤ W9.heap.size := HK9.out.2.size
            have hb9w : base ≤ W9.heap.size := by have h2 := HR.out.lt ga rfl; omega
            have HFC : Hid (∀ w', Below W9.heap.size W9 w' → w'.cell? ⟨p, 1, none⟩ = some (.slice At1 k11 ct1)) := fun w' hb => (HM9.out.below hb).cells.2
            have K3 := Lib.hid (HFC.out W9 (brefl W9))
            obtain ⟨kc0, kc1⟩ := HM9.out.cells
            have HLTW : Hid (p < W9.heap.size) := HM9.out.lt
            clear kc0
            go_region_law (
              first
                | (refine step_pushg (base := base) _ #[.string (strOfNums (zh ++ bd))] rfl (.tmp 81) (.tmp 86) 40 rfl el_str (.slice At1 k11 ct1) k11 ((ds1.map writeZ).map fun z => .string (strOfNums z)) ?hs ?own (nb := wC.heap.size) (m := 1) ?hx ?hxc ?hl ?h1 ?hm ?h63 ?hby ?hba ?_
                   case hs => rfl
                   case own => exact own_kept HM9.out.txt (by repeat (first | exact HBC.out | refine Below.drew ?_ | refine bnew ?_ _))
                   case hx => rfl
                   case hxc => first | exact heap_alloc_new _ _ | (simp; done)
                   case hl => rfl
                   case h1 => simp [Value.oneCell']
                   case hm => omega
                   case h63 => unfold maxLen; omega
                   case hby => omega
                   case hba => exact Nat.le_trans hb9w (Below.size (B := W9.heap.size) (by repeat (first | exact HBC.out | refine Below.drew ?_ | refine bnew ?_ _)))
                   intro g cap w7 hown7 hg7 hgm
                   have HG7 := Lib.hid (grown_through (a := W9) (by repeat (first | exact HBC.out | refine Below.drew ?_ | refine bnew ?_ _)) hg7)
                   have HGT := Lib.hid (HM9.out.growT (z := zh ++ bd) HG7.out hown7)
                   have kz1 := cell_of_row _ _ 1 _ _ (0, 0) HGT.out.1
                   have kf1 := free_at HGT.out.1 1
                   simp at kz1
                   have HKC : Hid (w7.cell? ⟨p, 1, none⟩ = some (.slice At1 k11 ct1)) := kz1
                   clear hown7 hg7 hgm)
                | (refine step_num _ rfl 82 _ rfl (.int .i64 (h0 + 2 * (ws.length : Int))) (.string (strOfNums zh)) rfl (HNH.out _) ?_
                   intro wC hbC
                   have HBC : Hid (Below W9.heap.size W9 wC) := bcall (by repeat (first | exact brefl _ | refine Below.drew ?_ | refine bnew ?_ _)) hbC
                   have kcc := HFC.out wC HBC.out
                   have hpC : p < wC.heap.size := Nat.lt_of_lt_of_le HLTW.out HBC.out.size
                   clear hbC))
            all_goals
              have HM10 := Lib.hid HGT.out.2
              have HK10 : Hid (Keeps W (w7.setCell ⟨p, 1, none⟩ (.slice (some ⟨g, 0, none⟩) (k11 + 1) cap)) ∧ Below p W (w7.setCell ⟨p, 1, none⟩ (.slice (some ⟨g, 0, none⟩) (k11 + 1) cap))) := by
                refine ⟨HK9.out.1.trans ((Keeps.grown HM9.out.txt (by decide) HG7.out).trans (Keeps.set HGT.out.1 (by decide))), ?_⟩
                refine below_set (HK9.out.2.grown HG7.out (by have := HK9.out.2.size; omega) (fun q hq => ?_)) (Nat.le_refl _) (Nat.le_of_lt hlt)
                have := (HM9.out.txt.lt q hq).1
                have := HM9.out.lp
                omega
              clear HGT HG7 kf1 kz1 HKC kcc hpC HBC kc1 K3 HFC
              generalize w7.setCell ⟨p, 1, none⟩ (.slice (some ⟨g, 0, none⟩) (k11 + 1) cap) = W10 at *
              obtain ⟨kd0, kd1⟩ := HM10.out.cells
              go_wp2_with fail
              go_ret
              refine ⟨?_, HK10.out, A9, some ⟨g, 0, none⟩, n11 + 1, c9, k11 + 1, cap, (H1 ++ [⟨S, some ⟨ga, 0, none⟩, c⟩]), ?_⟩
              · rw [HQQ.out.1, ← HDN.out.1]
                congr 2 <;> omega
              · rw [HQQ.out.1]
                refine ⟨?_, ?_⟩
                · have e : (ds1 ++ [d]).map writeZ = ds1.map writeZ ++ [zh ++ bd] := by rw [List.map_append, ← HWZ.out]; rfl
                  show MkB _ _ _ _ _ _ _ _ _ _ ((ds1 ++ [d]).map writeZ)
                  rw [e]
                  exact HM10.out
                · show _ = lefts (ds1 ++ [d])
                  rw [List.map_append, HM1.out.2, HQQ.out.2]
                  rfl
/-- The reference's node at every list of terms. -/
theorem rnode_any (p base : Nat) : ∀ (f at_ : Nat), 65 ≤ at_ + f → ∀ (W : World) (ds : List Nd) (Al At : Option Addr) (n1 cl k1 ct : Nat) (H : List Lh) (l : List Ent) (A : Option Addr) (n c : Nat) (told : Int), Hid (MkB W p base Al n1 cl At k1 ct H (ds.map writeZ) ∧ H.map (·.l) = lefts ds) → Inv ds → W.ownsRow base 26 2 (.slice A n c) n (entsC (subE at_ told l)) → Okl at_ told l → l.length ≤ 65536 → leastO l = told → ds.length + 1 + cost at_ l ≤ CAP →
      Calls Tryd.prog 31 #[.pointer (some ⟨p, 0, none⟩), .slice A n c] W (RPost W p base (nodeF f ds l at_ told))
  | 0, at_, hf => fun _ _ _ _ _ _ _ _ _ _ _ _ _ _ _ _ _ ho _ _ _ => by
    have := ho.at64
    omega
  | f + 1, at_, hf => rnode_step p base f at_ hf (rnode_any p base f (at_ + 1) (by omega))
end Go.Proofs.YtheickndnniomaaDoor
