/- The walk of FstLeast. -/
import Derived.Test.YtheickndnniomaaDoorSteps
import Derived.Test.YtheickndnniomaaDoorGetsw
import Derived.Deep.RegionHeld3
namespace Go.Proofs.YtheickndnniomaaDoor
open Go.RowKit Go.Maps

theorem el_node2 : Elem Tryd.prog 48 51 3 40 := Elem.mk_ Tryd.underlying48 (z := .agg #[.bool false, .int .i64 0, .slice none 0 0]) (by kernel_rfl) rfl (by omega)
set_option maxRecDepth 100000 in
set_option maxHeartbeats 40000000 in
theorem least_walk (w : World) (A : Option Addr) (n c : Nat) (l : List Ent) (h : EntsIn w A n c l) (ht : Tab w) :
    Calls Tryd.prog 6 #[.slice A n c] w fun e w' => e = .returned (.bool true) ∧ Below w.heap.size w w' := by
  have HT := Lib.hid ht
  have HE := Lib.hid h
  have hlen := h.ents.len
  have hcm := h.ents.cm
  have hnc := h.ents.nc
  clear h ht
  go_enter Tryd.func6, Tryd.ntmps6
  go_wp2_with fail
  refine (awake_any _ HT.out).mono ?_
  rintro e w1 ⟨rfl, hb1⟩
  have HB1 := Lib.hid hb1
  clear hb1
  go_wp2_with fail
  refine (light_any _ w.heap.size HB1.out.size A n c l (HE.out.keep HB1.out) HE.out.lens).mono ?_
  rintro e w2 ⟨rfl, hb2⟩
  have HB2 := Lib.hid (bcall HB1.out hb2)
  clear hb2 HB1
  by_cases hli : lightB l = true
  · have hn120 : n ≤ 120 := by
      unfold lightB at hli
      simp only [Bool.and_eq_true, decide_eq_true_eq] at hli
      omega
    rw [hli]
    clear hli
    go_wp2_with fail
    refine (rright_any _ w.heap.size HB2.out.size A n c l (HE.out.keep HB2.out)).mono ?_
    rintro e w3 ⟨rfl, hb3⟩
    have HB3 := Lib.hid (bcall HB2.out hb3)
    clear hb3 HB2
    by_cases hr : rightE l = 0
    · rw [hr]
      have hB := built_of hr HE.out.fits
      have HLZ := buildZ_len hB
      have HBU := Lib.hid (build_any w3 w.heap.size HB3.out.size A n c l (HE.out.keep HB3.out) HE.out.fits (HT.out.below HB3.out))
      have hS : buildS l = ⟨(by8 (buildZ l)).toArray⟩ := by unfold buildS; rw [if_pos hr]; rfl
      have hlz : (by8 (buildZ l)).length ≤ 1099511627776 := by rw [by8_length]; exact HLZ
      have HOP := Lib.hid (fun (W : World) (ht : Tab W) => open_any W (by8 (buildZ l)) hlz ht)
      rw [hr, hS] at HBU
      rw [open_build hr HE.out.fits] at HOP
      have hdl := hB.len
      have HBT := Lib.hid hB
      clear hB HLZ hS hlz hr
      generalize by8 (buildZ l) = t at *
      generalize buildDs l = ds at *
      generalize baseOf l = base at *
      go_wp2_with fail
      refine HBU.out.mono ?_
      rintro e w4 ⟨rfl, hb4⟩
      have HB4 := Lib.hid (bcall HB3.out hb4)
      clear hb4 HB3 HBU
      go_wp2_with fail
      refine (HOP.out w4 (HT.out.below HB4.out)).mono ?_
      rintro e w5 ⟨hb5, ⟨_, p, B, dn, k, A3, hs, rfl, hd, hm, _, _⟩ | ⟨hne, _⟩⟩
      · have HB5 := Lib.hid (bcall HB4.out hb5)
        have HD5 := Lib.hid hd
        have HM := Lib.hid hm
        clear hb5 HB4 HOP hd hm
        simp only at HD5 HM
        rw [hlen] at HD5
        have hdn : ds.length = dn := by
          have h1 := congrArg List.length HM.out
          rw [List.length_map, HD5.out.len] at h1
          exact h1.symm
        rw [hdn] at hdl
        go_wp2_with fail
        refine (root_any w5 p B dn k A3 base n hs HD5.out).mono ?_
        rintro e w6 ⟨rfl, hb6⟩
        have HC6 := Lib.hid hb6
        clear hb6
        obtain ⟨rt, hrt⟩ : ∃ z, (if dn = 0 then (-1 : Int) else (dn : Int) - 1) = z := ⟨_, rfl⟩
        obtain ⟨bs, hbs⟩ : ∃ z, (if dn = 0 then (0 : Int) else base) = z := ⟨_, rfl⟩
        rw [hrt, hbs]
        have HBS := Lib.hid hbs
        clear hbs
        go_wp2_with fail
        refine (dcount_any w6 p B dn k A3 base n hs (HD5.out.keep HC6.out)).mono ?_
        rintro e w7 ⟨rfl, hb7⟩
        have HC7 := Lib.hid (bcall HC6.out hb7)
        clear hb7 HC6
        have q1 : IntKind.i64.wrap ((dn : Int) - 1) = rt := by
          rw [← hrt]
          split
          · rename_i h0; subst h0; exact IntWalk.i64_in _ (by omega)
          · exact IntWalk.i64_in _ (by omega)
        have q1' : (dn : Int) - 1 = rt := by
          rw [← hrt]
          split <;> omega
        have q2 : (rt != rt) = false := by simp
        have q3 : (((dn : Int) == 0) == ((n : Int) == 0)) = true := by
          have h1 := HBT.out.pos
          have h2 := hdn
          by_cases h0 : l = []
          · have h3 : ds = [] := by
              rcases Classical.em (ds = []) with h | h
              · exact h
              · exact absurd h0 (h1.1 h)
            rw [h3] at h2
            rw [h0] at hlen
            simp at h2 hlen
            rw [← h2, ← hlen]
            rfl
          · have h3 := List.length_pos_iff.2 (h1.2 h0)
            have h4 := List.length_pos_iff.2 h0
            have e1 : ((dn : Int) == 0) = false := by simp; omega
            have e2 : ((n : Int) == 0) = false := by simp; omega
            rw [e1, e2]
            rfl
        have HRT := Lib.hid (And.intro hrt q1')
        clear hrt
        go_wp2_with fail
        clear q1 q2 q3
        obtain ⟨V, hV⟩ : ∃ V, w7.heap.size = V := ⟨_, rfl⟩
        go_loopw [11, 12] (fun nv iv wr => ∃ (i : Nat) (A2 : Option Addr) (c2 : Nat) (gs : List Nh), i ≤ dn ∧ iv = .int .i64 i ∧ nv = .slice A2 i c2 ∧ Hid (NdsAt wr V A2 i c2 gs ∧ gs.map (·.d) = ds.take i) ∧ Hid (Below V w7 wr)) (fun _ iv _ => dn - (intOf iv).toNat)
        case atStart => exact ⟨0, none, 0, [], Nat.zero_le _, rfl, rfl, ⟨NdsAt.nil _ _, rfl⟩, by rw [← hV]; exact brefl w7⟩
        case round =>
          obtain ⟨i, A2, c2, gs, hi, rfl, rfl, HN, HC⟩ := hrel
          have HDW : Hid (DictAt wr p B A3 dn k base n hs) := HD5.out.keep (HC7.out.trans (HC.out.mono (by rw [← hV]; exact HC7.out.size)))
          by_cases hlt : i < dn
          · obtain ⟨x, hx⟩ : ∃ x, hs[i]? = some x := ⟨hs[i]'(by rw [HD5.out.len]; exact hlt), List.getElem?_eq_getElem _⟩
            have hxd : ds[i]? = some x.d := by rw [← HM.out, List.getElem?_map, hx]; rfl
            have hinv := HBT.out.inv
            have hfew := asc_few x.d.ways 0 (hinv.can i _ hxd).asc (fun y hy => ((hinv.fine i _ hxd).2 y hy).1) (by omega)
            have hsm : x.d.ways.length ≤ 65536 := by omega
            have HGN := Lib.hid (gnode_any wr p B dn k A3 base n hs HDW.out i x hx hsm)
            clear hinv hx
            go_wp2_with fail
            refine HGN.out.mono ?_
            rintro e w8 ⟨v8, rfl, hrow8, hb8⟩
            obtain ⟨A8, c8, rfl, hc8⟩ := own_shape hrow8
            obtain ⟨fb, hfb⟩ : ∃ z, x.d.fin = z := ⟨_, rfl⟩
            obtain ⟨ob, hob⟩ : ∃ z, x.d.out = z := ⟨_, rfl⟩
            obtain ⟨m8, hm8⟩ : ∃ z, x.d.ways.length = z := ⟨_, rfl⟩
            obtain ⟨d, hd⟩ : ∃ z, x.d = z := ⟨_, rfl⟩
            have HVW : Hid (V ≤ wr.heap.size) := by
              show V ≤ _
              rw [← hV]
              have := HC.out.size
              omega
            have HR8 := Lib.hid (own_kept (own_lower hrow8 HVW.out) (bnew (brefl w8) (.cells #[.bool fb, .int .i64 ob, .slice A8 m8 c8] 51)))
            have HC8 : Hid (Below V w7 (w8.alloc (.cells #[.bool fb, .int .i64 ob, .slice A8 m8 c8] 51))) :=
              (HC.out.trans (hb8.mono HVW.out)).alloc (Nat.le_trans HVW.out hb8.size) _
            have HN8 := Lib.hid ((HN.out.1.keep hb8).keep (bnew (brefl w8) (.cells #[.bool fb, .int .i64 ob, .slice A8 m8 c8] 51)))
            have HM8 := Lib.hid HN.out.2
            have HK8 := Lib.hid (heap_alloc_new w8 (.cells #[.bool fb, .int .i64 ob, .slice A8 m8 c8] 51))
            rw [hd] at hxd hm8 hob hfb
            rw [hd, hm8] at hfew hsm hc8 HR8 ⊢
            rw [hfb, hob]
            have HXD := Lib.hid hxd
            have HF := Lib.hid (And.intro hfb (And.intro hob hm8))
            clear HGN hb8 hrow8 HC HN HVW hxd hfb hob hm8 hd HDW
            have HFULL : Hid (fb = false → ((m8 : Int) == 0) = false) := fun h0 => by
              have h1 := node_full HBT.out.inv HXD.out (by rw [HF.out.1]; exact h0)
              have h2 := List.length_pos_iff.2 h1
              rw [HF.out.2.2] at h2
              simp
              omega
            by_cases hfb : fb = true
            subst hfb
            clear HFULL
            focus go_wp2_with fail
            generalize w8.alloc (.cells #[.bool true, .int .i64 ob, .slice A8 m8 c8] 51) = W8 at *
            rotate_left
            have hfb2 : fb = false := by simpa using hfb
            subst hfb2
            have q6 := HFULL.out rfl
            clear HFULL hfb
            focus go_wp2_with fail
            generalize w8.alloc (.cells #[.bool false, .int .i64 ob, .slice A8 m8 c8] 51) = W8 at *
            rotate_left
            all_goals
              generalize w8.heap.size = N8 at *
              obtain ⟨fv, HKV⟩ : ∃ fv : Bool, Hid (W8.heap[N8]? = some (.cells #[.bool fv, .int .i64 ob, .slice A8 m8 c8] 51 (0, 0)) ∧ d.fin = fv) := ⟨_, ⟨HK8.out, HF.out.1⟩⟩
              have hN8 : N8 < W8.heap.size := (Array.getElem?_eq_some_iff.1 HKV.out.1).1
              clear HK8
              go_loopw [15] (fun kv wr => ∃ j : Nat, j ≤ m8 ∧ kv = .int .i64 j ∧ Hid (Below W8.heap.size W8 wr)) (fun kv _ => m8 - (intOf kv).toNat)
              case atStart => exact ⟨0, Nat.zero_le _, rfl, Lib.hid (brefl W8)⟩
              case round =>
                obtain ⟨j, hj, rfl, HBQ⟩ := hrel
                have e2 := cell_of_row wr N8 2 _ _ (0, 0) ((HBQ.out.block _ hN8).trans HKV.out.1)
                simp at e2
                by_cases hlt2 : j < m8
                · obtain ⟨y, hy⟩ : ∃ y, d.ways[j]? = some y := ⟨d.ways[j]'(by rw [HF.out.2.2]; exact hlt2), List.getElem?_eq_getElem _⟩
                  obtain ⟨b8, off8, rfl, hb8, hcell⟩ := ways_at (Sl.of_own HR8.out) (by omega)
                  obtain ⟨c0, c1, c2'⟩ := hcell j y hy
                  have f0 := (HBQ.out.cell (p := ⟨b8, off8 + j * 3, none⟩) (by show b8 < _; omega)).trans c0
                  have f1 := (HBQ.out.cell (p := ⟨b8, off8 + j * 3 + 1, none⟩) (by show b8 < _; omega)).trans c1
                  have f2 := (HBQ.out.cell (p := ⟨b8, off8 + j * 3 + 2, none⟩) (by show b8 < _; omega)).trans c2'
                  obtain ⟨_, ⟨o0, _⟩, t0, t1⟩ := (HBT.out.inv.fine i d HXD.out).2 y (List.mem_of_getElem? hy)
                  obtain ⟨y0, y1, y2⟩ := y
                  simp only at f0 f1 f2 o0 t0 t1
                  have q1 : decide ((i : Int) ≤ y2) = false := by simp; omega
                  have q2 : decide (y2 < 0) = false := by simp; omega
                  have q3 : decide (y1 < 0) = false := by simp; omega
                  by_cases hj0 : j = 0
                  · subst hj0
                    rw [Nat.zero_mul, Nat.add_zero] at f0 f1 f2
                    clear c0 c1 c2' hcell hy o0 t0 t1
                    go_wp2_with fail
                    go_quiet (fail)
                    go_wp2_with fail
                    go_roundw
                    case rel => exact ⟨1, by omega, rfl, Lib.hid (below_drewN HBQ.out nq)⟩
                    case measure => simp [intOf]; omega
                  · obtain ⟨j', rfl⟩ : ∃ j', j = j' + 1 := ⟨j - 1, by omega⟩
                    obtain ⟨z, hz⟩ : ∃ z, d.ways[j']? = some z := ⟨d.ways[j']'(by rw [HF.out.2.2]; omega), List.getElem?_eq_getElem _⟩
                    obtain ⟨g0, _, _⟩ := hcell j' z hz
                    have f3 := (HBQ.out.cell (p := ⟨b8, off8 + j' * 3, none⟩) (by show b8 < _; omega)).trans g0
                    have hasc : z.1 < y0 := by
                      obtain ⟨l1, e1⟩ := List.getElem?_eq_some_iff.1 hz
                      obtain ⟨l2, e2⟩ := List.getElem?_eq_some_iff.1 hy
                      have := List.pairwise_iff_getElem.1 (HBT.out.inv.can i d HXD.out).asc j' (j' + 1) l1 l2 (Nat.lt_succ_self _)
                      rw [e1, e2] at this
                      exact this
                    have q4 : decide (y0 ≤ z.1) = false := by simp; omega
                    have hw : IntKind.i64.wrap (((j' + 1 : Nat) : Int) - 1) = (j' : Int) := by rw [show ((j' + 1 : Nat) : Int) - 1 = (j' : Int) by omega]; exact IntWalk.i64_in _ (by omega)
                    have q6 : decide (0 < j' + 1) = true := by simp
                    have hjn2 : (j' : Int) < (m8 : Int) := by omega
                    generalize z.1 = z0 at *
                    clear c0 c1 c2' g0 hcell hy hz o0 t0 t1 hasc hj0
                    go_wp2_with fail
                    go_quiet (fail)
                    go_wp2_with fail
                    go_roundw
                    case rel => exact ⟨j' + 1 + 1, by omega, by go_num, Lib.hid (below_drewN HBQ.out nq)⟩
                    case measure => simp [intOf]; omega
                · obtain rfl : j = m8 := by omega
                  go_wp2_with fail
                  clear e2
                  go_loopw [16] (fun kv wr => ∃ j3 : Nat, j3 ≤ i ∧ kv = .int .i64 j3 ∧ Hid (Below W8.heap.size W8 wr)) (fun kv _ => i - (intOf kv).toNat)
                  case atStart => exact ⟨0, Nat.zero_le _, rfl, HBQ⟩
                  case round =>
                    clear HBQ
                    obtain ⟨j3, hj3, rfl, HBQ⟩ := hrel
                    have e0 := cell_of_row wr N8 0 _ _ (0, 0) ((HBQ.out.block _ hN8).trans HKV.out.1)
                    have e1 := cell_of_row wr N8 1 _ _ (0, 0) ((HBQ.out.block _ hN8).trans HKV.out.1)
                    have e2 := cell_of_row wr N8 2 _ _ (0, 0) ((HBQ.out.block _ hN8).trans HKV.out.1)
                    simp at e0 e1 e2
                    have HNQ := Lib.hid (HN8.out.keep HBQ.out)
                    have HWN : Hid (W8.heap.size ≤ wr.heap.size) := HBQ.out.size
                    by_cases hlt3 : j3 < i
                    · obtain ⟨gn, rfl, _, hgn, hnode⟩ := HNQ.out.node_ (by omega)
                      obtain ⟨g, hg⟩ : ∃ g, gs[j3]? = some g := ⟨gs[j3]'(by rw [HNQ.out.len]; exact hlt3), List.getElem?_eq_getElem _⟩
                      have hgd : ds[j3]? = some g.d := by
                        have h1 : (gs.map (·.d))[j3]? = some g.d := by rw [List.getElem?_map, hg]; rfl
                        rw [HM8.out, List.getElem?_take_of_lt hlt3] at h1
                        exact h1
                      have hne : g.d ≠ d := by
                        obtain ⟨l1, q1⟩ := List.getElem?_eq_some_iff.1 hgd
                        obtain ⟨l2, q2⟩ := List.getElem?_eq_some_iff.1 HXD.out
                        have := List.pairwise_iff_getElem.1 HBT.out.inv.nodup j3 i l1 l2 hlt3
                        rw [q1, q2] at this
                        exact this
                      have hgf := asc_few g.d.ways 0 (HBT.out.inv.can j3 _ hgd).asc (fun y hy => ((HBT.out.inv.fine j3 _ hgd).2 y hy).1) (by omega)
                      obtain ⟨n0, n1, n2⟩ := hnode j3 g hg
                      have hwsl := HNQ.out.wsl (List.mem_of_getElem? hg)
                      have HAK : Hid (∀ W', Below wr.heap.size wr W' → Calls Tryd.prog 22 #[.agg #[.bool g.d.fin, .int .i64 g.d.out, .slice g.A g.d.ways.length g.c], .agg #[.bool fv, .int .i64 ob, .slice A8 j c8]] W' fun r w' => r = .returned (.bool false) ∧ Below W'.heap.size W' w') := fun W' hb => by
                        have h1 := alike_any W' g.d d g.A A8 g.d.ways.length g.c j c8 ((hwsl.1.below hb).more hb.size) (((Sl.of_own HR8.out).below (HBQ.out.trans (hb.mono HWN.out))).more (Nat.le_trans HWN.out hb.size)) rfl HF.out.2.2 (by omega) (by omega)
                        rw [HKV.out.2, HF.out.2.1, decide_eq_false hne] at h1
                        exact h1
                      generalize g.d.fin = gf at *
                      generalize g.d.out = gout at *
                      generalize g.A = gA at *
                      generalize g.c = gc at *
                      generalize hgm : g.d.ways.length = gm at *
                      clear hgd hne hgf hnode hwsl hg hgm
                      go_wp2_with fail
                      have HFC : Hid (∀ W, Below wr.heap.size wr W → W.cell? ⟨gn, j3 * 3, none⟩ = some (.bool gf) ∧ W.cell? ⟨gn, j3 * 3 + 1, none⟩ = some (.int .i64 gout) ∧ W.cell? ⟨gn, j3 * 3 + 2, none⟩ = some (.slice gA gm gc) ∧ W.cell? ⟨N8, 0, none⟩ = some (.bool fv) ∧ W.cell? ⟨N8, 1, none⟩ = some (.int .i64 ob) ∧ W.cell? ⟨N8, 2, none⟩ = some (.slice A8 j c8)) := fun W hb =>
                        ⟨(hb.cell (p := ⟨gn, j3 * 3, none⟩) hgn).trans n0, (hb.cell (p := ⟨gn, j3 * 3 + 1, none⟩) hgn).trans n1, (hb.cell (p := ⟨gn, j3 * 3 + 2, none⟩) hgn).trans n2,
                          (hb.cell (p := ⟨N8, 0, none⟩) (Nat.lt_of_lt_of_le hN8 HWN.out)).trans e0, (hb.cell (p := ⟨N8, 1, none⟩) (Nat.lt_of_lt_of_le hN8 HWN.out)).trans e1, (hb.cell (p := ⟨N8, 2, none⟩) (Nat.lt_of_lt_of_le hN8 HWN.out)).trans e2⟩
                      have K3 := Lib.hid (HFC.out wr (brefl wr))
                      go_region_held3 (fun w' => w'.cell? ⟨gn, j3 * 3, none⟩ = some (.bool gf) ∧ w'.cell? ⟨gn, j3 * 3 + 1, none⟩ = some (.int .i64 gout) ∧ w'.cell? ⟨gn, j3 * 3 + 2, none⟩ = some (.slice gA gm gc) ∧ w'.cell? ⟨N8, 0, none⟩ = some (.bool fv) ∧ w'.cell? ⟨N8, 1, none⟩ = some (.int .i64 ob) ∧ w'.cell? ⟨N8, 2, none⟩ = some (.slice A8 j c8))
                        (first
                          | assumption
                          | exact K3.out
                          | exact HFC.out _ HBC.out)
                        (first | (go_at_call 22; refine (HAK.out _ (by repeat (first | exact brefl _ | refine Below.drew ?_))).mono ?_; rintro e wC ⟨rfl, hbC⟩; have HBC : Hid (Below wr.heap.size wr wC) := bcall (by repeat (first | exact brefl _ | refine Below.drew ?_)) hbC))
                      all_goals
                        go_wp2_with fail
                        go_roundw
                        case rel => exact ⟨j3 + 1, by omega, by go_num, Lib.hid (HBQ.out.trans (HBC.out.mono HWN.out))⟩
                        case measure => simp [intOf]; omega
                    · obtain rfl : j3 = i := by omega
                      have HRQ := Lib.hid (own_kept HR8.out HBQ.out)
                      have HCQ : Hid (Below V w7 wr) := HC8.out.trans (HBQ.out.mono (by rw [← hV]; exact HC8.out.size))
                      have hVR : V ≤ wr.heap.size := by rw [← hV]; have := HCQ.out.size; omega
                      go_wp2_with (at_builtin; refine wpList_push wr _ _ rfl _ _ _ rfl el_node2 _ _ _ rfl HNQ.out.nod rfl (by simp) rfl (by simp [Value.oneCell']) (by unfold maxLen; omega) (by omega) (by omega) (Below.refl _ _) ?_; intro v9 w9 hown9 hb9 hg9 _; obtain ⟨A9, c9, rfl, _⟩ := own_shape hown9; have HO9 := Lib.hid hown9; have HG9 := Lib.hid hg9; clear hown9 hb9 hg9)
                      have HNP : Hid (NdsAt w9 V A9 (j3 + 1) c9 (gs ++ [⟨d, A8, c8⟩])) := by
                        refine HNQ.out.push (d := d) ?_ HG9.out ?_
                        · rw [HF.out.2.2]; exact HRQ.out
                        · rw [HF.out.2.2, HF.out.2.1, HKV.out.2]; exact HO9.out
                      have HCP : Hid (Below V w7 w9) := HCQ.out.grown HG9.out hVR (fun k hk => (HNQ.out.nod.lt k hk).1)
                      have HMP : Hid ((gs ++ [(⟨d, A8, c8⟩ : Nh)]).map (fun x : Nh => x.d) = ds.take (j3 + 1)) := by
                        show _ = _
                        rw [List.map_append, HM8.out, List.take_add_one, HXD.out]
                        rfl
                      go_roundw
                      case rel => exact ⟨j3 + 1, A9, c9, gs ++ [⟨d, A8, c8⟩], by omega, by go_num, rfl, ⟨HNP.out, HMP.out⟩, HCP⟩
                      case measure => simp [intOf]; omega
          · obtain rfl : i = dn := by omega
            rw [List.take_of_length_le (by omega)] at HN
            clear q1'
            go_wp2_with fail
            refine (gnode_out wr p B i k A3 base n hs HDW.out i (.inr (Int.le_refl _))).mono ?_
            rintro e w8 ⟨rfl, hb8⟩
            have HN8 := Lib.hid ((HN.out.1.keep hb8).keep (bnew (brefl w8) (.cells #[.bool false, .int .i64 0, .slice none 0 0] 51)))
            have HVW : Hid (V ≤ wr.heap.size) := by
              show V ≤ _
              rw [← hV]
              have := HC.out.size
              omega
            have HC8 : Hid (Below V w7 (w8.alloc (.cells #[.bool false, .int .i64 0, .slice none 0 0] 51))) :=
              (HC.out.trans (hb8.mono HVW.out)).alloc (Nat.le_trans HVW.out hb8.size) _
            have HMF := Lib.hid HN.out.2
            clear hb8 HC HN HVW HDW
            unfold zeroN
            go_wp2_with fail
            generalize w8.alloc (.cells #[.bool false, .int .i64 0, .slice none 0 0] 51) = W9 at *
            have HEW : Hid (∀ W, Below W9.heap.size W9 W → Ents W w.heap.size A n c l ∧ w.heap.size ≤ W.heap.size) := fun W hb => by
              have h1 : Below w5.heap.size w5 W := HC7.out.trans ((HC8.out.trans (hb.mono (by rw [← hV]; exact HC8.out.size))).mono (by rw [← hV]; exact HC7.out.size))
              exact ⟨HE.out.keep (HB5.out.trans (h1.mono HB5.out.size)), Nat.le_trans HB5.out.size h1.size⟩
            go_loopw [19] (fun ev wr => ∃ q : Nat, q ≤ n ∧ ev = .int .i64 q ∧ Hid (Below W9.heap.size W9 wr)) (fun ev _ => n - (intOf ev).toNat)
            case atStart => exact ⟨0, Nat.zero_le _, rfl, Lib.hid (brefl W9)⟩
            case round =>
              obtain ⟨q, hq, rfl, HBQ⟩ := hrel
              by_cases hlt2 : q < n
              · obtain ⟨e, he⟩ : ∃ e, l[q]? = some e := ⟨l[q]'(by omega), List.getElem?_eq_getElem _⟩
                have hlne : l ≠ [] := by rintro rfl; simp at he
                have hroot := HBT.out.root hlne
                have hi0 : 0 < i := by
                  have h1 := List.length_pos_iff.2 (HBT.out.pos.2 hlne)
                  omega
                rw [if_neg (by omega)] at HRT HBS
                obtain ⟨r0, hr0⟩ : ∃ r0, i - 1 = r0 := ⟨_, rfl⟩
                have hrt : rt = (r0 : Int) := by rw [← HRT.out.1]; omega
                have hbs : base = bs := HBS.out
                rw [hdn, hr0, hbs] at hroot
                have hmem : (e.1.drop 0, e.2 - bs) ∈ left ds r0 := by
                  rw [hroot]
                  exact List.mem_map_of_mem (f := fun e : Ent => (e.1.drop 0, e.2 - bs)) (List.mem_of_getElem? he)
                have hbp := HBT.out.bas
                rw [hbs] at hbp
                have hef := HE.out.fits e (List.mem_of_getElem? he)
                have hel := HE.out.lens e (List.mem_of_getElem? he)
                have HEQ := Lib.hid he
                obtain ⟨tt, o⟩ := e
                simp only at hmem hef hel
                rw [hrt]
                have HME := Lib.hid hmem
                have hr0i : r0 < i := by omega
                clear hroot hmem he hlne
                go_wp2_with fail
                go_loopw [20, 21, 22] (fun av ov kv wr => ∃ (a kk : Nat) (out : Int), a < i ∧ kk ≤ tt.length ∧ av = .int .i64 a ∧ ov = .int .i64 out ∧ kv = .int .i64 kk ∧ 0 ≤ out ∧ Hid ((tt.drop kk, o - out) ∈ left ds a) ∧ Hid (Below W9.heap.size W9 wr)) (fun _ _ kv _ => tt.length - (intOf kv).toNat)
                case atStart => exact ⟨r0, 0, bs, hr0i, Nat.zero_le _, rfl, rfl, rfl, hbp.1, HME, HBQ⟩
                case round =>
                  clear HBQ HME hr0i
                  obtain ⟨a, kk, out, hai, hkk, rfl, rfl, rfl, hout, HME, HBQ⟩ := hrel
                  obtain ⟨eb, eoff, rfl, heb, hecell⟩ := (HEW.out _ HBQ.out).1.at_ (by omega)
                  obtain ⟨ec0, ec1⟩ := hecell q (tt, o) HEQ.out
                  simp only at ec0 ec1
                  obtain ⟨gn, rfl, _, hgn, hnode⟩ := (HN8.out.keep HBQ.out).node_ hi0
                  obtain ⟨g, hg⟩ : ∃ g, gs[a]? = some g := ⟨gs[a]'(by rw [HN8.out.len]; exact hai), List.getElem?_eq_getElem _⟩
                  have hgd : ds[a]? = some g.d := by
                    rw [← HMF.out, List.getElem?_map, hg]
                    rfl
                  obtain ⟨n0, n1, n2⟩ := hnode a g hg
                  have hge := left_ge HBT.out.inv hgd HME.out
                  simp only at hge
                  clear hecell hnode
                  by_cases hlt3 : kk < tt.length
                  · obtain ⟨b, hb⟩ : ∃ b, tt[kk]? = some b := ⟨tt[kk]'hlt3, List.getElem?_eq_getElem _⟩
                    have hz := byteN_get tt kk (by show kk < tt.toArray.size; simp; omega)
                    have hbv : byteN tt kk = b.toNat := by unfold byteN; rw [List.getD_eq_getElem?_getD, hb]; rfl
                    have hbi := byteN_in tt kk
                    have hdrop : tt.drop kk = b :: tt.drop (kk + 1) := by
                      obtain ⟨h1, h2⟩ := List.getElem?_eq_some_iff.1 hb
                      rw [List.drop_eq_getElem_cons h1, h2]
                    rw [hdrop] at HME
                    obtain ⟨x, hfx, hxw, hxl, hx1, hx2, hx3⟩ := step_left HBT.out.inv hgd HME.out
                    rw [← hbv] at hfx
                    have hw1 : IntKind.i64.wrap (byteN tt kk : Int) = (byteN tt kk : Int) := IntWalk.i64_in _ (by omega)
                    have hgf := asc_few g.d.ways 0 (HBT.out.inv.can a _ hgd).asc (fun y hy => ((HBT.out.inv.fine a _ hgd).2 y hy).1) (by omega)
                    have hwsl := (HN8.out.keep HBQ.out).wsl (List.mem_of_getElem? hg)
                    obtain ⟨z, hzz⟩ : ∃ z : Int, (byteN tt kk : Int) = z := ⟨_, rfl⟩
                    rw [hzz] at hz hw1 hfx
                    obtain ⟨x0, x1, x2⟩ := x
                    simp only at hxl hx1 hx2 hx3
                    obtain ⟨to', rfl⟩ := Int.eq_ofNat_of_zero_le hx2
                    rw [Int.toNat_natCast] at hxl
                    have HFD : Hid (∀ W', Below wr.heap.size wr W' → Calls Tryd.prog 23 #[.slice g.A g.d.ways.length g.c, .int .i64 z] W' fun r w' => r = .returned (.agg #[.int .i64 x0, .int .i64 x1, .int .i64 (to' : Int)]) ∧ Below W'.heap.size W' w') := fun W' hb => by
                      have h1 := find_any W' g.A g.d.ways.length g.c g.d.ways ((hwsl.1.below hb).more hb.size) rfl (by omega) z
                      rw [hfx] at h1
                      exact h1
                    have htod : ∃ d2, ds[to']? = some d2 := ⟨ds[to']'(by omega), List.getElem?_eq_getElem _⟩
                    obtain ⟨d2, hd2⟩ := htod
                    have hge2 := left_ge HBT.out.inv hd2 hxl
                    simp only at hge2
                    have HXL : Hid ((tt.drop (kk + 1), o - (out + x1)) ∈ left ds to') := by
                      show _ ∈ _
                      rw [show o - (out + x1) = o - out - x1 by omega]
                      exact hxl
                    have hoo : out + x1 ≤ o := by omega
                    have ho63 := hef.2
                    generalize g.d.ways.length = gm at *
                    generalize g.A = gA at *
                    generalize g.c = gc at *
                    clear hb hbv hbi hdrop hfx hxw hxl hgf hwsl hzz hd2 hge2 hge hx2 n0 n1 hgd hg ec1
                    have HFC : Hid (∀ W, Below wr.heap.size wr W → W.cell? ⟨gn, a * 3 + 2, none⟩ = some (.slice gA gm gc) ∧ W.cell? ⟨eb, eoff + q * 2, none⟩ = some (.string ⟨tt.toArray⟩)) := fun W hb =>
                      ⟨(hb.cell (p := ⟨gn, a * 3 + 2, none⟩) hgn).trans n2, (hb.cell (p := ⟨eb, eoff + q * 2, none⟩) (by show eb < _; have := (HEW.out _ HBQ.out).2; omega)).trans ec0⟩
                    have K3 := Lib.hid (HFC.out wr (brefl wr))
                    go_wp2_with fail
                    clear ec0 n2
                    obtain ⟨kq0, kq1⟩ := K3.out
                    go_region_held3 (fun w' => w'.cell? ⟨gn, a * 3 + 2, none⟩ = some (.slice gA gm gc) ∧ w'.cell? ⟨eb, eoff + q * 2, none⟩ = some (.string ⟨tt.toArray⟩))
                      (first
                        | assumption
                        | exact K3.out
                        | exact HFC.out _ HBC.out
                        | exact HFC.out _ (by repeat (first | exact brefl _ | exact HBC.out | refine Below.drew ?_ | refine bnew ?_ _ | refine below_set ?_ (Nat.le_refl _) (Nat.le_refl _) | refine below_set ?_ HBC.out.size (Nat.le_refl _))))
                      (first | (go_at_call 23; refine (HFD.out _ (by repeat (first | exact brefl _ | refine Below.drew ?_ | refine bnew ?_ _))).mono ?_; rintro e wC ⟨rfl, hbC⟩; have HBC : Hid (Below wr.heap.size wr wC) := bcall (by repeat (first | exact brefl _ | refine Below.drew ?_ | refine bnew ?_ _)) hbC; try (have kb : wC.heap[wr.heap.size]? = some (.cells #[.int .i64 0, .int .i64 0, .int .i64 0] 55 (0, 0)) := (hbC.block wr.heap.size (by simp [World.drew])).trans (heap_alloc_new wr _); have kb0 := cell_of_row _ _ 0 _ _ (0, 0) kb; have kb1 := cell_of_row _ _ 1 _ _ (0, 0) kb; have kb2 := cell_of_row _ _ 2 _ _ (0, 0) kb; simp at kb0 kb1 kb2; have kf0 := free_at kb 0; have kf1 := free_at kb 1; have kf2 := free_at kb 2; have HKB := Lib.hid kb; clear kb)))
                    all_goals
                      first
                        | (have HWB := Lib.hid (set_three (x := .int .i64 x0) (y := .int .i64 x1) (z := .int .i64 (to' : Int)) HKB.out)
                           have HBW := Lib.hid (below_set (k := wr.heap.size) (j := 2) (u := .int .i64 (to' : Int)) (below_set (k := wr.heap.size) (j := 1) (u := .int .i64 x1) (below_set (k := wr.heap.size) (j := 0) (u := .int .i64 x0) HBC.out (Nat.le_refl _) (Nat.le_refl _)) (Nat.le_refl _) (Nat.le_refl _)) (Nat.le_refl _) (Nat.le_refl _))
                           generalize ((wC.setCell ⟨wr.heap.size, 0, none⟩ (.int .i64 x0)).setCell ⟨wr.heap.size, 1, none⟩ (.int .i64 x1)).setCell ⟨wr.heap.size, 2, none⟩ (.int .i64 (to' : Int)) = WF at *)
                        | (have HWB := Lib.hid (heap_alloc_new wC (.cells #[.int .i64 x0, .int .i64 x1, .int .i64 (to' : Int)] 55))
                           have HBW := Lib.hid (HBC.out.alloc HBC.out.size (.cells #[.int .i64 x0, .int .i64 x1, .int .i64 (to' : Int)] 55))
                           generalize wC.alloc (.cells #[.int .i64 x0, .int .i64 x1, .int .i64 (to' : Int)] 55) = WF at *)
                      have kd1 := cell_of_row _ _ 1 _ _ (0, 0) HWB.out
                      have kd2 := cell_of_row _ _ 2 _ _ (0, 0) HWB.out
                      simp at kd1 kd2
                      have HBF := Lib.hid (HBQ.out.trans (HBW.out.mono HBQ.out.size))
                      have q1 : decide ((to' : Int) < 0) = false := by simp
                      have htoi : to' < i := by omega
                      go_wp2_with fail
                      go_roundw
                      case rel => exact ⟨to', kk + 1, out + x1, htoi, by omega, rfl, rfl, by go_num, by omega, HXL, HBF⟩
                      case measure => simp [intOf]; omega
                  · obtain rfl : kk = tt.length := by omega
                    rw [List.drop_length] at HME
                    obtain ⟨hfin, hout2⟩ := end_left HBT.out.inv hgd HME.out
                    rw [hfin] at n0
                    rw [hout2] at n1
                    obtain ⟨gz, hgz⟩ : ∃ z, o - out = z := ⟨_, rfl⟩
                    rw [hgz] at n1
                    have hw1 : IntKind.i64.wrap (out + gz) = o := by rw [show out + gz = o by omega]; exact IntWalk.i64_in _ ⟨hef.1, hef.2⟩
                    have hw2 : wrap64 (out + gz) = o := by
                      rw [show out + gz = o by omega]
                      have h1 := hef.1
                      have h2 := hef.2
                      unfold wrap64
                      omega
                    have q1 : (o != o) = false := by simp
                    clear hge hgz hout2 hfin hgd n2
                    go_wp2_with fail
                    go_quiet (fail)
                    go_wp2_with fail
                    go_roundw
                    case rel => exact ⟨q + 1, by omega, by go_num, Lib.hid (below_drewN HBQ.out nq)⟩
                    case measure => simp [intOf]; omega
              · obtain rfl : q = n := by omega
                go_wp2_with fail
                go_ret
                have h1 : Below w5.heap.size w5 wr := HC7.out.trans ((HC8.out.trans (HBQ.out.mono (by rw [← hV]; exact HC8.out.size))).mono (by rw [← hV]; exact HC7.out.size))
                exact ⟨rfl, HB5.out.trans (h1.mono HB5.out.size)⟩
      · exact absurd rfl hne
    · have q1 : (rightE l != 0) = true := by simpa using hr
      generalize rightE l = r at *
      go_wp2_with fail
      refine (awake_any _ (HT.out.below HB3.out)).mono ?_
      rintro e w4 ⟨rfl, hb4⟩
      go_wp2_with fail
      go_ret
      exact ⟨rfl, bcall HB3.out hb4⟩
  · rw [show lightB l = false by simpa using hli]
    go_wp2_with fail
    refine (awake_any _ (HT.out.below HB2.out)).mono ?_
    rintro e w4 ⟨rfl, hb4⟩
    go_wp2_with fail
    go_ret
    exact ⟨rfl, bcall HB2.out hb4⟩
theorem least_walkx (w : World) (A : Option Addr) (n c : Nat) (x : Nat → tEnt.den) (h : EntsIn w A n c (entL n x)) (ht : Tab w) :
    Calls Tryd.prog 6 #[.slice A n c] w fun e w' => e = .returned (.bool true) ∧ Below w.heap.size w w' := least_walk w A n c (entL n x) h ht
end Go.Proofs.YtheickndnniomaaDoor
