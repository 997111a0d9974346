/- dfa.Both. -/
import Derived.Test.YtebdffabfimmkaaDoorHDfaBoth27
import Derived.Test.YtebdffabfimmkaaDoorHDfaBoth7
import Derived.Deep.RegionHeld3
import Derived.Test.YtebdffabfimmkaaDoorHDfaBoth8
namespace Go.Proofs.YtebdffabfimmkaaDoor
open Go.RowKit Go.Maps

set_option maxRecDepth 100000 in
set_option maxHeartbeats 8000000 in
theorem both_any (w : World) (B : Nat) (hB : B ≤ w.heap.size) (A : Option Addr) (n c : Nat) (H : List Sh) (h : StsIn w B A n c H) (A' : Option Addr) (n' c' : Nat) (H' : List Sh) (h' : StsIn w B A' n' c' H') (hg : Good (H.map (·.d))) (hg' : Good (H'.map (·.d))) (hfew : n * n' ≤ 20000) (most : Int) (ht : Tab w) :
    Calls Tryd.prog 21 #[.slice A n c, .slice A' n' c', .int .i64 most] w fun e w' =>
      ((∃ f, most < (((pairW (H.map (·.d)) (H'.map (·.d))).run f 0 [[0, 0]]).length : Nat)) ∧ e = .returned (.tuple #[.slice none 0 0, .int .i64 8]) ∧ Below w.heap.size w w') ∨
      ((∀ f, (((pairW (H.map (·.d)) (H'.map (·.d))).run f 0 [[0, 0]]).length : Nat) ≤ most) ∧ ∃ v hs d, e = .returned (.tuple #[v, .int .i64 0]) ∧ OwnSts w' w.heap.size v hs ∧ LeastIs (auOf d) 0 (hs.map (·.d)) ∧ Leq (auOf d) 0 ⟨finP (H.map (·.d)) (H'.map (·.d)), stepP (H.map (·.d)) (H'.map (·.d))⟩ [0, 0] ∧ hs.length ≤ d.length ∧ d.length ≤ 20000 ∧ Below w.heap.size w w') := by
  have HS := Lib.hid h
  have HS' := Lib.hid h'
  have HC0 : Hid (checkE (H.map (·.d)) = 0) := (good_iff _).2 hg
  have HC0' : Hid (checkE (H'.map (·.d)) = 0) := (good_iff _).2 hg'
  have hmk := @run_makeMap Tryd.prog
  obtain ⟨a, ha⟩ : ∃ l, H.map (·.d) = l := ⟨_, rfl⟩
  obtain ⟨e', he'⟩ : ∃ l, H'.map (·.d) = l := ⟨_, rfl⟩
  have HA := Lib.hid ha
  have HE := Lib.hid he'
  rw [ha] at hg HC0
  rw [he'] at hg' HC0'
  rw [ha, he']
  have HG := Lib.hid hg
  have HG' := Lib.hid hg'
  have hln : H.length = n := h.len
  have hln' : H'.length = n' := h'.len
  have hal : a.length = n := by rw [← ha, List.length_map]; exact h.len
  have hel : e'.length = n' := by rw [← he', List.length_map]; exact h'.len
  have HFEW : Hid (∀ f, ((pairW a e').run f 0 [[0, 0]]).length ≤ 20000) := fun f => Nat.le_trans (pair_few hg hg' f) (by rw [hal, hel]; exact hfew)
  have hnp : 0 < n := by rw [← hal]; exact List.length_pos_iff.2 hg.ne
  have hnp' : 0 < n' := by rw [← hel]; exact List.length_pos_iff.2 hg'.ne
  have hnm : n ≤ 20000 := by rw [← hal]; exact hg.few
  have hnm' : n' ≤ 20000 := by rw [← hel]; exact hg'.few
  have HT := Lib.hid ht
  have HAL := Lib.hid hal
  have HEL := Lib.hid hel
  clear h h' hg hg' ht ha he' hal hel hfew
  go_enter Tryd.func21, Tryd.ntmps21
  go_wp2_with fail
  refine (dcheck_any w B hB A n c H HS.out).mono ?_
  rintro e w1 ⟨rfl, hb1⟩
  rw [HA.out, HC0.out]
  have HB1 := Lib.hid hb1
  have HS1 := Lib.hid (HS'.out.keep (hb1.mono hB) (Nat.le_refl _))
  clear hb1
  go_wp2_with fail
  refine (dcheck_any w1 B (Nat.le_trans hB HB1.out.size) A' n' c' H' HS1.out).mono ?_
  rintro e w2 ⟨rfl, hb2⟩
  rw [HE.out, HC0'.out]
  have HB2 := Lib.hid (bcall HB1.out hb2)
  have HMS := Lib.hid (MkG.start HB2.out rfl rfl)
  clear hb2 HS1 HB1
  go_wp2_with fail
  have HB3 := Lib.hid (bnew (bnew HB2.out (.map #[] 0)) (.cells #[.slice none 0 0, .map (some w2.heap.size), .slice none 0 0, .int .i64 0] 62))
  have hsz2 : ((w2.alloc (.map #[] 0)).alloc (.cells #[.slice none 0 0, .map (some w2.heap.size), .slice none 0 0, .int .i64 0] 62)).heap.size = w2.heap.size + 1 + 1 := by simp
  obtain ⟨p, hp⟩ : ∃ p, w2.heap.size + 1 = p := ⟨_, rfl⟩
  obtain ⟨kb, hkb⟩ : ∃ p, w2.heap.size = p := ⟨_, rfl⟩
  rw [hkb] at HMS HB3 hsz2 hp
  rw [hp] at HMS hsz2
  rw [hkb, hp]
  have hpw : w.heap.size ≤ p := by have := HB2.out.size; omega
  generalize (w2.alloc (.map #[] 0)).alloc (.cells #[.slice none 0 0, .map (some kb), .slice none 0 0, .int .i64 0] 62) = W2 at *
  have HB4 := Lib.hid (bnew HB3.out (.cells #[.int .i64 0, .int .i64 0] 3))
  have hO4 : (W2.alloc (.cells #[.int .i64 0, .int .i64 0] 3)).ownsRow (p + 1) 3 1 (.slice (some ⟨p + 1, 0, none⟩) 2 2) 2 (([0, 0] : List Int).map (.int .i64)) := own_new W2 #[.int .i64 0, .int .i64 0] 3 1 2 rfl (by unfold maxLen; omega) hsz2.symm (by omega)
  have HM4 := Lib.hid (HMS.out.keep (bnew (brefl W2) (.cells #[.int .i64 0, .int .i64 0] 3)))
  have hF4 : Fam (W2.alloc (.cells #[.int .i64 0, .int .i64 0] 3)) w.heap.size ([] ++ [⟨some ⟨p + 1, 0, none⟩, 2, [0, 0]⟩]) := ⟨fun x hx => by
    rw [List.mem_singleton.1 hx]
    exact own_lower hO4 (by omega), List.pairwise_singleton _ _⟩
  have HF4 := Lib.hid hF4
  have hbs4 := HB4.out.size
  clear hO4 hF4 hsz2 hmk HB3 HMS hp hkb
  generalize W2.alloc (.cells #[.int .i64 0, .int .i64 0] 3) = W4 at *
  have HT4 := Lib.hid (HT.out.below HB4.out)
  obtain ⟨ab, ao, rfl, hab, hac⟩ := (HS.out.keep (HB4.out.mono hB) (Nat.le_refl _)).at_ hnp
  obtain ⟨eb, eo, rfl, heb, hec⟩ := (HS'.out.keep (HB4.out.mono hB) (Nat.le_refl _)).at_ hnp'
  obtain ⟨X0, hX0⟩ : ∃ X, H[0]? = some X := ⟨H[0]'(by omega), List.getElem?_eq_getElem _⟩
  obtain ⟨Y0, hY0⟩ : ∃ X, H'[0]? = some X := ⟨H'[0]'(by omega), List.getElem?_eq_getElem _⟩
  have a0 := (hac 0 X0 hX0).1
  have e0 := (hec 0 Y0 hY0).1
  rw [Nat.zero_mul, Nat.add_zero] at a0 e0
  obtain ⟨fa, hfa⟩ : ∃ f, X0.d.1 = f := ⟨_, rfl⟩
  obtain ⟨fe, hfe⟩ : ∃ f, Y0.d.1 = f := ⟨_, rfl⟩
  rw [hfa] at a0
  rw [hfe] at e0
  have HF0 : Hid (finP a e' [0, 0] = (fa && fe)) := by
    show (finD a 0 && finD e' 0) = _
    unfold finD
    rw [← HA.out, ← HE.out]
    show (((H.map (·.d))[0]?.map (·.1)).getD false && ((H'.map (·.d))[0]?.map (·.1)).getD false) = _
    rw [List.getElem?_map, List.getElem?_map, hX0, hY0]
    show (X0.d.1 && Y0.d.1) = _
    rw [hfa, hfe]
  have haw : ab < W4.heap.size := by omega
  have hew : eb < W4.heap.size := by omega
  have HST := Lib.hid (state_any W4 w.heap.size p none 0 0 none 0 kb (.map []) GRow.nil [] [] HM4.out (by omega) HT4.out HT.out.lt ⟨some ⟨p + 1, 0, none⟩, 2, [0, 0]⟩ 2 rfl HF4.out (by omega) (fun x hx => by simp at hx; omega))
  clear HB2 hac hec hX0 hY0 hfa hfe HM4
  cases fa
  all_goals
    go_wp2_with fail
    refine (HST.out _).mono ?_
    rintro e w5 ⟨i0, rfl, hk5, ht5, hcase⟩
    have hcase2 : i0 = 0 ∧ ∃ As' cs' At' ct' N', MkR w5 w.heap.size p As' (0 + 1) cs' At' ct' kb N' GRow.nil ([] ++ [⟨(finP a e' [0, 0], []), none, 0⟩]) ([] ++ [⟨some ⟨p + 1, 0, none⟩, 2, [0, 0]⟩]) := by
      rw [HF0.out]
      rcases hcase with ⟨h1, _⟩ | ⟨_, h2, h3⟩
      · cases h1
      · exact ⟨h2, h3⟩
    obtain ⟨rfl, As, cs, At, ct, N, hmk5⟩ := hcase2
    have hFS : Fam w5 w.heap.size ([] ++ ([] ++ [⟨some ⟨p + 1, 0, none⟩, 2, [0, 0]⟩])) := hmk5.g.fam
    have HTI : Hid (TiG w w5 p As 1 cs At ct kb N GRow.nil [⟨(finP a e' [0, 0], []), none, 0⟩] [⟨some ⟨p + 1, 0, none⟩, 2, [0, 0]⟩] [] GRow.nil) := ⟨HB4.out.trans hk5.bel, hmk5, ht5, hFS, GRow.own_nil _ _ _ _⟩
    have HMP : Hid (MadeP (pairW a e') (finP a e') (finP a e') [0, 0] 0 [[0, 0]] [(finP a e' [0, 0], [])]) := MadeP.start _ _ _ _
    have HIN : Hid (∀ s ∈ ([⟨some ⟨p + 1, 0, none⟩, 2, [0, 0]⟩] : List Rw), IsPair n n' s.l) := fun s hs => by
      rw [List.mem_singleton.1 hs]
      exact ⟨0, 0, hnp, hnp', rfl⟩
    have HSH : Hid (∀ k, 0 ≤ k → k < 1 → ∃ s, ([⟨some ⟨p + 1, 0, none⟩, 2, [0, 0]⟩] : List Rw)[k]? = some s ∧ ([⟨(finP a e' [0, 0], []), none, 0⟩] : List Sh)[k]? = some ⟨(finP a e' s.l, []), none, 0⟩) := fun k _ hk => by
      obtain rfl : k = 0 := by omega
      exact ⟨_, rfl, rfl⟩
    clear hcase hmk5 hk5 ht5 HST hFS HT4 HB4 HF4 a0 e0 haw hew HF0 HC0 HC0' hbs4
    go_wp2_with fail
    refine both_i (w := w) (W0 := w5) (B := B) hB ab ao n c H HS eb eo n' c' H' HS' hab heb a e' HA HE HG HG' hln hln' HAL HEL HT hnp hnp' hnm hnm' most HFEW p kb 1 cs ct As At N _ _ (by omega) HTI HMP ⟨HIN.out, HSH.out⟩ _ _ _ _ _ _ _ _ _ _ _ _ _ _ _ _ _ _ _ _ _ _ _ _ _ _ _ _ _ _ _ _ _ _ _ _ _ _ _ _ _ _ _ _ _ _ _ _ _ _ _ _ _ _ _ _ _ _ _ _ _ _ _ _ _ _ _ _ _ _ _ _ _ _ _ _ _ _ _ _ _ _ _ _ _ _ _ _ _ _ _ _ _ _ _ _ _ _ _ _ _ _ _ _ _ _ _ _ _ _ _ _ _ _ _ _ _ _ _ _ _ _ _ _ _ _ _ _ _ _ _ _ _ _ _ _ _ _ _ _ _ _ _ _ _ _ _ (fun c a a' w hd h => by cases a; cases a'; cases hd; exact h) ?_ ?_
    · intro W x9 u10 u11 u12 u14 u16 u17 u18 u43 u44 u45 u46 u47 u48 u49 u50 u51 u52 u53 u54 u55 u56 u57 u58 u59 u60 u61 u62 u63 u64 u65 u66 u67 u68 u69 u70 u71 u72 u73 u74 u75 u76 u77 u78 u79 u80 u81 u82 u83 u84 u85 u86 u87 u88 u89 u90 u91 u92 u93 u94 u95 u96 u97 u98 u99 u100 u101 u102 u103 u104 u105 u106 u107 u108 u109 u110 u111 u112 u113 u114 u115 u116 u117 u118 u119 u120 u121 u122 u123 u124 u125 u126 u127 u128 u129 u130 u131 u132 u133 u134 u135 u136 u137 u138 u139 u140 u141 u142 u143 u144 u145 HLN HB
      clear HTI HMP HIN HSH
      go_wp2_with fail
      go_ret2
      exact .inl ⟨HLN.out, rfl, HB.out⟩
    · intro ns cs ct As At N hs S wr u6 u7 u10 u11 u12 u14 u16 u17 u18 u43 u44 u45 u46 u47 u48 u49 u50 u51 u52 u53 u54 u55 u56 u57 u58 u59 u60 u61 u62 u63 u64 u65 u66 u67 u68 u69 u70 u71 u72 u73 u74 u75 u76 u77 u78 u79 u80 u81 u82 u83 u84 u85 u86 u87 u88 u89 u90 u91 u92 u93 u94 u95 u96 u97 u98 u99 u100 u101 u102 u103 u104 u105 u106 u107 u108 u109 u110 u111 u112 u113 u114 u115 u116 u117 u118 u119 u120 u121 u122 u123 u124 u125 u126 u127 u128 u129 u130 u131 u132 u133 u134 u135 u136 u137 u138 u139 u140 u141 u142 u143 u144 u145 hns HI0 HR HP
      clear HTI HMP HIN HSH
      obtain ⟨m0, m1, m2⟩ := HR.out.mr.g.cells
      have hpl := HR.out.mr.g.lt
      clear m1 m2
      have hml : (S.map (·.l)).length = ns := by rw [List.length_map]; exact HR.out.mr.sl
      have hns1 : 1 ≤ ns := by
        have h1 := run_head (pairW a e') [0, 0] ns
        rw [← HP.out.run] at h1
        have := (List.getElem?_eq_some_iff.1 h1).1
        omega
      have hnm2 : (ns : Int) ≤ most := by
        rcases HI0.out with h1 | h1
        · omega
        · exact h1
      have hns4 : ns ≤ 20000 := by
        have h1 := HFEW.out ns
        rw [← HP.out.run, hml] at h1
        exact h1
      have HGD := Lib.hid (HP.out.good (pairW_plain a e') hml.symm (by omega))
      have HLQ := Lib.hid (HP.out.leq (pairW_plain a e') hml.symm)
      have HFF : Hid (∀ f, (((pairW a e').run f 0 [[0, 0]]).length : Nat) ≤ most) := fun f => by
        have h1 := (HP.out.last (pairW_plain a e') hml.symm).2.2 f
        omega
      have HOS : Hid (OwnSts wr w.heap.size (.slice As ns cs) hs) := ⟨by rw [HR.out.mr.hl]; exact HR.out.mr.g.st, HR.out.mr.g.arcs.tail⟩
      have HSI := Lib.hid (HOS.out.sts HR.out.mr.hl (by omega) (fun x hx => by
        have h1 := HGD.out.asc x.d (List.mem_map_of_mem hx)
        have := asc_few h1
        omega))
      have HTW := Lib.hid HR.out.tab
      have HBW := Lib.hid HR.out.bel
      have HDN : Hid ((hs.map (·.d)).length = ns) := by show _ = _; rw [List.length_map]; exact HR.out.mr.hl
      clear hml HI0 HP HR
      go_wp2_with fail
      refine (dleast_any wr wr.heap.size (Nat.le_refl _) As ns cs hs HSI.out (by omega) HGD.out HTW.out).mono ?_
      rintro e w9 ⟨v9, hs9, rfl, hown9, hl9, hle9, hb9⟩
      have HO9 := Lib.hid hown9
      have HL9 := Lib.hid hl9
      have HB9 := Lib.hid hb9
      clear hown9 hl9 hb9
      go_wp2_with fail
      go_ret2
      exact .inr ⟨HFF.out, v9, hs9, hs.map (·.d), rfl, ⟨own_lower HO9.out.out HBW.out.size, fun z hz => own_lower (HO9.out.fam.own z hz) HBW.out.size, HO9.out.fam.ap⟩, HL9.out, HLQ.out, by rw [HDN.out]; exact hle9, by rw [HDN.out]; omega, bcall HBW.out HB9.out⟩
end Go.Proofs.YtebdffabfimmkaaDoor
/- The reference's Same (glossref08). -/
namespace Go.Proofs.YtebdffabfimmkaaDoor
open Go.RowKit

theorem neq_arc (w : World) (a b : Arc3) : (binOp .neq 41 (.agg #[.int .i64 a.1, .int .i64 a.2.1, .int .i64 a.2.2]) (.agg #[.int .i64 b.1, .int .i64 b.2.1, .int .i64 b.2.2])).run Tryd.prog w = .ok (.bool (!decide (a = b))) w := by
  rw [run_neq_struct, run_equalIn_agg _ _ _ _ _ (by kernel_rfl) (by kernel_rfl)]
  simp [go_sem, Program.fieldsOf, Tryd.underlying41]
  obtain ⟨a1, a2, a3⟩ := a
  obtain ⟨b1, b2, b3⟩ := b
  by_cases h1 : a1 = b1 <;> by_cases h2 : a2 = b2 <;> by_cases h3 : a3 = b3 <;> simp [h1, h2, h3]
theorem gu_arc : Tryd.prog.eqGuardType Tryd.prog.depth 41 = false := by kernel_rfl
set_option maxRecDepth 100000 in
set_option maxHeartbeats 8000000 in
theorem rsame_any (w : World) (B : Nat) (hB : B ≤ w.heap.size) (A A' : Option Addr) (n c n' c' : Nat) (H H' : List Sh) (h : StsIn w B A n c H) (h' : StsIn w B A' n' c' H') :
    Calls Tryd.prog 17 #[.slice A n c, .slice A' n' c'] w fun e w' => e = .returned (.bool (decide (H.map (·.d) = H'.map (·.d)))) ∧ Below w.heap.size w w' := by
  have HS := Lib.hid h
  have HS' := Lib.hid h'
  have hlen := h.len
  have hlen' := h'.len
  have hcm := h.cm
  by_cases hn : n = n'
  rotate_left
  · have HN : Hid (decide (H.map (·.d) = H'.map (·.d)) = false) := decide_eq_false fun e => hn (by have := congrArg List.length e; rw [List.length_map, List.length_map] at this; omega)
    have q1 : ((n : Int) != (n' : Int)) = true := by simp; omega
    have q2 : (n != n') = true := by simp; omega
    clear h h' hn
    go_enter Tryd.func17, Tryd.ntmps17
    go_wp2_with fail
    go_ret
    exact ⟨by rw [HN.out]; rfl, brefl w⟩
  subst hn
  clear h h'
  go_enter Tryd.func17, Tryd.ntmps17
  go_wp2_with fail
  go_loopw [5] (fun iv wr => ∃ k : Nat, k ≤ n ∧ iv = .int .i64 k ∧ Hid ((H.take k).map (·.d) = (H'.take k).map (·.d)) ∧ Hid (Below w.heap.size w wr)) (fun iv _ => n - (intOf iv).toNat)
  case atStart => exact ⟨0, Nat.zero_le _, rfl, rfl, brefl w⟩
  case round =>
    obtain ⟨k, hk, rfl, HL, HB⟩ := hrel
    by_cases hlt : k < n
    · have HW := Lib.hid (HS.out.keep (HB.out.mono hB) (Nat.le_refl _))
      have HW' := Lib.hid (HS'.out.keep (HB.out.mono hB) (Nat.le_refl _))
      obtain ⟨x, hx⟩ : ∃ x, H[k]? = some x := ⟨H[k]'(by omega), List.getElem?_eq_getElem _⟩
      obtain ⟨y, hy⟩ : ∃ y, H'[k]? = some y := ⟨H'[k]'(by omega), List.getElem?_eq_getElem _⟩
      obtain ⟨b, off, rfl, hb, hcell⟩ := HW.out.at_ (by omega)
      obtain ⟨b', off', rfl, hb', hcell'⟩ := HW'.out.at_ (by omega)
      obtain ⟨k0, k1⟩ := hcell k x hx
      obtain ⟨k2, k3⟩ := hcell' k y hy
      have HX := Lib.hid hx
      have HY := Lib.hid hy
      have hxl := (HS.out.ar x (List.mem_of_getElem? hx)).2
      have hyl := (HS'.out.ar y (List.mem_of_getElem? hy)).2
      obtain ⟨m, hm⟩ : ∃ m, x.d.2.length = m := ⟨_, rfl⟩
      obtain ⟨m', hm'⟩ : ∃ m, y.d.2.length = m := ⟨_, rfl⟩
      rw [hm] at k1 hxl
      rw [hm'] at k3 hyl
      have HM := Lib.hid hm
      have HM' := Lib.hid hm'
      obtain ⟨fx, hfx⟩ : ∃ f, x.d.1 = f := ⟨_, rfl⟩
      obtain ⟨fy, hfy⟩ : ∃ f, y.d.1 = f := ⟨_, rfl⟩
      rw [hfx] at k0
      rw [hfy] at k2
      have HF := Lib.hid (And.intro hfx hfy)
      have hNE : x.d ≠ y.d → decide (H.map (·.d) = H'.map (·.d)) = false := fun hne => decide_eq_false fun e => by
        have h1 : (H.map (·.d))[k]? = some x.d := by rw [List.getElem?_map, hx]; rfl
        have h2 : (H'.map (·.d))[k]? = some y.d := by rw [List.getElem?_map, hy]; rfl
        rw [e, h2] at h1
        injection h1 with h1
        exact hne h1.symm
      have HNE := Lib.hid hNE
      clear hcell hcell' hx hy hm hm' hfx hfy hNE
      obtain ⟨hxc, hxm⟩ := hxl
      obtain ⟨hyc, hym⟩ := hyl
      have hcase : (fx = true ∧ fy = false) ∨ (fx = false ∧ fy = true) ∨ (fx = true ∧ fy = true) ∨ (fx = false ∧ fy = false) := by cases fx <;> cases fy <;> simp
      rcases hcase with ⟨rfl, rfl⟩ | ⟨rfl, rfl⟩ | ⟨rfl, rfl⟩ | ⟨rfl, rfl⟩
      · have HN : Hid (decide (H.map (·.d) = H'.map (·.d)) = false) := HNE.out fun e => by
          have h1 := HF.out.1
          rw [e, HF.out.2] at h1
          cases h1
        go_wp2_with fail
        go_region
        all_goals
          go_wp2_with fail
          go_ret
          exact ⟨by rw [HN.out]; rfl, by first | exact HB.out | exact Below.drew HB.out⟩
      · have HN : Hid (decide (H.map (·.d) = H'.map (·.d)) = false) := HNE.out fun e => by
          have h1 := HF.out.1
          rw [e, HF.out.2] at h1
          cases h1
        go_wp2_with fail
        go_region
        all_goals
          go_wp2_with fail
          go_ret
          exact ⟨by rw [HN.out]; rfl, by first | exact HB.out | exact Below.drew HB.out⟩
      all_goals
        by_cases hmm : m = m'
        rotate_left
        · have q2 : ((m : Int) != (m' : Int)) = true := by simp; omega
          have q3 : (m != m') = true := by simpa using hmm
          have HN : Hid (decide (H.map (·.d) = H'.map (·.d)) = false) := HNE.out fun e => hmm (by rw [← HM.out, ← HM'.out, e])
          clear hmm
          go_wp2_with fail
          go_region
          all_goals
            go_wp2_with fail
            go_ret
            exact ⟨by rw [HN.out]; rfl, by first | exact HB.out | exact Below.drew HB.out⟩
        subst hmm
        go_wp2_with fail
        go_region
        have HBD := Lib.hid HB.out.drew
        clear k0 k1 k2 k3 HW HW'
        go_wp2_with fail
        go_loopw [6] (fun gv wj => ∃ g : Nat, g ≤ m ∧ gv = .int .i64 g ∧ Hid (x.d.2.take g = y.d.2.take g) ∧ Hid (Below w.heap.size w wj)) (fun gv _ => m - (intOf gv).toNat)
        case atStart => exact ⟨0, Nat.zero_le _, rfl, rfl, HBD⟩
        case round =>
          clear HBD HB
          obtain ⟨g, hg, rfl, HG, HB⟩ := hrel
          have HW := Lib.hid (HS.out.keep (HB.out.mono hB) (Nat.le_refl _))
          have HW' := Lib.hid (HS'.out.keep (HB.out.mono hB) (Nat.le_refl _))
          obtain ⟨b1, off1, e1, _, hcell⟩ := HW.out.at_ (by omega)
          injection e1 with e1
          injection e1 with e1 e2 _
          subst e1 e2
          obtain ⟨b2, off2, e1, _, hcell'⟩ := HW'.out.at_ (by omega)
          injection e1 with e1
          injection e1 with e1 e2 _
          subst e1 e2
          have k1 := (hcell k x HX.out).2
          have k3 := (hcell' k y HY.out).2
          rw [HM.out] at k1
          rw [HM'.out] at k3
          have hbw : b < wr.heap.size := Nat.lt_of_lt_of_le hb (Nat.le_trans hB HB.out.size)
          have hbw' : b' < wr.heap.size := Nat.lt_of_lt_of_le hb' (Nat.le_trans hB HB.out.size)
          have i0 : (0 : Int) ≤ (k : Int) := by omega
          have i1 : (k : Int) < (n : Int) := by omega
          clear hcell hcell'
          by_cases hgm : g < m
          · obtain ⟨ab, aoff, hxA, hab, hac⟩ := HW.out.arc (List.mem_of_getElem? HX.out) (by rw [HM.out]; omega)
            obtain ⟨ab', aoff', hyA, hab', hac'⟩ := HW'.out.arc (List.mem_of_getElem? HY.out) (by rw [HM'.out]; omega)
            obtain ⟨a, ha⟩ : ∃ a, x.d.2[g]? = some a := ⟨x.d.2[g]'(by rw [HM.out]; exact hgm), List.getElem?_eq_getElem _⟩
            obtain ⟨a', ha'⟩ : ∃ a, y.d.2[g]? = some a := ⟨y.d.2[g]'(by rw [HM'.out]; exact hgm), List.getElem?_eq_getElem _⟩
            obtain ⟨a0, a1, a2⟩ := hac g a ha
            obtain ⟨b0, b1, b2⟩ := hac' g a' ha'
            rw [hxA] at k1
            rw [hyA] at k3
            have habw : ab < wr.heap.size := Nat.lt_of_lt_of_le hab (Nat.le_trans hB HB.out.size)
            have habw' : ab' < wr.heap.size := Nat.lt_of_lt_of_le hab' (Nat.le_trans hB HB.out.size)
            have hnq := fun w => neq_arc w a a'
            have hgu := gu_arc
            have i2 : (0 : Int) ≤ (g : Int) := by omega
            have i3 : (g : Int) < (m : Int) := by omega
            have HA := Lib.hid ha
            have HA' := Lib.hid ha'
            clear hac hac' ha ha' hxA hyA
            by_cases he : a = a'
            · have q2 : (!decide (a = a')) = false := by rw [decide_eq_true he]; rfl
              rw [q2] at hnq
              have HGN : Hid (x.d.2.take (g + 1) = y.d.2.take (g + 1)) := by
                show _ = _
                rw [List.take_add_one, List.take_add_one, HG.out, HA.out, HA'.out, he]
              clear q2 he HA HA'
              obtain ⟨a1', a2', a3'⟩ := a
              obtain ⟨c1', c2', c3'⟩ := a'
              simp only at a0 a1 a2 b0 b1 b2 hnq
              go_wp2_with fail
              go_quiet (fail)
              go_wp2_with fail
              go_roundw
              case rel => exact ⟨g + 1, by omega, by go_num, HGN, Lib.hid (below_drewN HB.out nq)⟩
              case measure => simp [intOf]; omega
            · have q2 : (!decide (a = a')) = true := by rw [decide_eq_false he]; rfl
              rw [q2] at hnq
              have HN : Hid (decide (H.map (·.d) = H'.map (·.d)) = false) := HNE.out fun e => he (by
                have h1 := HA.out
                rw [e, HA'.out] at h1
                injection h1 with h1
                exact h1.symm)
              clear q2 he HA HA' HG
              obtain ⟨a1', a2', a3'⟩ := a
              obtain ⟨c1', c2', c3'⟩ := a'
              simp only at a0 a1 a2 b0 b1 b2 hnq
              go_wp2_with fail
              go_quiet (fail)
              go_wp2_with fail
              go_ret
              exact ⟨by rw [HN.out]; rfl, below_drewN HB.out nq⟩
          · obtain rfl : m = g := by omega
            have HLN : Hid ((H.take (k + 1)).map (·.d) = (H'.take (k + 1)).map (·.d)) := by
              show _ = _
              have h1 := HG.out
              rw [List.take_of_length_le (by rw [HM.out]; exact Nat.le_refl _), List.take_of_length_le (by rw [HM'.out]; exact Nat.le_refl _)] at h1
              have h2 : x.d = y.d := Prod.ext (HF.out.1.trans HF.out.2.symm) h1
              rw [List.take_add_one, List.take_add_one, HX.out, HY.out, List.map_append, List.map_append, HL.out]
              simp [h2]
            clear HG
            go_wp2_with fail
            go_roundw
            case rel => exact ⟨k + 1, by omega, by go_num, HLN, HB⟩
            case measure => simp [intOf]; omega
    · obtain rfl : k = n := by omega
      rw [List.take_of_length_le (by omega), List.take_of_length_le (by omega)] at HL
      have HN : Hid (decide (H.map (·.d) = H'.map (·.d)) = true) := decide_eq_true HL.out
      clear HL
      go_wp2_with fail
      go_ret
      exact ⟨by rw [HN.out]; rfl, HB.out⟩
end Go.Proofs.YtebdffabfimmkaaDoor
/- The reference's grown: one byte more behind arcs. -/
namespace Go.Proofs.YtebdffabfimmkaaDoor
open Go.RowKit

set_option maxRecDepth 100000 in
set_option maxHeartbeats 8000000 in
theorem grown_any (w : World) (base : Nat) (hbase : base ≤ w.heap.size) (A : Option Addr) (n c : Nat) (l : List Arc3) (hown : w.ownsRow base 41 3 (.slice A n c) n (arcsC l)) (hn : n ≤ 1099511627776) (ch tt : Nat) (hlo : ch ≤ 256) (hh : ∀ a ∈ l, 0 ≤ a.2.1 ∧ a.2.1 ≤ 256) :
    Calls Tryd.prog 37 #[.slice A n c, .int .i64 (ch : Int), .int .i64 (tt : Int)] w (JoinPost w base (.slice A n c) (growA l (ch : Int) (tt : Int))) := by
  have hll : l.length = n := by have := hown.1; rw [arcsC_len] at this; omega
  have HO := Lib.hid hown
  have hwr : IntKind.i64.wrap ((ch : Int) - 1) = (ch : Int) - 1 := IntWalk.i64_in _ (by omega)
  by_cases h0 : n = 0
  · subst h0
    have hl0 : l = [] := List.eq_nil_of_length_eq_zero hll
    have HJ : Hid ((growA l (ch : Int) (tt : Int)).length = 0 + 1 ∧ arcsC (growA l (ch : Int) (tt : Int)) = arcsC l ++ [.int .i64 (ch : Int), .int .i64 (ch : Int), .int .i64 (tt : Int)]) := by
      rw [hl0]
      exact ⟨rfl, rfl⟩
    clear hh hl0 hown hll
    go_enter Tryd.func37, Tryd.ntmps37
    go_wp2_with (at_builtin; refine wpList_push w w _ rfl _ _ _ rfl el_arc _ _ _ rfl HO.out rfl (by simp) rfl (by simp [Value.oneCell']) (by unfold maxLen; omega) (by omega) hbase (Below.refl _ _) ?_; intro v9 w9 hown9 _ hg9 hor9; have HO9 := Lib.hid hown9; have HG9 := Lib.hid hg9; have HR9 := Lib.hid hor9; clear hown9 hg9 hor9)
    go_ret
    exact ⟨v9, rfl, by rw [HJ.out.1, HJ.out.2]; exact HO9.out, HG9.out, HR9.out⟩
  obtain ⟨m, b, rfl⟩ : ∃ m b, l = m ++ [b] := ⟨l.dropLast, l.getLast (by intro e; rw [e] at hll; exact h0 hll.symm), (List.dropLast_concat_getLast _).symm⟩
  rw [List.length_append, List.length_singleton] at hll
  have hb := hh b (by simp)
  obtain ⟨k, hk⟩ : ∃ k, m.length = k := ⟨_, rfl⟩
  have hidx : (n : Int) - 1 = (k : Int) := by omega
  obtain ⟨g, rfl, hbg, hgl⟩ := own_head HO.out (by omega)
  have hcell : ∀ j u, (arcC b)[j]? = some u → j < 3 → w.cell? ⟨g, k * 3 + j, none⟩ = some u := fun j u hu hj => by
    have := HO.out.cells (g := g) rfl (k * 3 + j) u (by unfold arcsC; rw [flat_at arcC 3 (fun _ => rfl) (m ++ [b]) k j b (by rw [← hk]; simp) hj]; exact hu)
    rwa [Addr.add_lit, Nat.zero_add] at this
  have f1 := hcell 1 _ rfl (by omega)
  have f2 := hcell 2 _ rfl (by omega)
  have hfr : w.frozen? ⟨g, k * 3 + 1, none⟩ = false := by
    rcases HO.out.2 with ⟨hv, _⟩ | ⟨g', cap, cur, hv, _, hg, _⟩
    · cases hv
    · injection hv with hv _ _
      injection hv with hv
      injection hv with hv _ _
      subst hv
      exact free_at hg _
  have i0 : (0 : Int) ≤ (k : Int) := by omega
  have i1 : (k : Int) < (n : Int) := by omega
  have q0 : decide ((k : Int) ≥ 0) = true := decide_eq_true (by omega)
  have HLAST : (m ++ [b]).getLast? = some b := by simp
  obtain ⟨blo, bhi, bto⟩ := b
  simp only at hb hcell f1 f2 HLAST
  clear hown hh hcell
  by_cases hj : bhi + 1 = (ch : Int) ∧ bto = (tt : Int)
  · have HJ : Hid (growA (m ++ [(blo, bhi, bto)]) (ch : Int) (tt : Int) = m ++ [(blo, (ch : Int), (tt : Int))]) := by
      show _ = _
      unfold growA
      rw [HLAST]
      simp only
      rw [if_pos hj, List.dropLast_concat]
    have q1 : (bto == (tt : Int)) = true := by simpa using hj.2
    have q2 : (bhi == (ch : Int) - 1) = true := by simpa using show bhi = (ch : Int) - 1 by omega
    have HSET : Hid ((w.setCell ⟨g, k * 3 + 1, none⟩ (.int .i64 (ch : Int))).ownsRow base 41 3 (.slice (some ⟨g, 0, none⟩) n c) n (arcsC (m ++ [(blo, (ch : Int), (tt : Int))]))) := by
      have h1 := own_put (j := k * 3 + 1) (u := .int .i64 (ch : Int)) HO.out
      have h2 : (arcsC (m ++ [(blo, bhi, bto)])).set (k * 3 + 1) (.int .i64 (ch : Int)) = arcsC (m ++ [(blo, (ch : Int), (tt : Int))]) := by
        rw [arcsC_app, arcsC_app, List.set_append, if_neg (by rw [arcsC_len]; omega), arcsC_len, hk, Nat.add_sub_cancel_left, ← hj.2]
        rfl
      rw [h2] at h1
      exact h1
    have HLN : Hid ((m ++ [(blo, (ch : Int), (tt : Int))]).length = n) := by show _ = _; rw [List.length_append, List.length_singleton]; omega
    have HGS : Hid (w.grownBy (w.setCell ⟨g, k * 3 + 1, none⟩ (.int .i64 (ch : Int))) (Value.slice (some ⟨g, 0, none⟩) n c).ownBlock) := set_grown _ ⟨g, k * 3 + 1, none⟩ _
    clear hj HLAST hll hk
    go_enter Tryd.func37, Tryd.ntmps37
    go_wp2_with fail
    go_ret
    exact ⟨_, rfl, by rw [HJ.out, HLN.out]; exact HSET.out, HGS.out, .inl rfl⟩
  · have HJ : Hid ((growA (m ++ [(blo, bhi, bto)]) (ch : Int) (tt : Int)).length = n + 1 ∧ arcsC (growA (m ++ [(blo, bhi, bto)]) (ch : Int) (tt : Int)) = arcsC (m ++ [(blo, bhi, bto)]) ++ [.int .i64 (ch : Int), .int .i64 (ch : Int), .int .i64 (tt : Int)]) := by
      have e : growA (m ++ [(blo, bhi, bto)]) (ch : Int) (tt : Int) = m ++ [(blo, bhi, bto)] ++ [((ch : Int), (ch : Int), (tt : Int))] := by
        unfold growA
        rw [HLAST]
        simp only
        rw [if_neg hj]
      rw [e, arcsC_app]
      exact ⟨by rw [List.length_append, List.length_append]; simp only [List.length_singleton]; omega, rfl⟩
    by_cases hj1 : bhi = (ch : Int) - 1
    · have q1 : (bto == (tt : Int)) = false := by simpa using fun e => hj ⟨by omega, e⟩
      have q2 : (bhi == (ch : Int) - 1) = true := by simpa using hj1
      clear hj HLAST hll hk hj1 hfr
      go_enter Tryd.func37, Tryd.ntmps37
      go_wp2_with (at_builtin; refine wpList_push w w _ rfl _ _ _ rfl el_arc _ _ _ rfl HO.out rfl (by simp) rfl (by simp [Value.oneCell']) (by unfold maxLen; omega) (by omega) hbase (Below.refl _ _) ?_; intro v9 w9 hown9 _ hg9 hor9; have HO9 := Lib.hid hown9; have HG9 := Lib.hid hg9; have HR9 := Lib.hid hor9; clear hown9 hg9 hor9)
      go_ret
      exact ⟨v9, rfl, by rw [HJ.out.1, HJ.out.2]; exact HO9.out, HG9.out, HR9.out⟩
    · have q2 : (bhi == (ch : Int) - 1) = false := by simpa using hj1
      clear hj HLAST hll hk hj1 hfr
      go_enter Tryd.func37, Tryd.ntmps37
      go_wp2_with (at_builtin; refine wpList_push w w _ rfl _ _ _ rfl el_arc _ _ _ rfl HO.out rfl (by simp) rfl (by simp [Value.oneCell']) (by unfold maxLen; omega) (by omega) hbase (Below.refl _ _) ?_; intro v9 w9 hown9 _ hg9 hor9; have HO9 := Lib.hid hown9; have HG9 := Lib.hid hg9; have HR9 := Lib.hid hor9; clear hown9 hg9 hor9)
      go_ret
      exact ⟨v9, rfl, by rw [HJ.out.1, HJ.out.2]; exact HO9.out, HG9.out, HR9.out⟩
end Go.Proofs.YtebdffabfimmkaaDoor
