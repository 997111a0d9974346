/- dfa.Both. -/
import Derived.Test.YtebdffabfimmkaaDoorHDfaTakes40
import Derived.Test.YtebdffabfimmkaaDoorHDfaTakes17
import Derived.Test.YtebdffabfimmkaaDoorHDfaTakes9
import Derived.Test.YtebdffabfimmkaaDoorHDfaTakes34
namespace Go.Proofs.YtebdffabfimmkaaDoor
open Go.RowKit Go.Maps

set_option maxRecDepth 100000 in
set_option maxHeartbeats 8000000 in
theorem both_any (w : World) (B : Nat) (hB : B ≤ w.heap.size) (A : Option Addr) (n c : Nat) (H : List Sh) (h : StsIn w B A n c H) (A' : Option Addr) (n' c' : Nat) (H' : List Sh) (h' : StsIn w B A' n' c' H') (hg : Good (H.map (·.d))) (hg' : Good (H'.map (·.d))) (hfew : n * n' ≤ 20000) (most : Int) (ht : Tab w) :
    Calls Tryd.prog 21 #[.slice A n c, .slice A' n' c', .int .i64 most] w fun e w' =>
      ((∃ f, most < (((pairW (H.map (·.d)) (H'.map (·.d))).run f 0 [[0, 0]]).length : Nat)) ∧ e = .returned (.tuple #[.slice none 0 0, .int .i64 8]) ∧ Below w.heap.size w w') ∨
      ((∀ f, (((pairW (H.map (·.d)) (H'.map (·.d))).run f 0 [[0, 0]]).length : Nat) ≤ most) ∧ ∃ v hs d, e = .returned (.tuple #[v, .int .i64 0]) ∧ OwnSts w' w.heap.size v hs ∧ LeastIs (auOf d) 0 (hs.map (·.d)) ∧ Leq (auOf d) 0 ⟨finP (H.map (·.d)) (H'.map (·.d)), stepP (H.map (·.d)) (H'.map (·.d))⟩ [0, 0] ∧ hs.length ≤ d.length ∧ d.length ≤ 20000 ∧ Below w.heap.size w w') := by
  have HS := Lib.hid h
  have HS' := Lib.hid h'
  have HC0 : Hid (checkE (H.map (·.d)) = 0) := (good_iff _).2 hg
  have HC0' : Hid (checkE (H'.map (·.d)) = 0) := (good_iff _).2 hg'
  have hmk := @run_makeMap Tryd.prog
  obtain ⟨a, ha⟩ : ∃ l, H.map (·.d) = l := ⟨_, rfl⟩
  obtain ⟨e', he'⟩ : ∃ l, H'.map (·.d) = l := ⟨_, rfl⟩
  have HA := Lib.hid ha
  have HE := Lib.hid he'
  rw [ha] at hg HC0
  rw [he'] at hg' HC0'
  rw [ha, he']
  have HG := Lib.hid hg
  have HG' := Lib.hid hg'
  have hln : H.length = n := h.len
  have hln' : H'.length = n' := h'.len
  have hal : a.length = n := by rw [← ha, List.length_map]; exact h.len
  have hel : e'.length = n' := by rw [← he', List.length_map]; exact h'.len
  have HFEW : Hid (∀ f, ((pairW a e').run f 0 [[0, 0]]).length ≤ 20000) := fun f => Nat.le_trans (pair_few hg hg' f) (by rw [hal, hel]; exact hfew)
  have hnp : 0 < n := by rw [← hal]; exact List.length_pos_iff.2 hg.ne
  have hnp' : 0 < n' := by rw [← hel]; exact List.length_pos_iff.2 hg'.ne
  have hnm : n ≤ 20000 := by rw [← hal]; exact hg.few
  have hnm' : n' ≤ 20000 := by rw [← hel]; exact hg'.few
  have HT := Lib.hid ht
  have HAL := Lib.hid hal
  have HEL := Lib.hid hel
  clear h h' hg hg' ht ha he' hal hel hfew
  go_enter Tryd.func21, Tryd.ntmps21
  go_wp2_with fail
  refine (dcheck_any w B hB A n c H HS.out).mono ?_
  rintro e w1 ⟨rfl, hb1⟩
  rw [HA.out, HC0.out]
  have HB1 := Lib.hid hb1
  have HS1 := Lib.hid (HS'.out.keep (hb1.mono hB) (Nat.le_refl _))
  clear hb1
  go_wp2_with fail
  refine (dcheck_any w1 B (Nat.le_trans hB HB1.out.size) A' n' c' H' HS1.out).mono ?_
  rintro e w2 ⟨rfl, hb2⟩
  rw [HE.out, HC0'.out]
  have HB2 := Lib.hid (bcall HB1.out hb2)
  have HMS := Lib.hid (MkG.start HB2.out rfl rfl)
  clear hb2 HS1 HB1
  go_wp2_with fail
  have HB3 := Lib.hid (bnew (bnew HB2.out (.map #[] 0)) (.cells #[.slice none 0 0, .map (some w2.heap.size), .slice none 0 0, .int .i64 0] 62))
  have hsz2 : ((w2.alloc (.map #[] 0)).alloc (.cells #[.slice none 0 0, .map (some w2.heap.size), .slice none 0 0, .int .i64 0] 62)).heap.size = w2.heap.size + 1 + 1 := by simp
  obtain ⟨p, hp⟩ : ∃ p, w2.heap.size + 1 = p := ⟨_, rfl⟩
  obtain ⟨kb, hkb⟩ : ∃ p, w2.heap.size = p := ⟨_, rfl⟩
  rw [hkb] at HMS HB3 hsz2 hp
  rw [hp] at HMS hsz2
  rw [hkb, hp]
  have hpw : w.heap.size ≤ p := by have := HB2.out.size; omega
  generalize (w2.alloc (.map #[] 0)).alloc (.cells #[.slice none 0 0, .map (some kb), .slice none 0 0, .int .i64 0] 62) = W2 at *
  have HB4 := Lib.hid (bnew HB3.out (.cells #[.int .i64 0, .int .i64 0] 3))
  have hO4 : (W2.alloc (.cells #[.int .i64 0, .int .i64 0] 3)).ownsRow (p + 1) 3 1 (.slice (some ⟨p + 1, 0, none⟩) 2 2) 2 (([0, 0] : List Int).map (.int .i64)) := own_new W2 #[.int .i64 0, .int .i64 0] 3 1 2 rfl (by unfold maxLen; omega) hsz2.symm (by omega)
  have HM4 := Lib.hid (HMS.out.keep (bnew (brefl W2) (.cells #[.int .i64 0, .int .i64 0] 3)))
  have hF4 : Fam (W2.alloc (.cells #[.int .i64 0, .int .i64 0] 3)) w.heap.size ([] ++ [⟨some ⟨p + 1, 0, none⟩, 2, [0, 0]⟩]) := ⟨fun x hx => by
    rw [List.mem_singleton.1 hx]
    exact own_lower hO4 (by omega), List.pairwise_singleton _ _⟩
  have HF4 := Lib.hid hF4
  have hbs4 := HB4.out.size
  clear hO4 hF4 hsz2 hmk HB3 HMS hp hkb
  generalize W2.alloc (.cells #[.int .i64 0, .int .i64 0] 3) = W4 at *
  have HT4 := Lib.hid (HT.out.below HB4.out)
  obtain ⟨ab, ao, rfl, hab, hac⟩ := (HS.out.keep (HB4.out.mono hB) (Nat.le_refl _)).at_ hnp
  obtain ⟨eb, eo, rfl, heb, hec⟩ := (HS'.out.keep (HB4.out.mono hB) (Nat.le_refl _)).at_ hnp'
  obtain ⟨X0, hX0⟩ : ∃ X, H[0]? = some X := ⟨H[0]'(by omega), List.getElem?_eq_getElem _⟩
  obtain ⟨Y0, hY0⟩ : ∃ X, H'[0]? = some X := ⟨H'[0]'(by omega), List.getElem?_eq_getElem _⟩
  have a0 := (hac 0 X0 hX0).1
  have e0 := (hec 0 Y0 hY0).1
  rw [Nat.zero_mul, Nat.add_zero] at a0 e0
  obtain ⟨fa, hfa⟩ : ∃ f, X0.d.1 = f := ⟨_, rfl⟩
  obtain ⟨fe, hfe⟩ : ∃ f, Y0.d.1 = f := ⟨_, rfl⟩
  rw [hfa] at a0
  rw [hfe] at e0
  have HF0 : Hid (finP a e' [0, 0] = (fa && fe)) := by
    show (finD a 0 && finD e' 0) = _
    unfold finD
    rw [← HA.out, ← HE.out]
    show (((H.map (·.d))[0]?.map (·.1)).getD false && ((H'.map (·.d))[0]?.map (·.1)).getD false) = _
    rw [List.getElem?_map, List.getElem?_map, hX0, hY0]
    show (X0.d.1 && Y0.d.1) = _
    rw [hfa, hfe]
  have haw : ab < W4.heap.size := by omega
  have hew : eb < W4.heap.size := by omega
  have HST := Lib.hid (state_any W4 w.heap.size p none 0 0 none 0 kb (.map []) GRow.nil [] [] HM4.out (by omega) HT4.out HT.out.lt ⟨some ⟨p + 1, 0, none⟩, 2, [0, 0]⟩ 2 rfl HF4.out (by omega) (fun x hx => by simp at hx; omega))
  clear HB2 hac hec hX0 hY0 hfa hfe HM4
  cases fa
  all_goals
    go_wp2_with fail
    refine (HST.out _).mono ?_
    rintro e w5 ⟨i0, rfl, hk5, ht5, hcase⟩
    have hcase2 : i0 = 0 ∧ ∃ As' cs' At' ct' N', MkR w5 w.heap.size p As' (0 + 1) cs' At' ct' kb N' GRow.nil ([] ++ [⟨(finP a e' [0, 0], []), none, 0⟩]) ([] ++ [⟨some ⟨p + 1, 0, none⟩, 2, [0, 0]⟩]) := by
      rw [HF0.out]
      rcases hcase with ⟨h1, _⟩ | ⟨_, h2, h3⟩
      · cases h1
      · exact ⟨h2, h3⟩
    obtain ⟨rfl, As, cs, At, ct, N, hmk5⟩ := hcase2
    have hFS : Fam w5 w.heap.size ([] ++ ([] ++ [⟨some ⟨p + 1, 0, none⟩, 2, [0, 0]⟩])) := hmk5.g.fam
    have HTI : Hid (TiG w w5 p As 1 cs At ct kb N GRow.nil [⟨(finP a e' [0, 0], []), none, 0⟩] [⟨some ⟨p + 1, 0, none⟩, 2, [0, 0]⟩] [] GRow.nil) := ⟨HB4.out.trans hk5.bel, hmk5, ht5, hFS, GRow.own_nil _ _ _ _⟩
    have HMP : Hid (MadeP (pairW a e') (finP a e') (finP a e') [0, 0] 0 [[0, 0]] [(finP a e' [0, 0], [])]) := MadeP.start _ _ _ _
    have HIN : Hid (∀ s ∈ ([⟨some ⟨p + 1, 0, none⟩, 2, [0, 0]⟩] : List Rw), IsPair n n' s.l) := fun s hs => by
      rw [List.mem_singleton.1 hs]
      exact ⟨0, 0, hnp, hnp', rfl⟩
    have HSH : Hid (∀ k, 0 ≤ k → k < 1 → ∃ s, ([⟨some ⟨p + 1, 0, none⟩, 2, [0, 0]⟩] : List Rw)[k]? = some s ∧ ([⟨(finP a e' [0, 0], []), none, 0⟩] : List Sh)[k]? = some ⟨(finP a e' s.l, []), none, 0⟩) := fun k _ hk => by
      obtain rfl : k = 0 := by omega
      exact ⟨_, rfl, rfl⟩
    clear hcase hmk5 hk5 ht5 HST hFS HT4 HB4 HF4 a0 e0 haw hew HF0 HC0 HC0' hbs4
    go_wp2_with fail
    refine both_i (w := w) (W0 := w5) (B := B) hB ab ao n c H HS eb eo n' c' H' HS' hab heb a e' HA HE HG HG' hln hln' HAL HEL HT hnp hnp' hnm hnm' most HFEW p kb 1 cs ct As At N _ _ (by omega) HTI HMP ⟨HIN.out, HSH.out⟩ _ _ _ _ _ _ _ _ _ _ _ _ _ _ _ _ _ _ _ _ _ _ _ _ _ _ _ _ _ _ _ _ _ _ _ _ _ _ _ _ _ _ _ _ _ _ _ _ _ _ _ _ _ _ _ _ _ _ _ _ _ _ _ _ _ _ _ _ _ _ _ _ _ _ _ _ _ _ _ _ _ _ _ _ _ _ _ _ _ _ _ _ _ _ _ _ _ _ _ _ _ _ _ _ _ _ _ _ _ _ _ _ _ _ _ _ _ _ _ _ _ _ _ _ _ _ _ _ _ _ _ _ _ _ _ _ _ _ _ _ _ _ _ _ _ _ _ (fun c a a' w hd h => by cases a; cases a'; cases hd; exact h) ?_ ?_
    · intro W x9 u10 u11 u12 u14 u16 u17 u18 u43 u44 u45 u46 u47 u48 u49 u50 u51 u52 u53 u54 u55 u56 u57 u58 u59 u60 u61 u62 u63 u64 u65 u66 u67 u68 u69 u70 u71 u72 u73 u74 u75 u76 u77 u78 u79 u80 u81 u82 u83 u84 u85 u86 u87 u88 u89 u90 u91 u92 u93 u94 u95 u96 u97 u98 u99 u100 u101 u102 u103 u104 u105 u106 u107 u108 u109 u110 u111 u112 u113 u114 u115 u116 u117 u118 u119 u120 u121 u122 u123 u124 u125 u126 u127 u128 u129 u130 u131 u132 u133 u134 u135 u136 u137 u138 u139 u140 u141 u142 u143 u144 u145 HLN HB
      clear HTI HMP HIN HSH
      go_wp2_with fail
      go_ret2
      exact .inl ⟨HLN.out, rfl, HB.out⟩
    · intro ns cs ct As At N hs S wr u6 u7 u10 u11 u12 u14 u16 u17 u18 u43 u44 u45 u46 u47 u48 u49 u50 u51 u52 u53 u54 u55 u56 u57 u58 u59 u60 u61 u62 u63 u64 u65 u66 u67 u68 u69 u70 u71 u72 u73 u74 u75 u76 u77 u78 u79 u80 u81 u82 u83 u84 u85 u86 u87 u88 u89 u90 u91 u92 u93 u94 u95 u96 u97 u98 u99 u100 u101 u102 u103 u104 u105 u106 u107 u108 u109 u110 u111 u112 u113 u114 u115 u116 u117 u118 u119 u120 u121 u122 u123 u124 u125 u126 u127 u128 u129 u130 u131 u132 u133 u134 u135 u136 u137 u138 u139 u140 u141 u142 u143 u144 u145 hns HI0 HR HP
      clear HTI HMP HIN HSH
      obtain ⟨m0, m1, m2⟩ := HR.out.mr.g.cells
      have hpl := HR.out.mr.g.lt
      clear m1 m2
      have hml : (S.map (·.l)).length = ns := by rw [List.length_map]; exact HR.out.mr.sl
      have hns1 : 1 ≤ ns := by
        have h1 := run_head (pairW a e') [0, 0] ns
        rw [← HP.out.run] at h1
        have := (List.getElem?_eq_some_iff.1 h1).1
        omega
      have hnm2 : (ns : Int) ≤ most := by
        rcases HI0.out with h1 | h1
        · omega
        · exact h1
      have hns4 : ns ≤ 20000 := by
        have h1 := HFEW.out ns
        rw [← HP.out.run, hml] at h1
        exact h1
      have HGD := Lib.hid (HP.out.good (pairW_plain a e') hml.symm (by omega))
      have HLQ := Lib.hid (HP.out.leq (pairW_plain a e') hml.symm)
      have HFF : Hid (∀ f, (((pairW a e').run f 0 [[0, 0]]).length : Nat) ≤ most) := fun f => by
        have h1 := (HP.out.last (pairW_plain a e') hml.symm).2.2 f
        omega
      have HOS : Hid (OwnSts wr w.heap.size (.slice As ns cs) hs) := ⟨by rw [HR.out.mr.hl]; exact HR.out.mr.g.st, HR.out.mr.g.arcs.tail⟩
      have HSI := Lib.hid (HOS.out.sts HR.out.mr.hl (by omega) (fun x hx => by
        have h1 := HGD.out.asc x.d (List.mem_map_of_mem hx)
        have := asc_few h1
        omega))
      have HTW := Lib.hid HR.out.tab
      have HBW := Lib.hid HR.out.bel
      have HDN : Hid ((hs.map (·.d)).length = ns) := by show _ = _; rw [List.length_map]; exact HR.out.mr.hl
      clear hml HI0 HP HR
      go_wp2_with fail
      refine (dleast_any wr wr.heap.size (Nat.le_refl _) As ns cs hs HSI.out (by omega) HGD.out HTW.out).mono ?_
      rintro e w9 ⟨v9, hs9, rfl, hown9, hl9, hle9, hb9⟩
      have HO9 := Lib.hid hown9
      have HL9 := Lib.hid hl9
      have HB9 := Lib.hid hb9
      clear hown9 hl9 hb9
      go_wp2_with fail
      go_ret2
      exact .inr ⟨HFF.out, v9, hs9, hs.map (·.d), rfl, ⟨own_lower HO9.out.out HBW.out.size, fun z hz => own_lower (HO9.out.fam.own z hz) HBW.out.size, HO9.out.fam.ap⟩, HL9.out, HLQ.out, by rw [HDN.out]; exact hle9, by rw [HDN.out]; omega, bcall HBW.out HB9.out⟩
end Go.Proofs.YtebdffabfimmkaaDoor
/- The least automaton takes what its state takes, and is an automaton (plain Lean). -/
namespace Go.Proofs.YtebdffabfimmkaaDoor

/-- States that take nothing need not be entered. -/
theorem acc_live {σ : Type} (M : Au σ) : ∀ (s : List Nat) (x : σ), (⟨M.fin, M.stepL⟩ : Au σ).acc x s = M.acc x s
  | [], x => rfl
  | c :: r, x => by
    rw [Au.acc, Au.acc]
    by_cases hc : c < 256
    · rw [if_pos hc, if_pos hc]
      show (match M.stepL x c with | some y => _ | none => _) = _
      unfold Au.stepL
      cases hx : M.step x c with
      | none => rfl
      | some y =>
        simp only
        by_cases hl : M.live y
        · rw [if_pos hl]
          exact acc_live M r y
        · rw [if_neg hl]
          simp only
          cases ha : M.acc y r with
          | false => rfl
          | true => exact absurd ⟨r, ha⟩ hl
    · rw [if_neg hc, if_neg hc]
open Classical in
theorem LeastIs.leq {σ : Type} {M : Au σ} {x : σ} {out : List St} (h : LeastIs M x out) : Leq (auOf out) 0 M x := by
  rcases h with ⟨hl, r, hr, f, hf, rfl⟩ | ⟨hl, rfl⟩
  · intro s
    have hrefl : ∀ y, (leastW M r).eqv ((leastW M r).rep y) y = true := fun y => decide_eq_true (hr y)
    have hh := run_head (leastW M r) x f
    have := out_leq (leastW M r) M.fin (met := (leastW M r).run f 0 [x]) (fun z y hzy => fun s => by
      have hzy : Leq M z M y := of_decide_eq_true hzy
      exact (acc_live M s z).trans ((hzy s).trans (acc_live M s y).symm)) (fun y hy => by
      obtain ⟨j, hj⟩ := List.mem_iff_getElem?.1 hy
      have h1 := (List.getElem?_eq_some_iff.1 hj).1
      have h2 := List.getElem?_eq_none_iff.1 hf
      exact Bfs.run_met _ hrefl x f j y (by omega) hj) s 0 x hh
    exact this.trans (acc_live M s x)
  · intro s
    have : M.acc x s = false := by
      cases ha : M.acc x s with
      | false => rfl
      | true => exact absurd ⟨s, ha⟩ hl
    rw [this]
    cases s with
    | nil => rfl
    | cons c r =>
      rw [Au.acc]
      split
      · rfl
      · rfl
theorem LeastIs.ne {σ : Type} {M : Au σ} {x : σ} {out : List St} (h : LeastIs M x out) : 0 < out.length := by
  rcases h with ⟨hl, r, hr, f, hf, rfl⟩ | ⟨hl, rfl⟩
  · have hh := (List.getElem?_eq_some_iff.1 (run_head (leastW M r) x f)).1
    unfold leastOf Bfs.out
    rw [List.length_map]
    exact hh
  · exact Nat.zero_lt_one
theorem LeastIs.good {σ : Type} {M : Au σ} {x : σ} {out : List St} (h : LeastIs M x out) (hl : out.length ≤ 20000) : Good out := by
  have hn := h.ne
  rcases h with ⟨_, r, hr, f, hf, rfl⟩ | ⟨_, rfl⟩
  · have hh := (List.getElem?_eq_some_iff.1 (run_head (leastW M r) x f)).1
    refine out_good _ _ (fun e => ?_) (by unfold leastOf Bfs.out at hl; rwa [List.length_map] at hl)
    rw [e] at hh
    cases hh
  · exact (good_iff _).1 (by decide)
end Go.Proofs.YtebdffabfimmkaaDoor
/- dfa.Least; dfa.Both of what is no automaton. -/
namespace Go.Proofs.YtebdffabfimmkaaDoor
open Go.RowKit Go.Maps

set_option maxRecDepth 100000 in
set_option maxHeartbeats 8000000 in
theorem oleast_any (w : World) (B : Nat) (hB : B ≤ w.heap.size) (A : Option Addr) (n c : Nat) (H : List Sh) (h : StsIn w B A n c H) (hg : Good (H.map (·.d))) (ht : Tab w) :
    Calls Tryd.prog 23 #[.slice A n c] w fun e w' => ∃ v hs, e = .returned (.tuple #[v, .int .i64 0]) ∧ OwnSts w' w.heap.size v hs ∧ LeastIs (auOf (H.map (·.d))) 0 (hs.map (·.d)) ∧ hs.length ≤ n ∧ Below w.heap.size w w' := by
  have HS := Lib.hid h
  have HC0 : Hid (checkE (H.map (·.d)) = 0) := (good_iff _).2 hg
  have HG := Lib.hid hg
  have HT := Lib.hid ht
  have hnp : 0 < n := by rw [← h.len, ← List.length_map (f := (·.d))]; exact List.length_pos_iff.2 hg.ne
  clear h hg ht
  go_enter Tryd.func23, Tryd.ntmps23
  go_wp2_with fail
  refine (dcheck_any w B hB A n c H HS.out).mono ?_
  rintro e w1 ⟨rfl, hb1⟩
  rw [HC0.out]
  have HB1 := Lib.hid hb1
  clear hb1
  go_wp2_with fail
  refine (dleast_any w1 B (Nat.le_trans hB HB1.out.size) A n c H (HS.out.keep (HB1.out.mono hB) (Nat.le_refl _)) hnp HG.out (HT.out.below HB1.out)).mono ?_
  rintro e w2 ⟨v, hs, rfl, hown, hl, hle, hb2⟩
  have HO := Lib.hid hown
  have HL := Lib.hid hl
  have HB2 := Lib.hid hb2
  clear hown hl hb2
  go_wp2_with fail
  go_ret2
  exact ⟨v, hs, rfl, ⟨own_lower HO.out.out HB1.out.size, fun z hz => own_lower (HO.out.fam.own z hz) HB1.out.size, HO.out.fam.ap⟩, HL.out, hle, bcall HB1.out HB2.out⟩
set_option maxRecDepth 100000 in
set_option maxHeartbeats 8000000 in
theorem oleast_bad (w : World) (B : Nat) (hB : B ≤ w.heap.size) (A : Option Addr) (n c : Nat) (H : List Sh) (h : StsIn w B A n c H) (hg : checkE (H.map (·.d)) ≠ 0) :
    Calls Tryd.prog 23 #[.slice A n c] w fun e w' => e = .returned (.tuple #[.slice none 0 0, .int .i64 3]) ∧ Below w.heap.size w w' := by
  have HS := Lib.hid h
  obtain ⟨ck, hck⟩ : ∃ k, checkE (H.map (·.d)) = k := ⟨_, rfl⟩
  have HC := Lib.hid hck
  rw [hck] at hg
  have q : (ck == 0) = false := by simpa using hg
  clear h hck hg
  go_enter Tryd.func23, Tryd.ntmps23
  go_wp2_with fail
  refine (dcheck_any w B hB A n c H HS.out).mono ?_
  rintro e w1 ⟨rfl, hb1⟩
  rw [HC.out]
  have HB1 := Lib.hid hb1
  clear hb1
  go_wp2_with fail
  go_ret2
  exact ⟨rfl, HB1.out⟩
end Go.Proofs.YtebdffabfimmkaaDoor
