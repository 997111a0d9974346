/- The reference's Both. -/
import Derived.Test.YtebdffabfimmkaaDoorHDfaTight30
import Derived.Test.YtebdffabfimmkaaDoorHDfaTight25
namespace Go.Proofs.YtebdffabfimmkaaDoor
open Go.RowKit Go.Maps

set_option maxRecDepth 100000 in
set_option maxHeartbeats 8000000 in
theorem refboth_bad (w : World) (B : Nat) (hB : B ≤ w.heap.size) (A : Option Addr) (n c : Nat) (H : List Sh) (h : StsIn w B A n c H) (A' : Option Addr) (n' c' : Nat) (H' : List Sh) (h' : StsIn w B A' n' c' H') (hg : checkE (H.map (·.d)) ≠ 0 ∨ checkE (H'.map (·.d)) ≠ 0) (most : Int) :
    Calls Tryd.prog 22 #[.slice A n c, .slice A' n' c', .int .i64 most] w fun e w' => e = .returned (.tuple #[.slice none 0 0, .int .i64 3]) ∧ Below w.heap.size w w' := by
  have HS := Lib.hid h
  have HS' := Lib.hid h'
  obtain ⟨ck, hck⟩ : ∃ k, checkE (H.map (·.d)) = k := ⟨_, rfl⟩
  obtain ⟨ck', hck'⟩ : ∃ k, checkE (H'.map (·.d)) = k := ⟨_, rfl⟩
  have HC := Lib.hid hck
  have HC' := Lib.hid hck'
  rw [hck, hck'] at hg
  have HOR := Lib.hid hg
  clear h h' hck hck' hg
  by_cases h0 : ck = 0
  · subst h0
    have hne : ck' ≠ 0 := HOR.out.elim (fun h => absurd rfl h) id
    have q : (ck' == 0) = false := by simpa using hne
    have q1 : (ck' != 0) = true := by simpa using hne
    clear hne HOR
    go_enter Tryd.func22, Tryd.ntmps22
    go_wp2_with fail
    refine (rcheck_any w B hB A n c H HS.out).mono ?_
    rintro e w1 ⟨rfl, hb1⟩
    rw [HC.out]
    have HB1 := Lib.hid hb1
    clear hb1
    go_wp2_with fail
    refine (rcheck_any w1 B (Nat.le_trans hB HB1.out.size) A' n' c' H' (HS'.out.keep (HB1.out.mono hB) (Nat.le_refl _))).mono ?_
    rintro e w2 ⟨rfl, hb2⟩
    rw [HC'.out]
    have HB2 := Lib.hid (bcall HB1.out hb2)
    clear hb2
    go_wp2_with fail
    go_ret2
    exact ⟨rfl, HB2.out⟩
  · have q : (ck == 0) = false := by simpa using h0
    have q1 : (ck != 0) = true := by simpa using h0
    clear h0 HOR
    go_enter Tryd.func22, Tryd.ntmps22
    go_wp2_with fail
    refine (rcheck_any w B hB A n c H HS.out).mono ?_
    rintro e w1 ⟨rfl, hb1⟩
    rw [HC.out]
    have HB1 := Lib.hid hb1
    clear hb1
    go_wp2_with fail
    go_ret2
    exact ⟨rfl, HB1.out⟩
theorem pair_in {a e : List St} (ha : Good a) (he : Good e) {i : Nat} {ps : List (Nat × Nat)} (h : ps.map pairL = (pairW a e).run i 0 [[0, 0]]) {p : Nat × Nat} (hp : p ∈ ps) : p.1 < a.length ∧ p.2 < e.length := by
  have h1 := (run_nodup (pairW_plain a e) (IsPair a.length e.length) (fun x c y h => step_pair ha he x c y h) (x0 := [0, 0]) ⟨0, 0, List.length_pos_iff.2 ha.ne, List.length_pos_iff.2 he.ne, rfl⟩ i).2 (pairL p) (by rw [← h]; exact List.mem_map_of_mem hp)
  obtain ⟨u, v, hu, hv, e1⟩ := h1
  have e2 : p = (u, v) := pairL_inj e1
  rw [e2]
  exact ⟨hu, hv⟩
theorem ByA.fewer {σ : Type} {W : Bfs σ} {fin : σ → Bool} {x0 : σ} {i : Nat} {met : List σ} {ds : List St} (h : ByA W fin x0 i met ds) (hi : met.length ≤ i) (f : Nat) : (W.run f 0 [x0]).length ≤ met.length := by
  rcases Nat.le_total f i with hf | hf
  · obtain ⟨k, rfl⟩ : ∃ k, i = f + k := ⟨i - f, by omega⟩
    have h1 := run_le W x0 f k
    rw [← h.run] at h1
    exact h1
  · obtain ⟨k, rfl⟩ : ∃ k, f = i + k := ⟨f - i, by omega⟩
    have h1 := W.run_end (f := i) (i := 0) (met := [x0]) (by rw [Nat.zero_add, ← h.run, List.getElem?_eq_none_iff]; exact hi) k
    rw [h1, ← h.run]
    exact Nat.le_refl _
theorem BoC.step {w W : World} {a e : List St} {pp sp : Nat} {fin : Bool} {Ao : Option Addr} {q co : Nat} {hs : List Sh} {u v i : Nat} {ps0 : List (Nat × Nat)} {Ap : Option Addr} {m cp : Nat} {ps : List (Nat × Nat)} {Ac : Option Addr} {pc cc : Nat} {arcs : List Arc3} (h : BoC w W a e pp sp fin Ao q co hs u v 256 ps0 Ap m cp ps Ac pc cc arcs)
    (hp : ByA (pairW a e) (finP a e) [0, 0] i (ps0.map pairL) (hs.map (·.d)) ∧ hs.length = i) (hx : (ps0.map pairL)[i]? = some (pairL (u, v))) (hf : finP a e (pairL (u, v)) = fin) :
    ByA (pairW a e) (finP a e) [0, 0] (i + 1) (ps.map pairL) ((hs ++ [(⟨(fin, arcs), Ac, cc⟩ : Sh)]).map (·.d)) ∧ (hs ++ [(⟨(fin, arcs), Ac, cc⟩ : Sh)]).length = i + 1 := by
  refine ⟨?_, by rw [List.length_append, hp.2]; rfl⟩
  rw [List.map_append]
  have h1 := hp.1.step hx h.by_
  rw [hf] at h1
  exact h1
set_option maxRecDepth 100000 in
set_option maxHeartbeats 8000000 in
theorem refboth_any (w : World) (B : Nat) (hB : B ≤ w.heap.size) (A : Option Addr) (n c : Nat) (H : List Sh) (h : StsIn w B A n c H) (A' : Option Addr) (n' c' : Nat) (H' : List Sh) (h' : StsIn w B A' n' c' H') (hg : Good (H.map (·.d))) (hg' : Good (H'.map (·.d))) (hfew : n * n' ≤ 20000) (most : Int) :
    Calls Tryd.prog 22 #[.slice A n c, .slice A' n' c', .int .i64 most] w fun e w' =>
      ((∃ f, most < (((pairW (H.map (·.d)) (H'.map (·.d))).run f 0 [[0, 0]]).length : Nat)) ∧ e = .returned (.tuple #[.slice none 0 0, .int .i64 8]) ∧ Below w.heap.size w w') ∨
      ((∀ f, (((pairW (H.map (·.d)) (H'.map (·.d))).run f 0 [[0, 0]]).length : Nat) ≤ most) ∧ ∃ v hs d, e = .returned (.tuple #[v, .int .i64 0]) ∧ OwnSts w' w.heap.size v hs ∧ LeastIs (auOf d) 0 (hs.map (·.d)) ∧ Leq (auOf d) 0 ⟨finP (H.map (·.d)) (H'.map (·.d)), stepP (H.map (·.d)) (H'.map (·.d))⟩ [0, 0] ∧ hs.length ≤ d.length ∧ d.length ≤ 20000 ∧ Below w.heap.size w w') := by
  have HS := Lib.hid h
  have HS' := Lib.hid h'
  have HC0 : Hid (checkE (H.map (·.d)) = 0) := (good_iff _).2 hg
  have HC0' : Hid (checkE (H'.map (·.d)) = 0) := (good_iff _).2 hg'
  have hlen := h.len
  have hlen' := h'.len
  obtain ⟨a, ha⟩ : ∃ l, H.map (·.d) = l := ⟨_, rfl⟩
  obtain ⟨e', he'⟩ : ∃ l, H'.map (·.d) = l := ⟨_, rfl⟩
  have HD := Lib.hid ha
  have HD' := Lib.hid he'
  rw [ha] at hg HC0
  rw [he'] at hg' HC0'
  rw [ha, he']
  have HG := Lib.hid hg
  have HG' := Lib.hid hg'
  have hal : a.length = n := by rw [← ha, List.length_map]; exact hlen
  have hel : e'.length = n' := by rw [← he', List.length_map]; exact hlen'
  have HAL := Lib.hid (And.intro hal hel)
  obtain ⟨K, hK⟩ : ∃ K, n * n' = K := ⟨_, rfl⟩
  have HFEW : Hid (∀ f, ((pairW a e').run f 0 [[0, 0]]).length ≤ K) := fun f => Nat.le_trans (pair_few hg hg' f) (by rw [hal, hel, hK]; exact Nat.le_refl _)
  rw [hK] at hfew
  have hnm : n ≤ 20000 := by rw [← hal]; exact hg.few
  have hnm' : n' ≤ 20000 := by rw [← hel]; exact hg'.few
  clear h h' hg hg' ha he' hal hel hK
  go_enter Tryd.func22, Tryd.ntmps22
  go_wp2_with fail
  refine (rcheck_any w B hB A n c H HS.out).mono ?_
  rintro e w1 ⟨rfl, hb1⟩
  rw [HD.out, HC0.out]
  have HB1 := Lib.hid hb1
  clear hb1
  go_wp2_with fail
  refine (rcheck_any w1 B (Nat.le_trans hB HB1.out.size) A' n' c' H' (HS'.out.keep (HB1.out.mono hB) (Nat.le_refl _))).mono ?_
  rintro e w2 ⟨rfl, hb2⟩
  rw [HD'.out, HC0'.out]
  have HB2 := Lib.hid (bcall HB1.out hb2)
  clear hb2 HB1
  have hbs2 := HB2.out.size
  have HS2 := Lib.hid (HS.out.keep (HB2.out.mono hB) (Nat.le_refl _))
  have HS2' := Lib.hid (HS'.out.keep (HB2.out.mono hB) (Nat.le_refl _))
  have HM1 : Hid ((w2.alloc (.cells #[.int .i64 0, .int .i64 0] 76)).ownsRow w2.heap.size 76 2 (.slice (some ⟨w2.heap.size, 0, none⟩) 1 1) 1 (pairsC [(0, 0)])) := own_new w2 #[.int .i64 0, .int .i64 0] 76 2 1 rfl (by unfold maxLen; omega) rfl (Nat.le_refl _)
  have HO1 := Lib.hid ((OutR.start w2).keep (bnew (brefl w2) (.cells #[.int .i64 0, .int .i64 0] 76)))
  have HP1 : Hid (ByA (pairW a e') (finP a e') [0, 0] 0 ([(0, 0)].map pairL) (([] : List Sh).map (·.d)) ∧ ([] : List Sh).length = 0) := ⟨ByA.start _ _ _, rfl⟩
  have HI1 : Hid (0 < 1 ∨ ((1 : Nat) : Int) ≤ most) := .inl (by omega)
  go_wp2_with fail
  go_loopw [8, 9, 10] (fun fv ov iv wr => ∃ (i m cp co : Nat) (Ap Ao : Option Addr) (ps : List (Nat × Nat)) (hs : List Sh), i ≤ m ∧ fv = .slice Ap m cp ∧ ov = .slice Ao i co ∧ iv = .int .i64 i ∧ Hid (OutR w2 wr Ao i co hs) ∧ Hid (wr.ownsRow w2.heap.size 76 2 (.slice Ap m cp) m (pairsC ps)) ∧ Hid (ByA (pairW a e') (finP a e') [0, 0] i (ps.map pairL) (hs.map (·.d)) ∧ hs.length = i) ∧ Hid (i < m ∨ (m : Int) ≤ most)) (fun _ _ iv _ => K - (intOf iv).toNat)
  case atStart => exact ⟨0, 1, 1, 0, some ⟨w2.heap.size, 0, none⟩, none, [(0, 0)], [], Nat.zero_le _, rfl, rfl, rfl, HO1, HM1, HP1, HI1⟩
  case round =>
    clear HO1 HM1 HP1 HI1
    obtain ⟨i, m, cp, co, Ap, Ao, ps, hs, him, rfl, rfl, rfl, HO, HM, HP, HI⟩ := hrel
    have hml : ps.length = m := by
      have := HM.out.1
      rw [pairsC_len] at this
      omega
    have hmK : m ≤ K := by
      have h1 := HFEW.out i
      rw [← HP.out.1.run, List.length_map, hml] at h1
      exact h1
    have HB3 := Lib.hid (bcall HB2.out HO.out.bel)
    by_cases hlt : i < m
    · have him2 : (i : Int) < (m : Int) := by omega
      by_cases hmo : most < (m : Int)
      · have HF : Hid (∃ f, most < (((pairW a e').run f 0 [[0, 0]]).length : Nat)) := ⟨i, by rw [← HP.out.1.run, List.length_map, hml]; exact hmo⟩
        have q0 : decide ((m : Int) > most) = true := decide_eq_true hmo
        clear HP HI HO HM
        go_wp2_with fail
        go_ret2
        exact .inl ⟨HF.out, rfl, HB3.out⟩
      · have q0 : decide ((m : Int) > most) = false := decide_eq_false hmo
        obtain ⟨⟨u, v⟩, hx⟩ : ∃ x, ps[i]? = some x := ⟨ps[i]'(by omega), List.getElem?_eq_getElem _⟩
        obtain ⟨hu, hv⟩ := pair_in HG.out HG'.out HP.out.1.run (List.mem_of_getElem? hx)
        simp only at hu hv
        have hu1 : u < n := by rw [← HAL.out.1]; exact hu
        have hv1 : v < n' := by rw [← HAL.out.2]; exact hv
        obtain ⟨X, hX⟩ : ∃ X, H[u]? = some X := ⟨H[u]'(by omega), List.getElem?_eq_getElem _⟩
        obtain ⟨Y, hY⟩ : ∃ Y, H'[v]? = some Y := ⟨H'[v]'(by omega), List.getElem?_eq_getElem _⟩
        obtain ⟨fb, foff, rfl, hfb, hcell⟩ := (HS2.out.keep (HO.out.bel.mono (Nat.le_trans hB hbs2)) (Nat.le_refl _)).at_ (by omega)
        obtain ⟨fb', foff', rfl, hfb', hcell'⟩ := (HS2'.out.keep (HO.out.bel.mono (Nat.le_trans hB hbs2)) (Nat.le_refl _)).at_ (by omega)
        obtain ⟨k0, _⟩ := hcell u X hX
        obtain ⟨k1, _⟩ := hcell' v Y hY
        obtain ⟨g, rfl, hg1, hg2⟩ := own_head HM.out (by omega)
        obtain ⟨m0, m1⟩ := pairs_cell HM.out hx
        simp only at m0 m1
        have hos := HO.out.bel.size
        have hfw : fb < wr.heap.size := by omega
        have hfw' : fb' < wr.heap.size := by omega
        obtain ⟨fin, hfin⟩ : ∃ f, X.d.1 = f := ⟨_, rfl⟩
        obtain ⟨fin', hfin'⟩ : ∃ f, Y.d.1 = f := ⟨_, rfl⟩
        rw [hfin] at k0
        rw [hfin'] at k1
        have HX : Hid ((ps.map pairL)[i]? = some (pairL (u, v))) := by show _ = _; rw [List.getElem?_map, hx]; rfl
        have HFX : Hid (finP a e' (pairL (u, v)) = (fin && fin')) := by
          show (finD a (u : Int) && finD e' (v : Int)) = _
          unfold finD
          rw [Int.toNat_natCast, Int.toNat_natCast, ← HD.out, ← HD'.out, List.getElem?_map, List.getElem?_map, hX, hY, ← hfin, ← hfin']
          rfl
        have hu2 : (u : Int) < (n : Int) := by omega
        have hv2 : (v : Int) < (n' : Int) := by omega
        have HC0 : Hid (∀ f, BoC w2 ((wr.alloc (.cells #[.int .i64 (u : Int), .int .i64 (v : Int)] 76)).alloc (.cells #[.bool f, .slice none 0 0] 39)) a e' wr.heap.size (wr.heap.size + 1) f Ao i co hs u v 0 ps (some ⟨g, 0, none⟩) m cp ps none 0 0 []) := fun f => by
          have hb1 := bnew (brefl wr) (.cells #[.int .i64 (u : Int), .int .i64 (v : Int)] 76)
          have hb2 := bnew (brefl (wr.alloc (.cells #[.int .i64 (u : Int), .int .i64 (v : Int)] 76))) (.cells #[.bool f, .slice none 0 0] 39)
          have h1 := (HO.out.keep hb1).open_ f
          have h2 := heap_alloc_new wr (.cells #[.int .i64 (u : Int), .int .i64 (v : Int)] 76)
          have hsz : (wr.alloc (.cells #[.int .i64 (u : Int), .int .i64 (v : Int)] 76)).heap.size = wr.heap.size + 1 := by simp
          rw [hsz] at h1
          refine ⟨h1, own_kept (own_kept HM.out hb1) hb2, (hb2.block _ (Array.getElem?_eq_some_iff.1 h2).1).trans h2, fun h3 => ?_, ByP.start _ _ _, Nat.le_refl _, by omega, fun x hx => absurd hx List.not_mem_nil⟩
          have := (HM.out.lt _ h3).2
          omega
        clear hcell hcell' hx hX hY hfin hfin'
        have HSF := Lib.hid (show K ≤ 1048576 by omega)
        have hpsl : ps.length ≤ 1048576 := by omega
        cases fin <;> cases fin'
        all_goals
          go_wp2_with fail
          refine both_c w2 _ B (Nat.le_trans hB hbs2) (some ⟨fb, foff, none⟩) n c H HS2 a HD HG (some ⟨fb', foff', none⟩) n' c' H' HS2' e' HD' HG' u v hu hv wr.heap.size (wr.heap.size + 1) _ Ao i co hs ps hpsl (some ⟨g, 0, none⟩) m cp (HC0.out _) _ _ _ _ _ _ _ _ _ _ _ _ _ _ _ _ _ _ _ _ _ _ _ _ _ _ _ _ _ _ _ _ _ _ _ _ _ _ _ _ _ _ _ _ _ _ _ _ _ _ _ _ _ _ _ _ _ _ _ _ _ _ _ _ _ _ _ _ _ _ _ _ _ _ _ _ _ _ _ _ _ _ _ _ _ _ _ _ _ _ _ _ _ _ _ _ _ _ _ _ _ _ _ _ _ _ _ (fun c a a' w hd h => by cases a; cases a'; cases hd; exact h) ?_
          intro Ap m cp ps2 Ac pc cc arcs W x13 u14 u15 u55 u56 u57 u58 u59 u60 u61 u62 u63 u64 u65 u66 u67 u68 u69 u70 u71 u72 u73 u74 u75 u76 u77 u78 u79 u80 u81 u82 u83 u84 u85 u86 u87 u88 u89 u90 u91 u92 u93 u94 u95 u96 u97 u98 u99 u100 u101 u102 u103 u104 u105 HC
          obtain ⟨s0, s1, s2, s3⟩ := HC.out.gr.cells
          have HOO := Lib.hid HC.out.gr.out
          have HBL := Lib.hid HC.out.gr.bel
          have hbs3 := HBL.out.size
          clear HC0 k0 k1 m0 m1 HO HM hg2
          go_wp2_with (at_builtin; refine wpList_push w2 W _ rfl _ _ _ rfl el_state _ _ _ rfl HOO.out rfl (by simp) rfl (by simp [Value.oneCell']) (by unfold maxLen; omega) (by omega) hbs3 HBL.out ?_; intro v9 w9 hown9 _ hg9 hor9; obtain ⟨A9, c9, rfl, _⟩ := own_shape hown9; have HO9 := Lib.hid hown9; have HG9 := Lib.hid hg9; clear hown9 hg9 hor9)
          have HCL := Lib.hid (HC.out.gr.close HG9.out HO9.out)
          have HMN := Lib.hid (HCL.out.2 (by decide) HC.out.row_)
          have HON := Lib.hid HCL.out.1
          have HPN := Lib.hid (HC.out.step HP.out HX.out HFX.out)
          have him3 : i + 1 ≤ m := by
            have h1 := HPN.out.1.le
            rw [List.length_map, HC.out.len] at h1
            exact h1
          have HIN : Hid (i + 1 < m ∨ (m : Int) ≤ most) := by
            by_cases e1 : i + 1 < m
            · exact .inl e1
            · refine .inr ?_
              have h2 : ps.length ≤ ps2.length := by
                obtain ⟨more, h3⟩ := Bfs.row_pre (pairW a e') (pairL (u, v)) (ps.map pairL) 256
                have h4 := congrArg List.length (HC.out.by_.row.trans h3)
                rw [List.length_map, List.length_append, List.length_map] at h4
                omega
              have h5 := HC.out.len
              omega
          clear HCL HC HG9 HO9 s0 s1 s2 s3 HOO HP
          go_wp2_with fail
          go_roundw
          case rel => exact ⟨i + 1, m, cp, c9, Ap, A9, ps2, _, him3, rfl, rfl, by go_num, HON, HMN, HPN, HIN⟩
          case measure => simp [intOf]; omega
    · obtain rfl : i = m := by omega
      have q0 : decide ((i : Int) < (i : Int)) = false := decide_eq_false (by omega)
      have hmm : (i : Int) ≤ most := by
        rcases HI.out with h1 | h1
        · omega
        · exact h1
      have hpl : (ps.map pairL).length ≤ i := by rw [List.length_map, hml]; exact Nat.le_refl _
      have HGD := Lib.hid (HP.out.1.good hpl (by rw [List.length_map]; omega))
      have HLQ := Lib.hid (HP.out.1.leq (pairW_plain a e') hpl)
      have HFF : Hid (∀ f, (((pairW a e').run f 0 [[0, 0]]).length : Nat) ≤ most) := fun f => by
        have h1 := HP.out.1.fewer hpl f
        rw [List.length_map] at h1
        omega
      have HOS := Lib.hid (HO.out.sts HP.out.2)
      have HSI := Lib.hid (HOS.out.sts HP.out.2 (by omega) (fun x hx => by
        have h1 := HGD.out.asc x.d (List.mem_map_of_mem hx)
        have := asc_few h1
        omega))
      have HDN : Hid ((hs.map (·.d)).length = i) := by show _ = _; rw [List.length_map]; exact HP.out.2
      clear HI HP HO HM hpl
      go_wp2_with fail
      refine (refleast_any wr wr.heap.size (Nat.le_refl _) Ao i co hs HSI.out HGD.out).mono ?_
      rintro e w9 ⟨v9, hs9, rfl, hown9, hl9, hle9, hb9⟩
      have HO9 := Lib.hid hown9
      have HL9 := Lib.hid hl9
      have HB9 := Lib.hid hb9
      clear hown9 hl9 hb9
      go_wp2_with fail
      go_ret2
      exact .inr ⟨HFF.out, v9, hs9, hs.map (·.d), rfl, HO9.out.lower HB3.out.size, HL9.out, HLQ.out, by rw [HDN.out]; exact hle9, by rw [HDN.out]; omega, bcall HB3.out HB9.out⟩
end Go.Proofs.YtebdffabfimmkaaDoor
