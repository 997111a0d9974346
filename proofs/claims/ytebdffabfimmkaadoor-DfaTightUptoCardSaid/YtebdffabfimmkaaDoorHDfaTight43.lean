/- The outer loop of dfa.Both. -/
import Derived.Test.YtebdffabfimmkaaDoorHDfaTight42
namespace Go.Proofs.YtebdffabfimmkaaDoor
open Go.RowKit Go.Maps

set_option linter.unusedVariables false in
set_option maxRecDepth 100000 in
set_option maxHeartbeats 8000000 in
theorem both_i (w W0 : World) (B : Nat) (hB : B ≤ w.heap.size) (ab ao n c : Nat) (H : List Sh) (HS : Hid (StsIn w B (some ⟨ab, ao, none⟩) n c H)) (eb eo n' c' : Nat) (H' : List Sh) (HS' : Hid (StsIn w B (some ⟨eb, eo, none⟩) n' c' H')) (hab : ab < B) (heb : eb < B)
    (a e' : List St) (HA : Hid (H.map (·.d) = a)) (HE : Hid (H'.map (·.d) = e')) (HG : Hid (Good a)) (HG' : Hid (Good e')) (hln : H.length = n) (hln' : H'.length = n') (HAL : Hid (a.length = n)) (HEL : Hid (e'.length = n')) (HT : Hid (Tab w)) (hnp : 0 < n) (hnp' : 0 < n') (hnm : n ≤ 20000) (hnm' : n' ≤ 20000) (most : Int)
    (HFEW : Hid (∀ f, ((pairW a e').run f 0 [[0, 0]]).length ≤ 20000)) (p kb ns cs ct : Nat) (As At : Option Addr) (N : DataW Unit) (hs : List Sh) (S : List Rw) (hns0 : 0 ≤ ns ∧ ns ≤ 20300)
    (HTI : Hid (TiG w W0 p As ns cs At ct kb N GRow.nil hs S [] GRow.nil)) (HMP : Hid (MadeP (pairW a e') (finP a e') (finP a e') [0, 0] 0 (S.map (·.l)) (hs.map (·.d)))) (HIN0 : Hid ((∀ s ∈ S, IsPair n n' s.l) ∧ ∀ k, 0 ≤ k → k < ns → ∃ s, S[k]? = some s ∧ hs[k]? = some ⟨(finP a e' s.l, []), none, 0⟩))
    (c3 c4 c5 c13 c15 c19 c20 c21 c22 c23 c24 c25 c26 c27 c28 c29 c30 c31 c32 c33 c34 c35 c36 c37 c38 c39 c40 c41 c42 c146 c147 c148 c149 c150 u6 u7 u10 u11 u12 u14 u16 u17 u18 u43 u44 u45 u46 u47 u48 u49 u50 u51 u52 u53 u54 u55 u56 u57 u58 u59 u60 u61 u62 u63 u64 u65 u66 u67 u68 u69 u70 u71 u72 u73 u74 u75 u76 u77 u78 u79 u80 u81 u82 u83 u84 u85 u86 u87 u88 u89 u90 u91 u92 u93 u94 u95 u96 u97 u98 u99 u100 u101 u102 u103 u104 u105 u106 u107 u108 u109 u110 u111 u112 u113 u114 u115 u116 u117 u118 u119 u120 u121 u122 u123 u124 u125 u126 u127 u128 u129 u130 u131 u132 u133 u134 u135 u136 u137 u138 u139 u140 u141 u142 u143 u144 u145 : Value) (Q0 : Exit → Act → World → Prop) (hQ0 : ∀ c (a a' : Act) w, a.defers = a'.defers → Q0 (.panic c) a w → Q0 (.panic c) a' w)
    (hret : ∀ (W : World) (x9 u10 u11 u12 u14 u16 u17 u18 u43 u44 u45 u46 u47 u48 u49 u50 u51 u52 u53 u54 u55 u56 u57 u58 u59 u60 u61 u62 u63 u64 u65 u66 u67 u68 u69 u70 u71 u72 u73 u74 u75 u76 u77 u78 u79 u80 u81 u82 u83 u84 u85 u86 u87 u88 u89 u90 u91 u92 u93 u94 u95 u96 u97 u98 u99 u100 u101 u102 u103 u104 u105 u106 u107 u108 u109 u110 u111 u112 u113 u114 u115 u116 u117 u118 u119 u120 u121 u122 u123 u124 u125 u126 u127 u128 u129 u130 u131 u132 u133 u134 u135 u136 u137 u138 u139 u140 u141 u142 u143 u144 u145 : Value), Hid (∃ f, most < (((pairW a e').run f 0 [[0, 0]]).length : Nat)) → Hid (Below w.heap.size w W) → Q0 .ret ⟨List.toArray (.slice (some ⟨ab, ao, none⟩) n c :: .slice (some ⟨eb, eo, none⟩) n' c' :: .int .i64 most :: c3 :: c4 :: c5 :: .slice none 0 0 :: .int .i64 8 :: .pointer (some ⟨p, 0, none⟩) :: x9 :: u10 :: u11 :: u12 :: c13 :: u14 :: c15 :: u16 :: u17 :: u18 :: c19 :: c20 :: c21 :: c22 :: c23 :: c24 :: c25 :: c26 :: c27 :: c28 :: c29 :: c30 :: c31 :: c32 :: c33 :: c34 :: c35 :: c36 :: c37 :: c38 :: c39 :: c40 :: c41 :: c42 :: u43 :: u44 :: u45 :: u46 :: u47 :: u48 :: u49 :: u50 :: u51 :: u52 :: u53 :: u54 :: u55 :: u56 :: u57 :: u58 :: u59 :: u60 :: u61 :: u62 :: u63 :: u64 :: u65 :: u66 :: u67 :: u68 :: u69 :: u70 :: u71 :: u72 :: u73 :: u74 :: u75 :: u76 :: u77 :: u78 :: u79 :: u80 :: u81 :: u82 :: u83 :: u84 :: u85 :: u86 :: u87 :: u88 :: u89 :: u90 :: u91 :: u92 :: u93 :: u94 :: u95 :: u96 :: u97 :: u98 :: u99 :: u100 :: u101 :: u102 :: u103 :: u104 :: u105 :: u106 :: u107 :: u108 :: u109 :: u110 :: u111 :: u112 :: u113 :: u114 :: u115 :: u116 :: u117 :: u118 :: u119 :: u120 :: u121 :: u122 :: u123 :: u124 :: u125 :: u126 :: u127 :: u128 :: u129 :: u130 :: u131 :: u132 :: u133 :: u134 :: u135 :: u136 :: u137 :: u138 :: u139 :: u140 :: u141 :: u142 :: u143 :: u144 :: u145 :: c146 :: c147 :: c148 :: c149 :: c150 :: []), []⟩ W)
    (hexit : ∀ (ns cs ct : Nat) (As At : Option Addr) (N : DataW Unit) (hs : List Sh) (S : List Rw) (W : World) (u6 u7 u10 u11 u12 u14 u16 u17 u18 u43 u44 u45 u46 u47 u48 u49 u50 u51 u52 u53 u54 u55 u56 u57 u58 u59 u60 u61 u62 u63 u64 u65 u66 u67 u68 u69 u70 u71 u72 u73 u74 u75 u76 u77 u78 u79 u80 u81 u82 u83 u84 u85 u86 u87 u88 u89 u90 u91 u92 u93 u94 u95 u96 u97 u98 u99 u100 u101 u102 u103 u104 u105 u106 u107 u108 u109 u110 u111 u112 u113 u114 u115 u116 u117 u118 u119 u120 u121 u122 u123 u124 u125 u126 u127 u128 u129 u130 u131 u132 u133 u134 u135 u136 u137 u138 u139 u140 u141 u142 u143 u144 u145 : Value), ns ≤ 20300 → Hid (ns = 0 ∨ (ns : Int) ≤ most) → Hid (TiG w W p As ns cs At ct kb N GRow.nil hs S [] GRow.nil) → Hid (MadeP (pairW a e') (finP a e') (finP a e') [0, 0] ns (S.map (·.l)) (hs.map (·.d))) → Q0 (.exit 0) ⟨List.toArray (.slice (some ⟨ab, ao, none⟩) n c :: .slice (some ⟨eb, eo, none⟩) n' c' :: .int .i64 most :: c3 :: c4 :: c5 :: u6 :: u7 :: .pointer (some ⟨p, 0, none⟩) :: .int .i64 (ns : Int) :: u10 :: u11 :: u12 :: c13 :: u14 :: c15 :: u16 :: u17 :: u18 :: c19 :: c20 :: c21 :: c22 :: c23 :: c24 :: c25 :: c26 :: c27 :: c28 :: c29 :: c30 :: c31 :: c32 :: c33 :: c34 :: c35 :: c36 :: c37 :: c38 :: c39 :: c40 :: c41 :: c42 :: u43 :: u44 :: u45 :: u46 :: u47 :: u48 :: u49 :: u50 :: u51 :: u52 :: u53 :: u54 :: u55 :: u56 :: u57 :: u58 :: u59 :: u60 :: u61 :: u62 :: u63 :: u64 :: u65 :: u66 :: u67 :: u68 :: u69 :: u70 :: u71 :: u72 :: u73 :: u74 :: u75 :: u76 :: u77 :: u78 :: u79 :: u80 :: u81 :: u82 :: u83 :: u84 :: u85 :: u86 :: u87 :: u88 :: u89 :: u90 :: u91 :: u92 :: u93 :: u94 :: u95 :: u96 :: u97 :: u98 :: u99 :: u100 :: u101 :: u102 :: u103 :: u104 :: u105 :: u106 :: u107 :: u108 :: u109 :: u110 :: u111 :: u112 :: u113 :: u114 :: u115 :: u116 :: u117 :: u118 :: u119 :: u120 :: u121 :: u122 :: u123 :: u124 :: u125 :: u126 :: u127 :: u128 :: u129 :: u130 :: u131 :: u132 :: u133 :: u134 :: u135 :: u136 :: u137 :: u138 :: u139 :: u140 :: u141 :: u142 :: u143 :: u144 :: u145 :: c146 :: c147 :: c148 :: c149 :: c150 :: []), []⟩ W) :
    Code.wp Tryd.prog (.loop (loopOf Tryd.f21 0)) Q0 ⟨List.toArray (.slice (some ⟨ab, ao, none⟩) n c :: .slice (some ⟨eb, eo, none⟩) n' c' :: .int .i64 most :: c3 :: c4 :: c5 :: u6 :: u7 :: .pointer (some ⟨p, 0, none⟩) :: .int .i64 (0 : Int) :: u10 :: u11 :: u12 :: c13 :: u14 :: c15 :: u16 :: u17 :: u18 :: c19 :: c20 :: c21 :: c22 :: c23 :: c24 :: c25 :: c26 :: c27 :: c28 :: c29 :: c30 :: c31 :: c32 :: c33 :: c34 :: c35 :: c36 :: c37 :: c38 :: c39 :: c40 :: c41 :: c42 :: u43 :: u44 :: u45 :: u46 :: u47 :: u48 :: u49 :: u50 :: u51 :: u52 :: u53 :: u54 :: u55 :: u56 :: u57 :: u58 :: u59 :: u60 :: u61 :: u62 :: u63 :: u64 :: u65 :: u66 :: u67 :: u68 :: u69 :: u70 :: u71 :: u72 :: u73 :: u74 :: u75 :: u76 :: u77 :: u78 :: u79 :: u80 :: u81 :: u82 :: u83 :: u84 :: u85 :: u86 :: u87 :: u88 :: u89 :: u90 :: u91 :: u92 :: u93 :: u94 :: u95 :: u96 :: u97 :: u98 :: u99 :: u100 :: u101 :: u102 :: u103 :: u104 :: u105 :: u106 :: u107 :: u108 :: u109 :: u110 :: u111 :: u112 :: u113 :: u114 :: u115 :: u116 :: u117 :: u118 :: u119 :: u120 :: u121 :: u122 :: u123 :: u124 :: u125 :: u126 :: u127 :: u128 :: u129 :: u130 :: u131 :: u132 :: u133 :: u134 :: u135 :: u136 :: u137 :: u138 :: u139 :: u140 :: u141 :: u142 :: u143 :: u144 :: u145 :: c146 :: c147 :: c148 :: c149 :: c150 :: []), []⟩ W0 := by
  conv => arg 2; arg 1; whnf
  go_loopw [9] (fun iv wr => ∃ (i ns cs ct : Nat) (As At : Option Addr) (N : DataW Unit) (hs : List Sh) (S : List Rw), iv = .int .i64 i ∧ i ≤ ns ∧ ns ≤ 20300 ∧ Hid (i = 0 ∨ (i : Int) ≤ most) ∧ Hid (TiG w wr p As ns cs At ct kb N GRow.nil hs S [] GRow.nil) ∧ Hid (MadeP (pairW a e') (finP a e') (finP a e') [0, 0] i (S.map (·.l)) (hs.map (·.d))) ∧ Hid ((∀ s ∈ S, IsPair n n' s.l) ∧ ∀ k, i ≤ k → k < ns → ∃ s, S[k]? = some s ∧ hs[k]? = some ⟨(finP a e' s.l, []), none, 0⟩)) (fun iv _ => 20001 - (intOf iv).toNat)
  case atStart => exact ⟨0, ns, cs, ct, As, At, N, _, _, rfl, Nat.zero_le _, hns0.2, .inl rfl, HTI, HMP, HIN0⟩
  case round =>
    clear HTI HMP HIN0
    obtain ⟨i, ns, cs, ct, As, At, N, hs, S, rfl, hin, hns, HI0, HR, HP, HIN⟩ := hrel
    obtain ⟨m0, m1, m2⟩ := HR.out.mr.g.cells
    have hpl := HR.out.mr.g.lt
    by_cases hlt : i < ns
    · by_cases hmo : most < (ns : Int)
      · have q1 : decide ((ns : Int) > most) = true := decide_eq_true hmo
        have HLN : Hid (∃ f, most < (((pairW a e').run f 0 [[0, 0]]).length : Nat)) := ⟨i, by rw [← HP.out.run, List.length_map, HR.out.mr.sl]; exact hmo⟩
        have HB := Lib.hid HR.out.bel
        clear hmo
        go_wp2_with fail
        apply hret
        · exact HLN
        · exact HB
      · have q1 : decide ((ns : Int) > most) = false := decide_eq_false hmo
        have HMO := Lib.hid (show (ns : Int) ≤ most by omega)
        have hns2 : ns ≤ 20000 := by
          have h1 := HFEW.out i
          rw [← HP.out.run, List.length_map, HR.out.mr.sl] at h1
          exact h1
        obtain ⟨x, hx⟩ : ∃ x, S[i]? = some x := ⟨S[i]'(by rw [HR.out.mr.sl]; exact hlt), List.getElem?_eq_getElem _⟩
        obtain ⟨u, v, hun, hvn, hxl⟩ := HIN.out.1 x (List.mem_of_getElem? hx)
        obtain ⟨tg, rfl, htb, htl⟩ := own_head HR.out.mr.g.se (by omega)
        have t0 : wr.cell? ⟨tg, i, none⟩ = some (.slice x.A 2 x.c) := by
          have h1 := own_cell (j := i) (u := .slice x.A x.l.length x.c) HR.out.mr.g.se (by rw [List.getElem?_map, hx]; rfl)
          rw [hxl] at h1
          exact h1
        have hct : ns ≤ ct := by
          obtain ⟨A1, c1, e1, h1⟩ := own_shape HR.out.mr.g.se
          injection e1 with _ _ e1
          omega
        have hxo : wr.ownsRow w.heap.size 3 1 (.slice x.A 2 x.c) 2 (([(u : Int), (v : Int)] : List Int).map (.int .i64)) := by
          have h1 := HR.out.fam.own x (by rw [List.nil_append]; exact List.mem_of_getElem? hx)
          have h2 : wr.ownsRow w.heap.size 3 1 (.slice x.A x.l.length x.c) x.l.length (x.l.map (.int .i64)) := h1
          rw [hxl] at h2
          exact h2
        obtain ⟨xg, hxA, hxb, hxw⟩ := own_head hxo (by omega)
        rw [hxA] at hxo t0
        have x0 := own_cell (j := 0) (u := .int .i64 (u : Int)) hxo rfl
        have x1 := own_cell (j := 1) (u := .int .i64 (v : Int)) hxo rfl
        have hxc : 2 ≤ x.c := by
          obtain ⟨A1, c1, e1, h1⟩ := own_shape hxo
          injection e1 with _ _ e1
          omega
        obtain ⟨xc, hxce⟩ : ∃ k, x.c = k := ⟨_, rfl⟩
        rw [hxce] at t0 hxc
        have HMD : Hid (MidP (pairW a e') (finP a e') (finP a e') [0, 0] i (S.map (·.l)) [(u : Int), (v : Int)] 0 (S.map (·.l)) [] (finP a e' [(u : Int), (v : Int)]) (hs.map (·.d))) := HP.out.enter (by rw [List.getElem?_map, hx]; exact congrArg some hxl)
        have HW := Lib.hid (HS.out.keep (HR.out.bel.mono hB) (Nat.le_refl _))
        have HW' := Lib.hid (HS'.out.keep (HR.out.bel.mono hB) (Nat.le_refl _))
        obtain ⟨X, hX⟩ : ∃ X, H[u]? = some X := ⟨H[u]'(by omega), List.getElem?_eq_getElem _⟩
        obtain ⟨Y, hY⟩ : ∃ X, H'[v]? = some X := ⟨H'[v]'(by omega), List.getElem?_eq_getElem _⟩
        have HXA : Hid (arcsS a (u : Int) = X.d.2) := by
          show ((a[(u : Int).toNat]?).map (·.2)).getD [] = _
          rw [Int.toNat_natCast, ← HA.out, List.getElem?_map, hX]
          rfl
        have HYA : Hid (arcsS e' (v : Int) = Y.d.2) := by
          show ((e'[(v : Int).toNat]?).map (·.2)).getD [] = _
          rw [Int.toNat_natCast, ← HE.out, List.getElem?_map, hY]
          rfl
        have HXM := Lib.hid (List.mem_of_getElem? hX)
        have HYM := Lib.hid (List.mem_of_getElem? hY)
        have HAX : Hid (Asc X.d.2 256) := HG.out.asc X.d (by rw [← HA.out]; exact List.mem_map_of_mem HXM.out)
        have HAY : Hid (Asc Y.d.2 256) := HG'.out.asc Y.d (by rw [← HE.out]; exact List.mem_map_of_mem HYM.out)
        obtain ⟨ab2, ao2, hae, _, hac⟩ := HW.out.at_ hnp
        obtain ⟨rfl, rfl⟩ : ab = ab2 ∧ ao = ao2 := by simp at hae; exact hae
        have x2 := (hac u X hX).2
        obtain ⟨m, hm⟩ : ∃ m, X.d.2.length = m := ⟨_, rfl⟩
        obtain ⟨m', hm'⟩ : ∃ m, Y.d.2.length = m := ⟨_, rfl⟩
        rw [hm] at x2
        have HM := Lib.hid hm
        have HM' := Lib.hid hm'
        have HX := Lib.hid hx
        have HXL := Lib.hid hxl
        have hY' := Lib.hid hY
        have i1 : (0 : Int) ≤ (i : Int) := by omega
        have i2 : (i : Int) < (ns : Int) := by omega
        have i3 : (0 : Int) ≤ (u : Int) := by omega
        have i4 : (u : Int) < (n : Int) := by omega
        have haw : ab < wr.heap.size := by have := HR.out.bel.size; omega
        have hmm : m ≤ 140737488355328 := by rw [← hm]; exact (HS.out.ar X HXM.out).2.2
        clear hmo hx hxl hX hY hm hm' hac hae hxo hxA hxce
        go_wp2_with fail
        go_region_held3 (fun w' => w'.cell? ⟨p, 2, none⟩ = some (.slice (some ⟨tg, 0, none⟩) ns ct) ∧ w'.cell? ⟨tg, i, none⟩ = some (.slice (some ⟨xg, 0, none⟩) 2 xc) ∧ w'.cell? ⟨xg, 0, none⟩ = some (.int .i64 (u : Int)) ∧ w'.cell? ⟨xg, 1, none⟩ = some (.int .i64 (v : Int)))
          (first
            | assumption
            | exact ⟨m2, t0, x0, x1⟩)
          (first
            | (go_at_call 99999))
        have HB0 : Hid (BoG a e' n n' w wr p kb i u v X.d.2 Y.d.2 0 0 0 ns cs ct As (some ⟨tg, 0, none⟩) N [] 0 0 none hs S (S.map (·.l))) := ⟨PosP.start HAX.out, HR.out, HMD.out, HIN.out.1, fun k h1 h2 => HIN.out.2 k (by omega) h2, by
          obtain ⟨s, h1, h2⟩ := HIN.out.2 i (Nat.le_refl _) hlt
          rw [HX.out] at h1
          injection h1 with h1
          rw [← h1, HXL.out] at h2
          exact h2, rfl, fun x hx => absurd hx List.not_mem_nil, by omega, by omega, hlt⟩
        obtain ⟨M0, hM0⟩ : ∃ M, S.map (·.l) = M := ⟨_, rfl⟩
        have HM0 := Lib.hid hM0
        rw [hM0] at HB0
        have HBW : Hid (p + 1 ≤ wr.heap.size) := hpl
        have HI9 : Hid ((i : Int) + 1 ≤ most ∧ i < 20000) := ⟨by have := HMO.out; omega, by omega⟩
        clear hM0 HMD t0 x0 x1 m0 m1 m2 htl hxw
        go_wp2_with fail
        go_loopw [12, 83] (fun av kv wj => ∃ (k ns cs ct na ca b : Nat) (As At Aa : Option Addr) (N : DataW Unit) (hs : List Sh) (S : List Rw) (arcs : List Arc3), kv = .int .i64 k ∧ av = .slice Aa na ca ∧ k ≤ m ∧ Hid (BoG a e' n n' w wj p kb i u v X.d.2 Y.d.2 k 0 b ns cs ct As At N arcs na ca Aa hs S M0)) (fun _ kv _ => m - (intOf kv).toNat)
        case atStart => exact ⟨0, ns, cs, ct, 0, 0, 0, As, _, none, N, hs, S, [], rfl, rfl, Nat.zero_le _, HB0.out.keep (by repeat (first | exact brefl _ | refine Below.drew ?_))⟩
        case round =>
          clear HB0 HR x2 haw hin hns HIN HX HXL hns2 hct hxc hpl htb hxb HW HW' i2 hlt
          obtain ⟨k, ns, cs, ct, na, ca, b, As, At, Aa, N, hs, S, arcs, rfl, rfl, hkm, HB0⟩ := hrel
          by_cases hk : k < m
          · -- K{
            obtain ⟨pb0, po0, hXA, hpb0, hpc⟩ := (HS.out.keep (HB0.out.ti.bel.mono hB) (Nat.le_refl _)).arc HXM.out (by rw [HM.out]; omega)
            obtain ⟨⟨lo, hi, tt⟩, hx⟩ : ∃ x, X.d.2[k]? = some x := ⟨X.d.2[k]'(by rw [HM.out]; exact hk), List.getElem?_eq_getElem _⟩
            obtain ⟨p0, p1, p2⟩ := hpc k _ hx
            simp only at p0 p1 p2
            have hbs := HB0.out.ti.bel.size
            have hpw0 : pb0 < wr.heap.size := by omega
            obtain ⟨eb2, eo2, hee, _, hec⟩ := (HS'.out.keep (HB0.out.ti.bel.mono hB) (Nat.le_refl _)).at_ hnp'
            obtain ⟨rfl, rfl⟩ : eb = eb2 ∧ eo = eo2 := by simp at hee; exact hee
            have y2 := (hec v Y hY'.out).2
            rw [HM'.out] at y2
            have hew : eb < wr.heap.size := by omega
            have hmm' : m' ≤ 140737488355328 := by rw [← HM'.out]; exact (HS'.out.ar Y HYM.out).2.2
            have hkc : m ≤ X.c := by rw [← HM.out]; exact (HS.out.ar X HXM.out).2.1
            have i7 : (0 : Int) ≤ (v : Int) := by omega
            have i8 : (v : Int) < (n' : Int) := by omega
            have HPX := Lib.hid hx
            rw [hXA]
            clear hpc hx hec hee
            have hpb1 : (wr.alloc (.cells #[.int .i64 lo, .int .i64 hi, .int .i64 tt] 41)).heap[wr.heap.size]? = some (.cells #[.int .i64 lo, .int .i64 hi, .int .i64 tt] 41 (0, 0)) := heap_alloc_new wr _
            have hpb2 : (Value.slice Aa na ca).ownBlock ≠ some wr.heap.size := fun h => by
              have h1 := ((HB0.out.ti.mr.g.arcs.own _ (List.mem_cons_self ..)).lt _ h).2
              omega
            have HB1 := Lib.hid (HB0.out.keep (bnew (brefl wr) (.cells #[.int .i64 lo, .int .i64 hi, .int .i64 tt] 41)))
            have HPB := Lib.hid (And.intro hpb1 hpb2)
            go_wp2_with fail
            obtain ⟨pb, hpbe⟩ : ∃ x, wr.heap.size = x := ⟨_, rfl⟩
            rw [hpbe] at HPB ⊢
            have hpbs : w.heap.size ≤ pb := by omega
            clear hpb1 hpb2 HB0 p0 p1 p2 hpw0 y2 hew hpbe
            generalize wr.alloc (.cells #[.int .i64 lo, .int .i64 hi, .int .i64 tt] 41) = W1 at *
            refine both_j (w := w) (W1 := W1) (B := B) hB ab ao n c H HS eb eo n' c' H' HS' hab heb a e' HA HE HG HG' hln hln' HAL HEL HT hnp hnp' hnm hnm' p kb i u v X Y HXA HYA HXM HYM HAX HAY m' HM' hmm' k lo hi tt HPX pb hpbs ns cs ct na ca b As At Aa N hs S arcs M0 HB1 HPB _ _ _ _ _ _ _ _ _ _ _ _ _ _ _ _ _ _ _ _ _ _ _ _ _ _ _ _ _ _ _ _ _ _ _ _ _ _ _ _ _ _ _ _ _ _ _ _ _ _ _ _ _ _ _ _ _ _ _ _ _ _ _ _ _ _ _ _ _ _ _ _ _ _ _ _ _ _ _ _ _ _ _ _ _ _ _ _ _ _ _ _ _ _ _ _ _ _ _ _ _ _ _ _ _ _ _ _ _ _ _ _ _ _ _ _ _ _ _ _ _ _ _ _ _ _ _ _ _ _ _ _ _ _ _ _ _ _ _ _ _ _ _ _ (fun c a a' w hd h => hQ0 c a a' w hd h) ?_
            clear HB1 HPB hbs hpb0
            intro ns cs ct na ca b As At Aa N hs S arcs W u16 u17 u18 u94 u95 u96 u97 u98 u99 u100 u101 u102 u103 u104 u105 u106 u107 u108 u109 u110 u111 u112 u113 u114 u115 u116 u117 u118 u119 u120 u121 u122 u123 u124 u125 u126 u127 u128 u129 u130 u131 u132 u133 u134 u135 u136 HB1
            have HBN := Lib.hid (HB1.out.next (by rw [HM'.out]; exact Nat.le_refl _))
            clear HB1
            go_wp2_with fail
            go_roundw
            case rel => exact ⟨k + 1, ns, cs, ct, na, ca, b, As, At, Aa, N, hs, S, arcs, by go_num, rfl, by omega, HBN⟩
            case measure => simp [intOf]; omega
            -- K}
          · -- X{
            obtain rfl : k = m := by omega
            have hin2 := HB0.out.ins
            have hns3 : ns ≤ 20256 := by have h1 := HB0.out.few; have h2 := HB0.out.pos.le; omega
            obtain ⟨m0, m1, m2⟩ := HB0.out.ti.mr.g.cells
            have hpl := HB0.out.ti.mr.g.lt
            obtain ⟨sg2, rfl, hsgb2, hsgl2⟩ := own_head HB0.out.ti.mr.g.st (by omega)
            have hcs2 : ns ≤ cs := by
              obtain ⟨A1, c1, e1, h1⟩ := own_shape HB0.out.ti.mr.g.st
              injection e1 with _ _ e1
              omega
            have hsz := own_cell2 (j := 1) (u := .slice none 0 0) HB0.out.ti.mr.g.st HB0.out.at_ rfl (by omega)
            have HNL : Hid (arcs.length = na) := HB0.out.len
            have HPL : Hid (GFam wr w.heap.size 41 3 (GRow.nil :: (hs.set i ⟨(finP a e' [(u : Int), (v : Int)], arcs), Aa, ca⟩).map Sh.row)) := by
              have h1 := HB0.out.ti.mr.g.arcs.place (i := i) (by rw [List.getElem?_map, HB0.out.at_]; rfl)
              have h2 : (hs.set i (⟨(finP a e' [(u : Int), (v : Int)], arcs), Aa, ca⟩ : Sh)).map Sh.row = (hs.map Sh.row).set i ⟨.slice Aa na ca, na, arcsC arcs⟩ := by
                rw [List.map_set]
                congr 1
                unfold Sh.row
                simp only [HNL.out]
              show GFam _ _ _ _ _
              rw [h2]
              exact h1
            have HSE := Lib.hid (HB0.out.ti.setS (j := 1) (v := .slice Aa na ca) HT.out rfl HB0.out.at_ (by omega) (y := ⟨(finP a e' [(u : Int), (v : Int)], arcs), Aa, ca⟩) (by unfold Sh.hdr; simp only [HNL.out]; rfl) HPL.out)
            have hfz := HSE.out.2.1
            have hsl2 := HSE.out.2.2
            have HRN : Hid (TiG w (wr.setCell ⟨sg2, i * 2 + 1, none⟩ (.slice Aa na ca)) p (some ⟨sg2, 0, none⟩) ns cs At ct kb N GRow.nil (hs.set i ⟨(finP a e' [(u : Int), (v : Int)], arcs), Aa, ca⟩) S [] GRow.nil) := HSE.out.1
            have HMN : Hid (MadeP (pairW a e') (finP a e') (finP a e') [0, 0] (i + 1) (S.map (·.l)) ((hs.set i ⟨(finP a e' [(u : Int), (v : Int)], arcs), Aa, ca⟩).map (·.d))) := by
              have h1 := HB0.out
              rw [← HXA.out, ← HYA.out] at h1
              have h2 := h1.last (by rw [HXA.out, HM.out]; exact Nat.le_refl _)
              rw [List.map_set]
              exact h2.leave (pairW_plain a e') (by rw [← HM0.out]; exact HP.out)
            have HIN' : Hid ((∀ s ∈ S, IsPair n n' s.l) ∧ ∀ k, i + 1 ≤ k → k < ns → ∃ s, S[k]? = some s ∧ (hs.set i ⟨(finP a e' [(u : Int), (v : Int)], arcs), Aa, ca⟩)[k]? = some ⟨(finP a e' s.l, []), none, 0⟩) := ⟨HB0.out.prs, fun k' h1 h2 => by
              rw [List.getElem?_set, if_neg (by omega)]
              exact HB0.out.tail k' h1 h2⟩
            have i5 : (0 : Int) ≤ (i : Int) := by omega
            have i6 : (i : Int) < (ns : Int) := by omega
            clear HB0 HSE HPL
            go_wp2_with fail
            go_roundw
            case rel => exact ⟨i + 1, ns, cs, ct, _, At, N, _, S, by go_num, by omega, by omega, .inr (by have := HI9.out.1; omega), HRN, HMN, HIN'⟩
            case measure => have := HI9.out.2; simp [intOf]; omega
            -- X}
    · obtain rfl : ns = i := by omega
      clear HIN
      go_wp2_with fail
      exact hexit _ _ _ _ _ _ _ _ _ _ _ _ _ _ _ _ _ _ _ _ _ _ _ _ _ _ _ _ _ _ _ _ _ _ _ _ _ _ _ _ _ _ _ _ _ _ _ _ _ _ _ _ _ _ _ _ _ _ _ _ _ _ _ _ _ _ _ _ _ _ _ _ _ _ _ _ _ _ _ _ _ _ _ _ _ _ _ _ _ _ _ _ _ _ _ _ _ _ _ _ _ _ _ _ _ _ _ _ _ _ _ _ _ _ _ _ _ _ _ _ _ hns HI0 HR HP
end Go.Proofs.YtebdffabfimmkaaDoor
