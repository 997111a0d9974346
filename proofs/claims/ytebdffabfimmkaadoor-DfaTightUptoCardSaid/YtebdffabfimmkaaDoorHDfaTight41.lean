/- Where two arcs meet: the region of dfa.Both. -/
import Derived.Test.YtebdffabfimmkaaDoorHDfaTight40
import Derived.Test.YtebdffabfimmkaaDoorHDfaTight14
namespace Go.Proofs.YtebdffabfimmkaaDoor
open Go.RowKit Go.Maps

set_option linter.unusedVariables false in
set_option maxRecDepth 100000 in
set_option maxHeartbeats 8000000 in
theorem both_r (w W3 : World) (B : Nat) (hB : B ≤ w.heap.size) (ab ao n c : Nat) (H : List Sh) (HS : Hid (StsIn w B (some ⟨ab, ao, none⟩) n c H)) (eb eo n' c' : Nat) (H' : List Sh) (HS' : Hid (StsIn w B (some ⟨eb, eo, none⟩) n' c' H')) (hab : ab < B) (heb : eb < B)
    (a e' : List St) (HA : Hid (H.map (·.d) = a)) (HE : Hid (H'.map (·.d) = e')) (HG : Hid (Good a)) (HG' : Hid (Good e')) (hln : H.length = n) (hln' : H'.length = n') (HAL : Hid (a.length = n)) (HEL : Hid (e'.length = n')) (HT : Hid (Tab w)) (hnp : 0 < n) (hnp' : 0 < n') (hnm : n ≤ 20000) (hnm' : n' ≤ 20000)
    (p kb i u v : Nat) (X Y : Sh) (HXA : Hid (arcsS a (u : Int) = X.d.2)) (HYA : Hid (arcsS e' (v : Int) = Y.d.2)) (HXM : Hid (X ∈ H)) (HYM : Hid (Y ∈ H')) (HAX : Hid (Asc X.d.2 256)) (HAY : Hid (Asc Y.d.2 256)) (m' : Nat) (HM' : Hid (Y.d.2.length = m')) (hmm' : m' ≤ 140737488355328)
    (k : Nat) (lo hi tt : Int) (HPX : Hid (X.d.2[k]? = some (lo, hi, tt))) (pb : Nat) (hpbs : w.heap.size ≤ pb)
    (ns cs ct na ca b : Nat) (As At Aa : Option Addr) (N : DataW Unit) (hs : List Sh) (S : List Rw) (arcs : List Arc3) (M0 : List (List Int))
    (j : Nat) (hj : j < m') (lo' hi' tt' : Int) (HQY : Hid (Y.d.2[j]? = some (lo', hi', tt'))) (qb : Nat) (hqbs : w.heap.size ≤ qb) (HB3 : Hid (BoG a e' n n' w W3 p kb i u v X.d.2 Y.d.2 k j b ns cs ct As At N arcs na ca Aa hs S M0)) (HPB3 : Hid (W3.heap[pb]? = some (.cells #[.int .i64 lo, .int .i64 hi, .int .i64 tt] 41 (0, 0)) ∧ (Value.slice Aa na ca).ownBlock ≠ some pb))
    (HQB3 : Hid (W3.heap[qb]? = some (.cells #[.int .i64 lo', .int .i64 hi', .int .i64 tt'] 41 (0, 0)) ∧ (Value.slice Aa na ca).ownBlock ≠ some qb)) (hpW3 : pb < W3.heap.size) (hqW3 : qb < W3.heap.size) (u2 v2 : Nat) (HUV : Hid (max lo lo' = (u2 : Int) ∧ min hi hi' = (v2 : Int))) (huv : u2 ≤ v2)
    (c2 c3 c4 c5 c6 c7 c9 c10 c11 c13 c15 c19 c20 c21 c22 c23 c24 c25 c26 c27 c28 c29 c30 c31 c32 c33 c34 c35 c36 c37 c38 c39 c40 c41 c42 c43 c44 c45 c46 c47 c48 c49 c50 c51 c52 c53 c54 c55 c56 c57 c58 c59 c60 c61 c62 c63 c64 c65 c66 c67 c68 c69 c70 c71 c72 c73 c74 c75 c76 c77 c78 c79 c80 c81 c82 c83 c84 c85 c86 c87 c88 c89 c90 c91 c92 c93 c94 c95 c96 c97 c98 c99 c100 c101 c102 c103 c104 c105 c106 c107 c108 c109 c136 c137 c138 c139 c140 c141 c142 c143 c144 c145 c146 c147 c148 c149 c150 u110 u111 u112 u113 u114 u115 u116 u117 u118 u119 u120 u121 u122 u123 u124 u125 u126 u127 u128 u129 u130 u131 u132 u133 u134 u135 : Value) (Q0 : Exit → Act → World → Prop) (hQ0 : ∀ c (a a' : Act) w, a.defers = a'.defers → Q0 (.panic c) a w → Q0 (.panic c) a' w)
    (hexit : ∀ (ns' cs' ct' na' ca' : Nat) (As' At' Aa' : Option Addr) (N' : DataW Unit) (hs' : List Sh) (S' : List Rw) (arcs' : List Arc3) (W : World) (u110 u111 u112 u113 u114 u115 u116 u117 u118 u119 u120 u121 u122 u123 u124 u125 u126 u127 u128 u129 u130 u131 u132 u133 u134 u135 : Value), Hid (BoG a e' n n' w W p kb i u v X.d.2 Y.d.2 k (j + 1) (v2 + 1) ns' cs' ct' As' At' N' arcs' na' ca' Aa' hs' S' M0) → Hid (W.heap[pb]? = some (.cells #[.int .i64 lo, .int .i64 hi, .int .i64 tt] 41 (0, 0)) ∧ (Value.slice Aa' na' ca').ownBlock ≠ some pb) → Q0 .normal ⟨List.toArray (.slice (some ⟨ab, ao, none⟩) n c :: .slice (some ⟨eb, eo, none⟩) n' c' :: c2 :: c3 :: c4 :: c5 :: c6 :: c7 :: .pointer (some ⟨p, 0, none⟩) :: c9 :: c10 :: c11 :: .slice Aa' na' ca' :: c13 :: .pointer (some ⟨pb, 0, none⟩) :: c15 :: .pointer (some ⟨qb, 0, none⟩) :: .int .i64 (u2 : Int) :: .int .i64 (v2 : Int) :: c19 :: c20 :: c21 :: c22 :: c23 :: c24 :: c25 :: c26 :: c27 :: c28 :: c29 :: c30 :: c31 :: c32 :: c33 :: c34 :: c35 :: c36 :: c37 :: c38 :: c39 :: c40 :: c41 :: c42 :: c43 :: c44 :: c45 :: c46 :: c47 :: c48 :: c49 :: c50 :: c51 :: c52 :: c53 :: c54 :: c55 :: c56 :: c57 :: c58 :: c59 :: c60 :: c61 :: c62 :: c63 :: c64 :: c65 :: c66 :: c67 :: c68 :: c69 :: c70 :: c71 :: c72 :: c73 :: c74 :: c75 :: c76 :: c77 :: c78 :: c79 :: c80 :: c81 :: c82 :: c83 :: c84 :: c85 :: c86 :: c87 :: c88 :: c89 :: c90 :: c91 :: c92 :: c93 :: c94 :: c95 :: c96 :: c97 :: c98 :: c99 :: c100 :: c101 :: c102 :: c103 :: c104 :: c105 :: c106 :: c107 :: c108 :: c109 :: u110 :: u111 :: u112 :: u113 :: u114 :: u115 :: u116 :: u117 :: u118 :: u119 :: u120 :: u121 :: u122 :: u123 :: u124 :: u125 :: u126 :: u127 :: u128 :: u129 :: u130 :: u131 :: u132 :: u133 :: u134 :: u135 :: c136 :: c137 :: c138 :: c139 :: c140 :: c141 :: c142 :: c143 :: c144 :: c145 :: c146 :: c147 :: c148 :: c149 :: c150 :: []), []⟩ W) :
    Code.wp Tryd.prog (regOf Tryd.f21 20) Q0 ⟨List.toArray (.slice (some ⟨ab, ao, none⟩) n c :: .slice (some ⟨eb, eo, none⟩) n' c' :: c2 :: c3 :: c4 :: c5 :: c6 :: c7 :: .pointer (some ⟨p, 0, none⟩) :: c9 :: c10 :: c11 :: .slice Aa na ca :: c13 :: .pointer (some ⟨pb, 0, none⟩) :: c15 :: .pointer (some ⟨qb, 0, none⟩) :: .int .i64 (u2 : Int) :: .int .i64 (v2 : Int) :: c19 :: c20 :: c21 :: c22 :: c23 :: c24 :: c25 :: c26 :: c27 :: c28 :: c29 :: c30 :: c31 :: c32 :: c33 :: c34 :: c35 :: c36 :: c37 :: c38 :: c39 :: c40 :: c41 :: c42 :: c43 :: c44 :: c45 :: c46 :: c47 :: c48 :: c49 :: c50 :: c51 :: c52 :: c53 :: c54 :: c55 :: c56 :: c57 :: c58 :: c59 :: c60 :: c61 :: c62 :: c63 :: c64 :: c65 :: c66 :: c67 :: c68 :: c69 :: c70 :: c71 :: c72 :: c73 :: c74 :: c75 :: c76 :: c77 :: c78 :: c79 :: c80 :: c81 :: c82 :: c83 :: c84 :: c85 :: c86 :: c87 :: c88 :: c89 :: c90 :: c91 :: c92 :: c93 :: c94 :: c95 :: c96 :: c97 :: c98 :: c99 :: c100 :: c101 :: c102 :: c103 :: c104 :: c105 :: c106 :: c107 :: c108 :: c109 :: u110 :: u111 :: u112 :: u113 :: u114 :: u115 :: u116 :: u117 :: u118 :: u119 :: u120 :: u121 :: u122 :: u123 :: u124 :: u125 :: u126 :: u127 :: u128 :: u129 :: u130 :: u131 :: u132 :: u133 :: u134 :: u135 :: c136 :: c137 :: c138 :: c139 :: c140 :: c141 :: c142 :: c143 :: c144 :: c145 :: c146 :: c147 :: c148 :: c149 :: c150 :: []), []⟩ W3 := by
  conv => arg 2; whnf
  have hxm : X.d ∈ a := by rw [← HA.out]; exact List.mem_map_of_mem HXM.out
  have hym : Y.d ∈ e' := by rw [← HE.out]; exact List.mem_map_of_mem HYM.out
  have hox := HAX.out.ok _ (List.mem_of_getElem? HPX.out)
  have hoy := HAY.out.ok _ (List.mem_of_getElem? HQY.out)
  have htx := HG.out.to_ _ hxm _ (List.mem_of_getElem? HPX.out)
  have hty := HG'.out.to_ _ hym _ (List.mem_of_getElem? HQY.out)
  rw [HAL.out] at htx
  rw [HEL.out] at hty
  simp only at hox hoy htx hty
  have hmxn := HUV.out
  obtain ⟨T, rfl⟩ := Int.eq_ofNat_of_zero_le htx.1
  obtain ⟨T', rfl⟩ := Int.eq_ofNat_of_zero_le hty.1
  have hT : T < n := by omega
  have hT' : T' < n' := by omega
  have hu256 : u2 ≤ 256 := by omega
  have hv256 : v2 ≤ 256 := by omega
  have q3 : decide (u2 ≤ v2) = true := decide_eq_true huv
  obtain ⟨X2, hX2⟩ : ∃ X, H[T]? = some X := ⟨H[T]'(by omega), List.getElem?_eq_getElem _⟩
  obtain ⟨Y2, hY2⟩ : ∃ X, H'[T']? = some X := ⟨H'[T']'(by omega), List.getElem?_eq_getElem _⟩
  obtain ⟨fx, hfx⟩ : ∃ f, X2.d.1 = f := ⟨_, rfl⟩
  obtain ⟨fy, hfy⟩ : ∃ f, Y2.d.1 = f := ⟨_, rfl⟩
  have HF2 : Hid (finP a e' [(T : Int), (T' : Int)] = (fx && fy)) := by
    show (finD a T && finD e' T') = _
    unfold finD
    rw [← HA.out, ← HE.out, Int.toNat_natCast, Int.toNat_natCast, List.getElem?_map, List.getElem?_map, hX2, hY2]
    show (X2.d.1 && Y2.d.1) = _
    rw [hfx, hfy]
  have HCE : Hid (∀ W, Below w.heap.size w W → W.cell? ⟨ab, ao + T * 2, none⟩ = some (.bool fx) ∧ W.cell? ⟨eb, eo + T' * 2, none⟩ = some (.bool fy)) := fun W hW => by
    obtain ⟨b2, o2, e2, _, hc2⟩ := (HS.out.keep (hW.mono hB) (Nat.le_refl _)).at_ hnp
    obtain ⟨b3, o3, e3, _, hc3⟩ := (HS'.out.keep (hW.mono hB) (Nat.le_refl _)).at_ hnp'
    simp at e2 e3
    obtain ⟨rfl, rfl⟩ := e2
    obtain ⟨rfl, rfl⟩ := e3
    rw [← hfx, ← hfy]
    exact ⟨(hc2 T X2 hX2).1, (hc3 T' Y2 hY2).1⟩
  have HTI : Hid (∀ W g, Below W3.heap.size W3 W → W3.heap.size ≤ g → W.heap[g]? = some (.cells #[.int .i64 (T : Int), .int .i64 (T' : Int)] 3 (0, 0)) → TiG w W p As ns cs At ct kb N ⟨.slice Aa na ca, na, arcsC arcs⟩ hs S [⟨some ⟨g, 0, none⟩, 2, [(T : Int), (T' : Int)]⟩] GRow.nil) := fun W g hb hg hk => HB3.out.ti.newE hb ⟨rfl, .inr ⟨g, 2, _, rfl, hg, hk, Nat.le_refl _, by unfold maxLen; omega, rfl, rfl⟩⟩
  have HST : Hid (∀ W, Below w.heap.size w W → W.heap[pb]? = some (.cells #[.int .i64 lo, .int .i64 hi, .int .i64 (T : Int)] 41 (0, 0)) → W.heap[qb]? = some (.cells #[.int .i64 lo', .int .i64 hi', .int .i64 (T' : Int)] 41 (0, 0)) → W.cell? ⟨pb, 2, none⟩ = some (.int .i64 (T : Int)) ∧ W.cell? ⟨qb, 2, none⟩ = some (.int .i64 (T' : Int)) ∧ W.cell? ⟨ab, ao + T * 2, none⟩ = some (.bool fx) ∧ W.cell? ⟨eb, eo + T' * 2, none⟩ = some (.bool fy)) := fun W hW h1 h2 => ⟨cell_of_row W pb 2 _ _ (0, 0) h1, cell_of_row W qb 2 _ _ (0, 0) h2, (HCE.out W hW).1, (HCE.out W hW).2⟩
  have HSTA : Hid (∀ (f : Bool) W g, Below W3.heap.size W3 W → W3.heap.size ≤ g → W.heap[g]? = some (.cells #[.int .i64 (T : Int), .int .i64 (T' : Int)] 3 (0, 0)) → Calls Tryd.prog 27 #[.pointer (some ⟨p, 0, none⟩), .slice (some ⟨g, 0, none⟩) 2 2, .bool f] W fun e w11 => ∃ i11 : Nat, e = .returned (.int .i64 (i11 : Int)) ∧
      w11.heap[pb]? = some (.cells #[.int .i64 lo, .int .i64 hi, .int .i64 (T : Int)] 41 (0, 0)) ∧ w11.heap[qb]? = some (.cells #[.int .i64 lo', .int .i64 hi', .int .i64 (T' : Int)] 41 (0, 0)) ∧ ∃ ns' cs' ct' As' At' N' hs' S', TiG w w11 p As' ns' cs' At' ct' kb N' ⟨.slice Aa na ca, na, arcsC arcs⟩ hs' S' [] GRow.nil ∧
        ((findE [(T : Int), (T' : Int)] (S.map (·.l)) = some i11 ∧ ns' = ns ∧ hs' = hs ∧ S' = S) ∨ (findE [(T : Int), (T' : Int)] (S.map (·.l)) = none ∧ i11 = ns ∧ ns' = ns + 1 ∧ hs' = hs ++ [⟨(f, []), none, 0⟩] ∧ S' = S ++ [⟨some ⟨g, 0, none⟩, 2, [(T : Int), (T' : Int)]⟩]))) := fun f W g hb hg hk => by
    have hW := HTI.out W g hb hg hk
    have hnsb : ns ≤ 1000000 := by have h1 := HB3.out.few; have h2 := HB3.out.pos.le; omega
    refine (state_any W w.heap.size p As ns cs At ct kb N _ hs S hW.mr hnsb hW.tab HT.out.lt ⟨some ⟨g, 0, none⟩, 2, [(T : Int), (T' : Int)]⟩ 2 rfl (Fam.turn' (F := []) hW.fam) (by omega) (fun z hz => by simp at hz; omega) f).mono ?_
    rintro e w11 ⟨i11, rfl, hk11, ht11, hcase⟩
    refine ⟨i11, rfl, hk11.other pb _ _ _ (by decide) (by decide) (by decide) ((hb.block pb hpW3).trans HPB3.out.1), hk11.other qb _ _ _ (by decide) (by decide) (by decide) ((hb.block qb hqW3).trans HQB3.out.1), ?_⟩
    rcases hcase with ⟨h1, h2⟩ | ⟨h1, h2, As', cs', At', ct', N', h3⟩
    · exact ⟨ns, cs, ct, As, At, N, hs, S, hW.old hk11 ht11 h2, .inl ⟨h1, rfl, rfl, rfl⟩⟩
    · exact ⟨ns + 1, cs', ct', As', At', N', _, _, hW.new hk11 ht11 h3, .inr ⟨h1, h2, rfl, rfl, rfl⟩⟩
  clear hX2 hY2 hfx hfy hxm hym hox hoy htx hty hmxn
  have c2 := cell_of_row W3 pb 2 _ _ (0, 0) HPB3.out.1
  have d2 := cell_of_row W3 qb 2 _ _ (0, 0) HQB3.out.1
  obtain ⟨x4, y4⟩ := HCE.out W3 HB3.out.ti.bel
  have haw3 : ab < W3.heap.size := by have := HB3.out.ti.bel.size; omega
  have hew3 : eb < W3.heap.size := by have := HB3.out.ti.bel.size; omega
  have HSK : Hid (∀ W, Below W3.heap.size W3 W → W.cell? ⟨pb, 2, none⟩ = some (.int .i64 (T : Int)) ∧ W.cell? ⟨qb, 2, none⟩ = some (.int .i64 (T' : Int)) ∧ W.cell? ⟨ab, ao + T * 2, none⟩ = some (.bool fx) ∧ W.cell? ⟨eb, eo + T' * 2, none⟩ = some (.bool fy)) := fun W hW => HST.out W (bcall HB3.out.ti.bel hW) ((hW.block pb hpW3).trans HPB3.out.1) ((hW.block qb hqW3).trans HQB3.out.1)
  have HS3 := Lib.hid (HST.out W3 HB3.out.ti.bel HPB3.out.1 HQB3.out.1)
  have HAH : Hid (∀ x ∈ arcs, 0 ≤ x.2.1 ∧ x.2.1 ≤ 256) := HB3.out.hi
  have HNA : Hid (na ≤ 256) := by have h1 := HB3.out.nab; have h2 := HB3.out.pos.le; show _ ≤ _; omega
  have hpr : Hid (IsPair n n' [(T : Int), (T' : Int)]) := ⟨T, T', hT, hT', rfl⟩
  clear HCE
  cases fx
  · -- R0{
    go_wp2_with fail
    refine wp_region_held_drew (S := (fun w' => w'.cell? ⟨pb, 2, none⟩ = some (.int .i64 (T : Int)) ∧ w'.cell? ⟨qb, 2, none⟩ = some (.int .i64 (T' : Int)) ∧ w'.cell? ⟨ab, ao + T * 2, none⟩ = some (.bool false) ∧ w'.cell? ⟨eb, eo + T' * 2, none⟩ = some (.bool fy))) (by kernel_rfl) ?_ (fun hHeld => ?_)
    · (try dsimp only); (first | assumption | exact HS3.out | exact HS11.out | exact HS12.out | (refine HSK.out _ ?_; (repeat (first | exact brefl _ | refine Below.drew ?_ | refine bnew ?_ _)); done))
    refine wpAnyH_take (i := 0) (v := ?_) rfl (by kernel_rfl) (by kernel_rfl) (by kernel_rfl) (fun c _ w h => hQ0 c _ _ w (by rfl) h) (Or.inl ⟨by rfl, ?_⟩) (by assumption) ?_
    rotate_left
    · intro w hSw; (try dsimp only at hSw); go_simp; (try with_reducible rfl)
    try simp only [Act.put, List.setIfInBounds_toArray]
    refine wpAnyH_take (i := 1) (v := ?_) rfl (by kernel_rfl) (by kernel_rfl) (by kernel_rfl) (fun c _ w h => hQ0 c _ _ w (by rfl) h) (Or.inl ⟨by rfl, ?_⟩) (by assumption) ?_
    rotate_left
    · intro w hSw; (try dsimp only at hSw); go_simp; (try with_reducible rfl)
    try simp only [Act.put]
    refine wpAnyH_take (i := 2) (v := ?_) rfl (by kernel_rfl) (by kernel_rfl) (by kernel_rfl) (fun c _ w h => hQ0 c _ _ w (by rfl) h) (Or.inl ⟨by rfl, ?_⟩) (by assumption) ?_
    rotate_left
    · intro w hSw; (try dsimp only at hSw); go_simp; (try with_reducible rfl)
    try simp only [Act.put]
    refine wpAnyH_take (i := 3) (v := ?_) rfl (by kernel_rfl) (by kernel_rfl) (by kernel_rfl) (fun c _ w h => hQ0 c _ _ w (by rfl) h) (Or.inl ⟨by rfl, ?_⟩) (by assumption) ?_
    rotate_left
    · intro w hSw; (try dsimp only at hSw); go_simp; (try with_reducible rfl)
    try simp only [Act.put]
    refine wpAnyH_take (i := 4) (v := ?_) rfl (by kernel_rfl) (by kernel_rfl) (by kernel_rfl) (fun c _ w h => hQ0 c _ _ w (by rfl) h) (Or.inl ⟨by rfl, ?_⟩) (by assumption) ?_
    rotate_left
    · intro w hSw; (try dsimp only at hSw); go_simp; (try with_reducible rfl)
    try simp only [Act.put]
    refine wpAnyH_take (i := 5) (v := ?_) rfl (by kernel_rfl) (by kernel_rfl) (by kernel_rfl) (fun c _ w h => hQ0 c _ _ w (by rfl) h) (Or.inl ⟨by rfl, ?_⟩) (by assumption) ?_
    rotate_left
    · intro w hSw; (try dsimp only at hSw); go_simp; (try with_reducible rfl)
    try simp only [Act.put]
    refine wpAnyH_take (i := 6) (v := ?_) rfl (by kernel_rfl) (by kernel_rfl) (by kernel_rfl) (fun c _ w h => hQ0 c _ _ w (by rfl) h) (Or.inl ⟨by rfl, ?_⟩) (by assumption) ?_
    rotate_left
    · intro w hSw; (try dsimp only at hSw); go_simp; (try with_reducible rfl)
    try simp only [Act.put]
    refine wpAnyH_take (i := 7) (v := ?_) rfl (by kernel_rfl) (by kernel_rfl) (by kernel_rfl) (fun c _ w h => hQ0 c _ _ w (by rfl) h) (Or.inl ⟨by rfl, ?_⟩) (by assumption) ?_
    rotate_left
    · intro w hSw; (try dsimp only at hSw); go_simp; (try with_reducible rfl)
    try simp only [Act.put]
    refine wpAnyH_take (i := 9) (v := ?_) rfl (by kernel_rfl) (by kernel_rfl) (by kernel_rfl) (fun c _ w h => hQ0 c _ _ w (by rfl) h) (Or.inl ⟨by rfl, ?_⟩) (by assumption) ?_
    rotate_left
    · intro w hSw; (try dsimp only at hSw); go_simp; (try with_reducible rfl)
    try simp only [Act.put]
    refine wpAnyH_take (i := 10) (v := ?_) rfl (by kernel_rfl) (by kernel_rfl) (by kernel_rfl) (fun c _ w h => hQ0 c _ _ w (by rfl) h) (Or.inl ⟨by rfl, ?_⟩) (by assumption) ?_
    rotate_left
    · intro w hSw; (try dsimp only at hSw); go_simp; (try with_reducible rfl)
    try simp only [Act.put]
    refine wpAnyH_take (i := 11) (v := ?_) rfl (by kernel_rfl) (by kernel_rfl) (by kernel_rfl) (fun c _ w h => hQ0 c _ _ w (by rfl) h) (Or.inl ⟨by rfl, ?_⟩) (by assumption) ?_
    rotate_left
    · intro w hSw; (try dsimp only at hSw); go_simp; (try with_reducible rfl)
    try simp only [Act.put]
    refine wpAnyH_take (i := 12) (v := ?_) rfl (by kernel_rfl) (by kernel_rfl) (by kernel_rfl) (fun c _ w h => hQ0 c _ _ w (by rfl) h) (Or.inl ⟨by rfl, ?_⟩) (by assumption) ?_
    rotate_left
    · intro w hSw; (try dsimp only at hSw); go_simp; (try with_reducible rfl)
    try simp only [Act.put]
    refine wpAnyH_take (i := 13) (v := ?_) rfl (by kernel_rfl) (by kernel_rfl) (by kernel_rfl) (fun c _ w h => hQ0 c _ _ w (by rfl) h) (Or.inl ⟨by rfl, ?_⟩) (by assumption) ?_
    rotate_left
    · intro w hSw; (try dsimp only at hSw); go_simp; (try with_reducible rfl)
    try simp only [Act.put]
    refine wpAnyH_take (i := 14) (v := ?_) rfl (by kernel_rfl) (by kernel_rfl) (by kernel_rfl) (fun c _ w h => hQ0 c _ _ w (by rfl) h) (Or.inl ⟨by rfl, ?_⟩) (by assumption) ?_
    rotate_left
    · intro w hSw; (try dsimp only at hSw); go_simp; (try with_reducible rfl)
    try simp only [Act.put]
    refine wpAnyH_take (i := 15) (v := ?_) rfl (by kernel_rfl) (by kernel_rfl) (by kernel_rfl) (fun c _ w h => hQ0 c _ _ w (by rfl) h) (Or.inl ⟨by rfl, ?_⟩) (by assumption) ?_
    rotate_left
    · intro w hSw; (try dsimp only at hSw); go_simp; (try with_reducible rfl)
    try simp only [Act.put]
    refine wpAnyH_take (i := 16) (v := undef) rfl (by kernel_rfl) (by kernel_rfl) (by kernel_rfl) (fun c _ w h => hQ0 c _ _ w (by rfl) h) (Or.inr ⟨by kernel_rfl, rfl⟩) (by assumption) ?_
    try simp only [Act.put]
    refine wpAnyH_take (i := 17) (v := undef) rfl (by kernel_rfl) (by kernel_rfl) (by kernel_rfl) (fun c _ w h => hQ0 c _ _ w (by rfl) h) (Or.inr ⟨by kernel_rfl, rfl⟩) (by assumption) ?_
    try simp only [Act.put]
    refine wpAnyH_take (i := 18) (v := undef) rfl (by kernel_rfl) (by kernel_rfl) (by kernel_rfl) (fun c _ w h => hQ0 c _ _ w (by rfl) h) (Or.inr ⟨by kernel_rfl, rfl⟩) (by assumption) ?_
    try simp only [Act.put]
    refine wpAnyH_take (i := 19) (v := undef) rfl (by kernel_rfl) (by kernel_rfl) (by kernel_rfl) (fun c _ w h => hQ0 c _ _ w (by rfl) h) (Or.inr ⟨by kernel_rfl, rfl⟩) (by assumption) ?_
    try simp only [Act.put]
    refine wpAnyH_take (i := 20) (v := undef) rfl (by kernel_rfl) (by kernel_rfl) (by kernel_rfl) (fun c _ w h => hQ0 c _ _ w (by rfl) h) (Or.inr ⟨by kernel_rfl, rfl⟩) (by assumption) ?_
    try simp only [Act.put]
    refine wpAnyH_take (i := 21) (v := undef) rfl (by kernel_rfl) (by kernel_rfl) (by kernel_rfl) (fun c _ w h => hQ0 c _ _ w (by rfl) h) (Or.inr ⟨by kernel_rfl, rfl⟩) (by assumption) ?_
    try simp only [Act.put]
    refine wpAnyH_take (i := 22) (v := ?_) rfl (by kernel_rfl) (by kernel_rfl) (by kernel_rfl) (fun c _ w h => hQ0 c _ _ w (by rfl) h) (Or.inl ⟨by rfl, ?_⟩) (by assumption) ?_
    rotate_left
    · intro w hSw; (try dsimp only at hSw); go_simp; (try with_reducible rfl)
    try simp only [Act.put]
    refine wpAnyH_ready (rs := [8]) (by kernel_rfl) (by simp) ?_
    refine AllReadyH.cons rfl (fun K hK => ?_) AllReadyH.nil
    go_simp
    refine hK.out _ _ ?_ (fun hHeld => ?_)
    · (try dsimp only); (first | assumption | exact HS3.out | exact HS11.out | exact HS12.out | (refine HSK.out _ ?_; (repeat (first | exact brefl _ | refine Below.drew ?_ | refine bnew ?_ _)); done))
    clear hK K
    try simp only [Act.put, List.setIfInBounds_toArray, List.set_cons_zero, List.set_cons_succ]
    refine wpAnyH_ready (rs := [23]) (by kernel_rfl) (by simp) ?_
    refine AllReadyH.cons rfl (fun K hK => ?_) AllReadyH.nil
    go_simp
    go_at_call 27
    refine (HSTA.out _ _ _ (by repeat (first | exact brefl _ | refine Below.drew ?_ | refine bnew ?_ _)) (by exact Nat.le_refl _) (by exact heap_alloc_new _ _)).mono ?_
    rintro e w11 ⟨i11, rfl, hp11, hq11, ns', cs', ct', As', At', N', hs', S', hr11, hca11⟩
    have HP11 := Lib.hid (And.intro hp11 hq11)
    have HR11 := Lib.hid hr11
    have HCA := Lib.hid hca11
    have HS11 := Lib.hid (HST.out w11 hr11.bel hp11 hq11)
    have HCU : Hid (w11.ownsRow w.heap.size 41 3 (.slice Aa na ca) na (arcsC arcs)) := hr11.mr.g.arcs.own _ (List.mem_cons_self ..)
    clear hp11 hq11 hr11 hca11
    refine hK.out _ _ ?_ (fun hHeld => ?_)
    · (try dsimp only); (first | assumption | exact HS3.out | exact HS11.out | exact HS12.out | (refine HSK.out _ ?_; (repeat (first | exact brefl _ | refine Below.drew ?_ | refine bnew ?_ _)); done))
    clear hK K
    try simp only [Act.put, List.setIfInBounds_toArray, List.set_cons_zero, List.set_cons_succ]
    refine wpAnyH_take (i := 24) (v := ?_) rfl (by kernel_rfl) (by kernel_rfl) (by kernel_rfl) (fun c _ w h => hQ0 c _ _ w (by rfl) h) (Or.inl ⟨by rfl, ?_⟩) (by assumption) ?_
    rotate_left
    · intro w hSw; (try dsimp only at hSw); go_simp; (try with_reducible rfl)
    try simp only [Act.put, List.setIfInBounds_toArray]
    refine wpAnyH_ready (rs := [25]) (by kernel_rfl) (by simp) ?_
    refine AllReadyH.cons rfl (fun K hK => ?_) AllReadyH.nil
    go_simp
    go_at_call 30
    refine (join_any _ w.heap.size (by exact HR11.out.bel.size) Aa na ca arcs (by exact HCU.out) (by have := HNA.out; omega) (u2 : Int) (v2 : Int) (i11 : Int) ⟨by omega, by omega⟩ HAH.out).mono ?_
    rintro e w12 ⟨v12, rfl, hown12, hg12, hm12⟩
    have HO12 := Lib.hid hown12
    have HG12 : Hid (w11.grownBy w12 (Value.slice Aa na ca).ownBlock) := ⟨hg12.os, hg12.tape, hg12.output, hg12.size, hg12.block⟩
    have HM12 : Hid (v12.ownBlock = (Value.slice Aa na ca).ownBlock ∨ ∃ g, v12.ownBlock = some g ∧ w11.heap.size ≤ g) := hm12
    have HR12 : Hid (TiG w w12 p As' ns' cs' At' ct' kb N' ⟨v12, (joinA arcs ((u2 : Int), (v2 : Int), (i11 : Int))).length, arcsC (joinA arcs ((u2 : Int), (v2 : Int), (i11 : Int)))⟩ hs' S' [] GRow.nil) := HR11.out.growC HT.out HG12.out HO12.out HM12.out
    have HP12 : Hid (w12.heap[pb]? = some (.cells #[.int .i64 lo, .int .i64 hi, .int .i64 (T : Int)] 41 (0, 0)) ∧ w12.heap[qb]? = some (.cells #[.int .i64 lo', .int .i64 hi', .int .i64 (T' : Int)] 41 (0, 0))) := ⟨(HG12.out.block pb (Array.getElem?_eq_some_iff.1 HP11.out.1).1 (fun h => HPB3.out.2 h.symm)).trans HP11.out.1, (HG12.out.block qb (Array.getElem?_eq_some_iff.1 HP11.out.2).1 (fun h => HQB3.out.2 h.symm)).trans HP11.out.2⟩
    have HS12 := Lib.hid (HST.out w12 HR12.out.bel HP12.out.1 HP12.out.2)
    clear hown12 hg12 hm12
    refine hK.out _ _ ?_ (fun hHeld => ?_)
    · (try dsimp only); (first | assumption | exact HS3.out | exact HS11.out | exact HS12.out | (refine HSK.out _ ?_; (repeat (first | exact brefl _ | refine Below.drew ?_ | refine bnew ?_ _)); done))
    clear hK K
    try simp only [Act.put, List.setIfInBounds_toArray, List.set_cons_zero, List.set_cons_succ]
    refine wpAnyH_take (i := 26) (v := ?_) rfl (by kernel_rfl) (by kernel_rfl) (by kernel_rfl) (fun c _ w h => hQ0 c _ _ w (by rfl) h) (Or.inl ⟨by rfl, ?_⟩) (by assumption) ?_
    rotate_left
    · intro w hSw; (try dsimp only at hSw); go_simp; (try with_reducible rfl)
    try simp only [Act.put, List.setIfInBounds_toArray]
    refine wpAnyH_done (by kernel_rfl) ?_ _
    all_goals
      obtain ⟨Ac, cac, rfl, _⟩ := own_shape HO12.out
      have HB12 := Lib.hid (HB3.out.take (f := false) HXA.out HYA.out HAX.out HAY.out HPX.out HQY.out HUV.out.1 HUV.out.2 huv rfl rfl (by rw [HF2.out]; rfl) rfl hpr.out HR12.out rfl HCA.out)
      have HPZ := Lib.hid (And.intro HP12.out.1 (show (Value.slice Ac (joinA arcs ((u2 : Int), (v2 : Int), (i11 : Int))).length cac).ownBlock ≠ some pb from fun h => by
        rcases HM12.out with h1 | ⟨g, h1, h2⟩
        · exact HPB3.out.2 (h1.symm.trans h)
        · rw [h1] at h
          injection h with h
          have := (Array.getElem?_eq_some_iff.1 HP11.out.1).1
          omega))
      exact hexit _ _ _ _ _ _ _ _ _ _ _ _ _ _ _ _ _ _ _ _ _ _ _ _ _ _ _ _ _ _ _ _ _ _ _ _ _ _ _ HB12 HPZ
    -- R0}
  · -- R1{
    go_wp2_with fail
    go_region_held3 (fun w' => w'.cell? ⟨pb, 2, none⟩ = some (.int .i64 (T : Int)) ∧ w'.cell? ⟨qb, 2, none⟩ = some (.int .i64 (T' : Int)) ∧ w'.cell? ⟨ab, ao + T * 2, none⟩ = some (.bool true) ∧ w'.cell? ⟨eb, eo + T' * 2, none⟩ = some (.bool fy))
      (first
        | assumption
        | exact HS3.out
        | exact HS11.out
        | exact HS12.out
        | (refine HSK.out _ ?_; (repeat (first | exact brefl _ | refine Below.drew ?_ | refine bnew ?_ _)); done))
      (first
        | (go_at_call 27
           refine (HSTA.out _ _ _ (by repeat (first | exact brefl _ | refine Below.drew ?_ | refine bnew ?_ _)) (by exact Nat.le_refl _) (by exact heap_alloc_new _ _)).mono ?_
           rintro e w11 ⟨i11, rfl, hp11, hq11, ns', cs', ct', As', At', N', hs', S', hr11, hca11⟩
           have HP11 := Lib.hid (And.intro hp11 hq11)
           have HR11 := Lib.hid hr11
           have HCA := Lib.hid hca11
           have HS11 := Lib.hid (HST.out w11 hr11.bel hp11 hq11)
           have HCU : Hid (w11.ownsRow w.heap.size 41 3 (.slice Aa na ca) na (arcsC arcs)) := hr11.mr.g.arcs.own _ (List.mem_cons_self ..)
           clear hp11 hq11 hr11 hca11)
        | (go_at_call 30
           refine (join_any _ w.heap.size (by exact HR11.out.bel.size) Aa na ca arcs (by exact HCU.out) (by have := HNA.out; omega) (u2 : Int) (v2 : Int) (i11 : Int) ⟨by omega, by omega⟩ HAH.out).mono ?_
           rintro e w12 ⟨v12, rfl, hown12, hg12, hm12⟩
           have HO12 := Lib.hid hown12
           have HG12 : Hid (w11.grownBy w12 (Value.slice Aa na ca).ownBlock) := ⟨hg12.os, hg12.tape, hg12.output, hg12.size, hg12.block⟩
           have HM12 : Hid (v12.ownBlock = (Value.slice Aa na ca).ownBlock ∨ ∃ g, v12.ownBlock = some g ∧ w11.heap.size ≤ g) := hm12
           have HR12 : Hid (TiG w w12 p As' ns' cs' At' ct' kb N' ⟨v12, (joinA arcs ((u2 : Int), (v2 : Int), (i11 : Int))).length, arcsC (joinA arcs ((u2 : Int), (v2 : Int), (i11 : Int)))⟩ hs' S' [] GRow.nil) := HR11.out.growC HT.out HG12.out HO12.out HM12.out
           have HP12 : Hid (w12.heap[pb]? = some (.cells #[.int .i64 lo, .int .i64 hi, .int .i64 (T : Int)] 41 (0, 0)) ∧ w12.heap[qb]? = some (.cells #[.int .i64 lo', .int .i64 hi', .int .i64 (T' : Int)] 41 (0, 0))) := ⟨(HG12.out.block pb (Array.getElem?_eq_some_iff.1 HP11.out.1).1 (fun h => HPB3.out.2 h.symm)).trans HP11.out.1, (HG12.out.block qb (Array.getElem?_eq_some_iff.1 HP11.out.2).1 (fun h => HQB3.out.2 h.symm)).trans HP11.out.2⟩
           have HS12 := Lib.hid (HST.out w12 HR12.out.bel HP12.out.1 HP12.out.2)
           clear hown12 hg12 hm12))
    all_goals
      obtain ⟨Ac, cac, rfl, _⟩ := own_shape HO12.out
      have HB12 := Lib.hid (HB3.out.take (f := fy) HXA.out HYA.out HAX.out HAY.out HPX.out HQY.out HUV.out.1 HUV.out.2 huv rfl rfl (by rw [HF2.out]; rfl) rfl hpr.out HR12.out rfl HCA.out)
      have HPZ := Lib.hid (And.intro HP12.out.1 (show (Value.slice Ac (joinA arcs ((u2 : Int), (v2 : Int), (i11 : Int))).length cac).ownBlock ≠ some pb from fun h => by
        rcases HM12.out with h1 | ⟨g, h1, h2⟩
        · exact HPB3.out.2 (h1.symm.trans h)
        · rw [h1] at h
          injection h with h
          have := (Array.getElem?_eq_some_iff.1 HP11.out.1).1
          omega))
      exact hexit _ _ _ _ _ _ _ _ _ _ _ _ _ _ _ _ _ _ _ _ _ _ _ _ _ _ _ _ _ _ _ _ _ _ _ _ _ _ _ HB12 HPZ
    -- R1}
end Go.Proofs.YtebdffabfimmkaaDoor
