/- The reference's Both: the bytes of one pair. -/
import Derived.Test.YtebdffabfimmkaaDoorHDfaTight29
namespace Go.Proofs.YtebdffabfimmkaaDoor
open Go.RowKit Go.Maps

/-- In the midst of the bytes of one pair. -/
structure BoC (w W : World) (a e : List St) (pp sp : Nat) (fin : Bool) (Ao : Option Addr) (q co : Nat) (hs : List Sh) (u v : Nat) (ch : Nat) (ps0 : List (Nat × Nat)) (Ap : Option Addr) (m cp : Nat) (ps : List (Nat × Nat)) (Ac : Option Addr) (pc cc : Nat) (arcs : List Arc3) : Prop where
  gr : GrR w W sp fin Ao q co Ac pc cc arcs hs
  row_ : W.ownsRow w.heap.size 76 2 (.slice Ap m cp) m (pairsC ps)
  pb : W.heap[pp]? = some (.cells #[.int .i64 (u : Int), .int .i64 (v : Int)] 76 (0, 0))
  pn : (Value.slice Ap m cp).ownBlock ≠ some pp
  by_ : ByP (pairW a e) (pairL (u, v)) (ps0.map pairL) ch (ps.map pairL) arcs
  few : pc ≤ ch
  fewm : m ≤ ps0.length + ch
  hi : ∀ x ∈ arcs, 0 ≤ x.2.1 ∧ x.2.1 ≤ 256
section
variable {w W W' : World} {a e : List St} {pp sp : Nat} {fin : Bool} {Ao : Option Addr} {q co : Nat} {hs : List Sh} {u v ch : Nat} {ps0 : List (Nat × Nat)} {Ap : Option Addr} {m cp : Nat} {ps : List (Nat × Nat)} {Ac : Option Addr} {pc cc : Nat} {arcs : List Arc3}
theorem BoC.keep (h : BoC w W a e pp sp fin Ao q co hs u v ch ps0 Ap m cp ps Ac pc cc arcs) (hb : Below W.heap.size W W') : BoC w W' a e pp sp fin Ao q co hs u v ch ps0 Ap m cp ps Ac pc cc arcs := ⟨h.gr.keep hb, own_kept h.row_ hb, (hb.block pp (Array.getElem?_eq_some_iff.1 h.pb).1).trans h.pb, h.pn, h.by_, h.few, h.fewm, h.hi⟩
theorem BoC.len (h : BoC w W a e pp sp fin Ao q co hs u v ch ps0 Ap m cp ps Ac pc cc arcs) : ps.length = m := by
  have := h.row_.1
  rw [pairsC_len] at this
  omega
theorem BoC.none_ (h : BoC w W a e pp sp fin Ao q co hs u v ch ps0 Ap m cp ps Ac pc cc arcs) (hn : (pairW a e).step (pairL (u, v)) ch = none) : BoC w W a e pp sp fin Ao q co hs u v (ch + 1) ps0 Ap m cp ps Ac pc cc arcs := ⟨h.gr, h.row_, h.pb, h.pn, h.by_.none_ hn, by have := h.few; omega, by have := h.fewm; omega, h.hi⟩
/-- An arc more, to a pair that is met or new. -/
theorem BoC.grow {y : Nat × Nat} {k : Nat} {ps1 : List (Nat × Nat)} {Ap1 : Option Addr} {m1 cp1 : Nat} {A2 : Option Addr} {p2 c2 : Nat} {W1 : World}
    (h : BoC w W a e pp sp fin Ao q co hs u v ch ps0 Ap m cp ps Ac pc cc arcs) (hch : ch < 256) (hy : (pairW a e).step (pairL (u, v)) ch = some (pairL y))
    (hk : (findI (fun z => (pairW a e).eqv z (pairL y)) (ps.map pairL) = some k ∧ ps1 = ps) ∨ (findI (fun z => (pairW a e).eqv z (pairL y)) (ps.map pairL) = none ∧ k = (ps.map pairL).length ∧ ps1 = ps ++ [y]))
    (hgr : GrR w W1 sp fin Ao q co Ac pc cc arcs hs) (hrow : W1.ownsRow w.heap.size 76 2 (.slice Ap1 m1 cp1) m1 (pairsC ps1)) (hpb : W1.heap[pp]? = some (.cells #[.int .i64 (u : Int), .int .i64 (v : Int)] 76 (0, 0))) (hpn : (Value.slice Ap1 m1 cp1).ownBlock ≠ some pp)
    (hp2 : (growA arcs (ch : Int) (k : Int)).length = p2) (hown : W'.ownsRow w.heap.size 41 3 (.slice A2 p2 c2) p2 (arcsC (growA arcs (ch : Int) (k : Int)))) (hg : W1.grownBy W' (Value.slice Ac pc cc).ownBlock) (hor : (Value.slice A2 p2 c2).ownBlock = (Value.slice Ac pc cc).ownBlock ∨ ∃ g, (Value.slice A2 p2 c2).ownBlock = some g ∧ W1.heap.size ≤ g) :
    (W'.cell? ⟨sp, 1, none⟩ = some (.slice Ac pc cc) ∧ W'.frozen? ⟨sp, 1, none⟩ = false ∧ sp < W'.heap.size) ∧ BoC w (W'.setCell ⟨sp, 1, none⟩ (.slice A2 p2 c2)) a e pp sp fin Ao q co hs u v (ch + 1) ps0 Ap1 m1 cp1 ps1 A2 p2 c2 (growA arcs (ch : Int) (k : Int)) := by
  obtain ⟨h1, h2, h3⟩ := hgr.grow hown hg hor
  have hpb1 : W'.heap[pp]? = some (.cells #[.int .i64 (u : Int), .int .i64 (v : Int)] 76 (0, 0)) := blk_kept hgr.row hg hpb (by decide)
  have hne : pp ≠ sp := fun e' => by
    have h4 := hgr.blk
    rw [← e', hpb] at h4
    injection h4 with h4
    injection h4 with _ h4 _
    exact absurd h4 (by decide)
  have hlen : m1 ≤ ps0.length + (ch + 1) := by
    have h5 := hrow.1
    rw [pairsC_len] at h5
    have h6 := h.len
    have h7 := h.fewm
    rcases hk with ⟨_, rfl⟩ | ⟨_, _, rfl⟩
    · omega
    · rw [List.length_append, List.length_singleton] at h5
      omega
  refine ⟨h1, h2, h3 (by decide) (by decide) hrow, blk_other hpb1 hne, hpn, ?_, ?_, hlen, growA_hi (by omega) h.hi⟩
  · rcases hk with ⟨hf, rfl⟩ | ⟨hf, rfl, rfl⟩
    · exact h.by_.old hy hf
    · rw [List.map_append]
      exact h.by_.new (fun z => decide_eq_true rfl) hy hf
  · have := growA_len arcs (ch : Int) (k : Int)
    have := h.few
    have := h.gr.len
    omega
end
set_option linter.unusedVariables false in
set_option maxRecDepth 100000 in
set_option maxHeartbeats 8000000 in
theorem both_c (w W0 : World) (B : Nat) (hB : B ≤ w.heap.size) (A : Option Addr) (n c : Nat) (H : List Sh) (HS : Hid (StsIn w B A n c H)) (a : List St) (HD : Hid (H.map (·.d) = a)) (HG : Hid (Good a)) (A' : Option Addr) (n' c' : Nat) (H' : List Sh) (HS' : Hid (StsIn w B A' n' c' H')) (e : List St) (HD' : Hid (H'.map (·.d) = e)) (HG' : Hid (Good e))
    (u v : Nat) (hu : u < a.length) (hv : v < e.length) (pp sp : Nat) (fin : Bool) (Ao : Option Addr) (q co : Nat) (hs : List Sh) (ps0 : List (Nat × Nat)) (hps : ps0.length ≤ 1048576)
    (Ap : Option Addr) (m cp : Nat) (HC0 : Hid (BoC w W0 a e pp sp fin Ao q co hs u v 0 ps0 Ap m cp ps0 none 0 0 []))
    (c2 c3 c4 c5 c6 c7 c9 c10 c16 c17 c18 c19 c20 c21 c22 c23 c24 c25 c26 c27 c28 c29 c30 c31 c32 c33 c34 c35 c36 c37 c38 c39 c40 c41 c42 c43 c44 c45 c46 c47 c48 c49 c50 c51 c52 c53 c54 c106 c107 c108 c109 c110 c111 u14 u15 u55 u56 u57 u58 u59 u60 u61 u62 u63 u64 u65 u66 u67 u68 u69 u70 u71 u72 u73 u74 u75 u76 u77 u78 u79 u80 u81 u82 u83 u84 u85 u86 u87 u88 u89 u90 u91 u92 u93 u94 u95 u96 u97 u98 u99 u100 u101 u102 u103 u104 u105 : Value) (Q0 : Exit → Act → World → Prop) (hQ0 : ∀ c (a a' : Act) w, a.defers = a'.defers → Q0 (.panic c) a w → Q0 (.panic c) a' w)
    (hexit : ∀ (Ap : Option Addr) (m cp : Nat) (ps : List (Nat × Nat)) (Ac : Option Addr) (pc cc : Nat) (arcs : List Arc3) (W : World) (x13 u14 u15 u55 u56 u57 u58 u59 u60 u61 u62 u63 u64 u65 u66 u67 u68 u69 u70 u71 u72 u73 u74 u75 u76 u77 u78 u79 u80 u81 u82 u83 u84 u85 u86 u87 u88 u89 u90 u91 u92 u93 u94 u95 u96 u97 u98 u99 u100 u101 u102 u103 u104 u105 : Value), Hid (BoC w W a e pp sp fin Ao q co hs u v 256 ps0 Ap m cp ps Ac pc cc arcs) → Q0 (.exit 2) ⟨List.toArray (.slice A n c :: .slice A' n' c' :: c2 :: c3 :: c4 :: c5 :: c6 :: c7 :: .slice Ap m cp :: c9 :: c10 :: .pointer (some ⟨pp, 0, none⟩) :: .pointer (some ⟨sp, 0, none⟩) :: x13 :: u14 :: u15 :: c16 :: c17 :: c18 :: c19 :: c20 :: c21 :: c22 :: c23 :: c24 :: c25 :: c26 :: c27 :: c28 :: c29 :: c30 :: c31 :: c32 :: c33 :: c34 :: c35 :: c36 :: c37 :: c38 :: c39 :: c40 :: c41 :: c42 :: c43 :: c44 :: c45 :: c46 :: c47 :: c48 :: c49 :: c50 :: c51 :: c52 :: c53 :: c54 :: u55 :: u56 :: u57 :: u58 :: u59 :: u60 :: u61 :: u62 :: u63 :: u64 :: u65 :: u66 :: u67 :: u68 :: u69 :: u70 :: u71 :: u72 :: u73 :: u74 :: u75 :: u76 :: u77 :: u78 :: u79 :: u80 :: u81 :: u82 :: u83 :: u84 :: u85 :: u86 :: u87 :: u88 :: u89 :: u90 :: u91 :: u92 :: u93 :: u94 :: u95 :: u96 :: u97 :: u98 :: u99 :: u100 :: u101 :: u102 :: u103 :: u104 :: u105 :: c106 :: c107 :: c108 :: c109 :: c110 :: c111 :: []), []⟩ W) :
    Code.wp Tryd.prog (.loop (loopOf Tryd.f22 1)) Q0 ⟨List.toArray (.slice A n c :: .slice A' n' c' :: c2 :: c3 :: c4 :: c5 :: c6 :: c7 :: .slice Ap m cp :: c9 :: c10 :: .pointer (some ⟨pp, 0, none⟩) :: .pointer (some ⟨sp, 0, none⟩) :: .int .i64 (0 : Int) :: u14 :: u15 :: c16 :: c17 :: c18 :: c19 :: c20 :: c21 :: c22 :: c23 :: c24 :: c25 :: c26 :: c27 :: c28 :: c29 :: c30 :: c31 :: c32 :: c33 :: c34 :: c35 :: c36 :: c37 :: c38 :: c39 :: c40 :: c41 :: c42 :: c43 :: c44 :: c45 :: c46 :: c47 :: c48 :: c49 :: c50 :: c51 :: c52 :: c53 :: c54 :: u55 :: u56 :: u57 :: u58 :: u59 :: u60 :: u61 :: u62 :: u63 :: u64 :: u65 :: u66 :: u67 :: u68 :: u69 :: u70 :: u71 :: u72 :: u73 :: u74 :: u75 :: u76 :: u77 :: u78 :: u79 :: u80 :: u81 :: u82 :: u83 :: u84 :: u85 :: u86 :: u87 :: u88 :: u89 :: u90 :: u91 :: u92 :: u93 :: u94 :: u95 :: u96 :: u97 :: u98 :: u99 :: u100 :: u101 :: u102 :: u103 :: u104 :: u105 :: c106 :: c107 :: c108 :: c109 :: c110 :: c111 :: []), []⟩ W0 := by
  conv => arg 2; arg 1; whnf
  go_loopw [8, 13] (fun mv kv wr => ∃ (ch m cp pc cc : Nat) (Ap Ac : Option Addr) (ps : List (Nat × Nat)) (arcs : List Arc3), ch ≤ 256 ∧ mv = .slice Ap m cp ∧ kv = .int .i64 ch ∧ Hid (BoC w wr a e pp sp fin Ao q co hs u v ch ps0 Ap m cp ps Ac pc cc arcs)) (fun _ kv _ => 256 - (intOf kv).toNat)
  case atStart => exact ⟨0, m, cp, 0, 0, Ap, none, ps0, [], Nat.zero_le _, rfl, rfl, HC0⟩
  case round =>
    clear HC0
    obtain ⟨ch, m, cp, pc, cc, Ap, Ac, ps, arcs, hch, rfl, rfl, HC⟩ := hrel
    by_cases hlt : ch < 256
    · have hlt2 : (ch : Int) < 256 := by omega
      have hbs := HC.out.gr.bel.size
      have hcas := pair_cases HG.out HG'.out hu hv ch
      have HCS := Lib.hid hcas
      clear hcas
      go_wp2_with fail
      refine both_r15 wr B (Nat.le_trans hB hbs) A n c H (HS.out.keep (HC.out.gr.bel.mono hB) (Nat.le_refl _)) A' n' c' H' (HS'.out.keep (HC.out.gr.bel.mono hB) (Nat.le_refl _)) pp u v ch HC.out.pb _ _ _ _ _ _ _ _ _ _ _ _ _ _ _ _ _ _ _ _ _ _ _ _ _ _ _ _ _ _ _ _ _ _ _ _ _ _ _ _ _ _ _ _ _ _ _ _ _ _ _ _ _ _ _ _ _ _ _ _ _ _ _ _ _ _ _ _ _ _ _ _ _ _ _ _ _ _ _ _ _ _ _ _ _ _ _ _ _ _ _ _ _ _ _ _ _ _ _ _ _ _ _ _ _ _ _ _ _ (fun c a a' w hd h => hQ0 c a a' w hd h) ?_
      intro qb W u59 u60 u61 u62 u63 u64 u65 u66 u67 u68 u69 HQ HBW HQL
      rw [HD.out, HD'.out] at HQ
      have HC1 := Lib.hid (HC.out.keep HBW.out)
      have hbs1 := HC1.out.gr.bel.size
      clear HC hbs
      rcases HCS.out with ⟨s, t, hs1, ht1, hst, hnone⟩ | ⟨s, t, hs1, ht1, hsl, htl, hsome⟩
      · rw [hs1, ht1] at HQ
        have y0 := cell_of_row _ qb 0 _ _ (0, 0) HQ.out
        have y1 := cell_of_row _ qb 1 _ _ (0, 0) HQ.out
        have hql := (Array.getElem?_eq_some_iff.1 HQ.out).1
        simp at y0 y1
        have HCN := Lib.hid (HC1.out.none_ hnone)
        clear hs1 ht1 hnone HC1 HCS HQ
        rcases hst with rfl | ⟨h0, rfl⟩
        · go_wp2_with fail
          go_roundw
          case rel => exact ⟨ch + 1, m, cp, pc, cc, Ap, Ac, ps, arcs, by omega, rfl, by go_num, HCN⟩
          case measure => simp [intOf]; omega
        · have q0 : decide (s < 0) = false := decide_eq_false (by omega)
          go_wp2_with fail
          go_roundw
          case rel => exact ⟨ch + 1, m, cp, pc, cc, Ap, Ac, ps, arcs, by omega, rfl, by go_num, HCN⟩
          case measure => simp [intOf]; omega
      · rw [hs1, ht1] at HQ
        have y0 := cell_of_row _ qb 0 _ _ (0, 0) HQ.out
        have y1 := cell_of_row _ qb 1 _ _ (0, 0) HQ.out
        have hql := (Array.getElem?_eq_some_iff.1 HQ.out).1
        simp at y0 y1
        have HST := Lib.hid hsome
        have q0 : decide ((s : Int) < 0) = false := decide_eq_false (by omega)
        have q1 : decide ((t : Int) < 0) = false := decide_eq_false (by omega)
        have hml := HC1.out.len
        have hfm := HC1.out.fewm
        clear hs1 ht1 hsome HCS
        go_wp2_with fail
        refine both_k W a e w.heap.size Ap m cp ps HC1.out.row_ (by omega) qb (s, t) HQ _ _ _ _ _ _ _ _ _ _ _ _ _ _ _ _ _ _ _ _ _ _ _ _ _ _ _ _ _ _ _ _ _ _ _ _ _ _ _ _ _ _ _ _ _ _ _ _ _ _ _ _ _ _ _ _ _ _ _ _ _ _ _ _ _ _ _ _ _ _ _ _ _ _ _ _ _ _ _ _ _ _ _ _ _ _ _ _ _ _ _ _ _ _ _ _ _ _ _ _ _ _ _ _ _ _ _ _ _ _ (fun c a a' w hd h => hQ0 c a a' w hd h) ?_
        intro k W1 u78 u79 u80 u81 u82 u83 u84 u85 u86 u87 u88 u89 u90 u91 hkm HBW1 HK
        have HC2 := Lib.hid (HC1.out.keep HBW1.out)
        have hqw := (HBW1.out.block qb hql).trans HQ.out
        have HQW := Lib.hid hqw
        have hbs2 := HC2.out.gr.bel.size
        have hpcc := HC2.out.few
        clear HC1 HQ y0 y1 hql hqw
        rcases HK.out with ⟨hf, hkl⟩ | ⟨hf, hkl⟩
        · rw [List.length_map, hml] at hkl
          have HFI := Lib.hid hf
          have q3 : ((k : Int) == (m : Int)) = false := by simpa using show ¬ (k : Int) = (m : Int) by omega
          have q4 : (k == m) = false := by simpa using show ¬ k = m by omega
          obtain ⟨s0, s1, s2, s3⟩ := HC2.out.gr.cells
          clear hf
          go_wp2_with fail
          refine (grown_any W1 w.heap.size hbs2 Ac pc cc arcs HC2.out.gr.row (by omega) ch k (by omega) HC2.out.hi).mono ?_
          rintro e2 w2 ⟨v2, rfl, hown2, hg2, hor2⟩
          obtain ⟨A2, c2, rfl, _⟩ := own_shape hown2
          have HN := Lib.hid (HC2.out.grow hlt HST.out (.inl ⟨HFI.out, rfl⟩) HC2.out.gr HC2.out.row_ HC2.out.pb HC2.out.pn rfl hown2 hg2 hor2)
          obtain ⟨t1, t2, t3⟩ := HN.out.1
          have HN2 := Lib.hid HN.out.2
          clear hown2 hg2 hor2 HN HC2 s0 s1 s2 s3
          go_wp2_with fail
          go_roundw
          case rel => exact ⟨ch + 1, m, cp, _, c2, Ap, A2, ps, _, by omega, rfl, by go_num, HN2⟩
          case measure => simp [intOf]; omega
        · rw [List.length_map, hml] at hkl
          subst hkl
          have HFI := Lib.hid hf
          have q3 : ((k : Int) == (k : Int)) = true := by simp
          have HMT := Lib.hid HC2.out.row_
          have HBL := Lib.hid HC2.out.gr.bel
          have y0 := cell_of_row _ qb 0 _ _ (0, 0) HQW.out
          have y1 := cell_of_row _ qb 1 _ _ (0, 0) HQW.out
          have hql := (Array.getElem?_eq_some_iff.1 HQW.out).1
          simp at y0 y1
          clear hf
          go_wp2_with (at_builtin; refine wpList_push w W1 _ rfl _ _ _ rfl el_pair _ _ _ rfl HMT.out rfl (by simp) rfl (by simp [Value.oneCell']) (by unfold maxLen; omega) (by omega) hbs2 HBL.out ?_; intro v8 w8 hown8 _ hg8 hor8; obtain ⟨A8, c8, rfl, _⟩ := own_shape hown8; have HO8 := Lib.hid hown8; have HG8 := Lib.hid hg8; have HOR8 := Lib.hid hor8; have HGR8 := Lib.hid (HC2.out.gr.other HMT.out (by decide) (by decide) (Nat.le_refl _) hg8); obtain ⟨s0, s1, s2, s3⟩ := HGR8.out.cells; have hbs8 := HGR8.out.bel.size; clear hown8 hg8 hor8)
          have HMM : Hid (w8.ownsRow w.heap.size 76 2 (.slice A8 (k + 1) c8) (k + 1) (pairsC (ps ++ [(s, t)]))) := by
            have h1 := HO8.out
            rw [pairsC_app]
            exact h1
          have HPB8 : Hid (w8.heap[pp]? = some (.cells #[.int .i64 (u : Int), .int .i64 (v : Int)] 76 (0, 0))) := (HG8.out.block pp (Array.getElem?_eq_some_iff.1 HC2.out.pb).1 (fun h => HC2.out.pn h.symm)).trans HC2.out.pb
          have HPN8 : Hid ((Value.slice A8 (k + 1) c8).ownBlock ≠ some pp) := fun h => by
            rcases HOR8.out with h1 | ⟨g, h1, h2⟩
            · exact HC2.out.pn (h1.symm.trans h)
            · rw [h1] at h
              injection h with h
              have := (Array.getElem?_eq_some_iff.1 HC2.out.pb).1
              omega
          refine (grown_any w8 w.heap.size hbs8 Ac pc cc arcs HGR8.out.row (by omega) ch k (by omega) HC2.out.hi).mono ?_
          rintro e2 w2 ⟨v2, rfl, hown2, hg2, hor2⟩
          obtain ⟨A2, c2, rfl, _⟩ := own_shape hown2
          have HN := Lib.hid (HC2.out.grow hlt HST.out (.inr ⟨HFI.out, by rw [List.length_map]; exact hml.symm, rfl⟩) HGR8.out HMM.out HPB8.out HPN8.out rfl hown2 hg2 hor2)
          obtain ⟨t1, t2, t3⟩ := HN.out.1
          have HN2 := Lib.hid HN.out.2
          clear hown2 hg2 hor2 HN HC2 s0 s1 s2 s3 HGR8 HMM HO8 HG8 HPB8 HPN8 y0 y1
          go_wp2_with fail
          go_roundw
          case rel => exact ⟨ch + 1, k + 1, c8, _, c2, A8, A2, ps ++ [(s, t)], _, by omega, rfl, by go_num, HN2⟩
          case measure => simp [intOf]; omega
    · obtain rfl : ch = 256 := by omega
      go_wp2_with fail
      exact hexit Ap m cp ps Ac pc cc arcs wr _ _ _ _ _ _ _ _ _ _ _ _ _ _ _ _ _ _ _ _ _ _ _ _ _ _ _ _ _ _ _ _ _ _ _ _ _ _ _ _ _ _ _ _ _ _ _ _ _ _ _ _ _ _ HC
end Go.Proofs.YtebdffabfimmkaaDoor
