/- The reference's Both: the bytes of one pair. -/
import Derived.Test.YtebdffabfimmkaaDoorHDfaBoth31
import Derived.Test.YtebdffabfimmkaaDoorHDfaBoth34
import Derived.Test.YtebdffabfimmkaaDoorHDfaBoth6
namespace Go.Proofs.YtebdffabfimmkaaDoor
open Go.RowKit Go.Maps

/-- In the midst of the bytes of one pair. -/
structure BoC (w W : World) (a e : List St) (pp sp : Nat) (fin : Bool) (Ao : Option Addr) (q co : Nat) (hs : List Sh) (u v : Nat) (ch : Nat) (ps0 : List (Nat × Nat)) (Ap : Option Addr) (m cp : Nat) (ps : List (Nat × Nat)) (Ac : Option Addr) (pc cc : Nat) (arcs : List Arc3) : Prop where
  gr : GrR w W sp fin Ao q co Ac pc cc arcs hs
  row_ : W.ownsRow w.heap.size 76 2 (.slice Ap m cp) m (pairsC ps)
  pb : W.heap[pp]? = some (.cells #[.int .i64 (u : Int), .int .i64 (v : Int)] 76 (0, 0))
  pn : (Value.slice Ap m cp).ownBlock ≠ some pp
  by_ : ByP (pairW a e) (pairL (u, v)) (ps0.map pairL) ch (ps.map pairL) arcs
  few : pc ≤ ch
  fewm : m ≤ ps0.length + ch
  hi : ∀ x ∈ arcs, 0 ≤ x.2.1 ∧ x.2.1 ≤ 256
section
variable {w W W' : World} {a e : List St} {pp sp : Nat} {fin : Bool} {Ao : Option Addr} {q co : Nat} {hs : List Sh} {u v ch : Nat} {ps0 : List (Nat × Nat)} {Ap : Option Addr} {m cp : Nat} {ps : List (Nat × Nat)} {Ac : Option Addr} {pc cc : Nat} {arcs : List Arc3}
theorem BoC.keep (h : BoC w W a e pp sp fin Ao q co hs u v ch ps0 Ap m cp ps Ac pc cc arcs) (hb : Below W.heap.size W W') : BoC w W' a e pp sp fin Ao q co hs u v ch ps0 Ap m cp ps Ac pc cc arcs := ⟨h.gr.keep hb, own_kept h.row_ hb, (hb.block pp (Array.getElem?_eq_some_iff.1 h.pb).1).trans h.pb, h.pn, h.by_, h.few, h.fewm, h.hi⟩
theorem BoC.len (h : BoC w W a e pp sp fin Ao q co hs u v ch ps0 Ap m cp ps Ac pc cc arcs) : ps.length = m := by
  have := h.row_.1
  rw [pairsC_len] at this
  omega
theorem BoC.none_ (h : BoC w W a e pp sp fin Ao q co hs u v ch ps0 Ap m cp ps Ac pc cc arcs) (hn : (pairW a e).step (pairL (u, v)) ch = none) : BoC w W a e pp sp fin Ao q co hs u v (ch + 1) ps0 Ap m cp ps Ac pc cc arcs := ⟨h.gr, h.row_, h.pb, h.pn, h.by_.none_ hn, by have := h.few; omega, by have := h.fewm; omega, h.hi⟩
/-- An arc more, to a pair that is met or new. -/
theorem BoC.grow {y : Nat × Nat} {k : Nat} {ps1 : List (Nat × Nat)} {Ap1 : Option Addr} {m1 cp1 : Nat} {A2 : Option Addr} {p2 c2 : Nat} {W1 : World}
    (h : BoC w W a e pp sp fin Ao q co hs u v ch ps0 Ap m cp ps Ac pc cc arcs) (hch : ch < 256) (hy : (pairW a e).step (pairL (u, v)) ch = some (pairL y))
    (hk : (findI (fun z => (pairW a e).eqv z (pairL y)) (ps.map pairL) = some k ∧ ps1 = ps) ∨ (findI (fun z => (pairW a e).eqv z (pairL y)) (ps.map pairL) = none ∧ k = (ps.map pairL).length ∧ ps1 = ps ++ [y]))
    (hgr : GrR w W1 sp fin Ao q co Ac pc cc arcs hs) (hrow : W1.ownsRow w.heap.size 76 2 (.slice Ap1 m1 cp1) m1 (pairsC ps1)) (hpb : W1.heap[pp]? = some (.cells #[.int .i64 (u : Int), .int .i64 (v : Int)] 76 (0, 0))) (hpn : (Value.slice Ap1 m1 cp1).ownBlock ≠ some pp)
    (hp2 : (growA arcs (ch : Int) (k : Int)).length = p2) (hown : W'.ownsRow w.heap.size 41 3 (.slice A2 p2 c2) p2 (arcsC (growA arcs (ch : Int) (k : Int)))) (hg : W1.grownBy W' (Value.slice Ac pc cc).ownBlock) (hor : (Value.slice A2 p2 c2).ownBlock = (Value.slice Ac pc cc).ownBlock ∨ ∃ g, (Value.slice A2 p2 c2).ownBlock = some g ∧ W1.heap.size ≤ g) :
    (W'.cell? ⟨sp, 1, none⟩ = some (.slice Ac pc cc) ∧ W'.frozen? ⟨sp, 1, none⟩ = false ∧ sp < W'.heap.size) ∧ BoC w (W'.setCell ⟨sp, 1, none⟩ (.slice A2 p2 c2)) a e pp sp fin Ao q co hs u v (ch + 1) ps0 Ap1 m1 cp1 ps1 A2 p2 c2 (growA arcs (ch : Int) (k : Int)) := by
  obtain ⟨h1, h2, h3⟩ := hgr.grow hown hg hor
  have hpb1 : W'.heap[pp]? = some (.cells #[.int .i64 (u : Int), .int .i64 (v : Int)] 76 (0, 0)) := blk_kept hgr.row hg hpb (by decide)
  have hne : pp ≠ sp := fun e' => by
    have h4 := hgr.blk
    rw [← e', hpb] at h4
    injection h4 with h4
    injection h4 with _ h4 _
    exact absurd h4 (by decide)
  have hlen : m1 ≤ ps0.length + (ch + 1) := by
    have h5 := hrow.1
    rw [pairsC_len] at h5
    have h6 := h.len
    have h7 := h.fewm
    rcases hk with ⟨_, rfl⟩ | ⟨_, _, rfl⟩
    · omega
    · rw [List.length_append, List.length_singleton] at h5
      omega
  refine ⟨h1, h2, h3 (by decide) (by decide) hrow, blk_other hpb1 hne, hpn, ?_, ?_, hlen, growA_hi (by omega) h.hi⟩
  · rcases hk with ⟨hf, rfl⟩ | ⟨hf, rfl, rfl⟩
    · exact h.by_.old hy hf
    · rw [List.map_append]
      exact h.by_.new (fun z => decide_eq_true rfl) hy hf
  · have := growA_len arcs (ch : Int) (k : Int)
    have := h.few
    have := h.gr.len
    omega
end
set_option linter.unusedVariables false in
set_option maxRecDepth 100000 in
set_option maxHeartbeats 8000000 in
theorem both_c (w W0 : World) (B : Nat) (hB : B ≤ w.heap.size) (A : Option Addr) (n c : Nat) (H : List Sh) (HS : Hid (StsIn w B A n c H)) (a : List St) (HD : Hid (H.map (·.d) = a)) (HG : Hid (Good a)) (A' : Option Addr) (n' c' : Nat) (H' : List Sh) (HS' : Hid (StsIn w B A' n' c' H')) (e : List St) (HD' : Hid (H'.map (·.d) = e)) (HG' : Hid (Good e))
    (u v : Nat) (hu : u < a.length) (hv : v < e.length) (pp sp : Nat) (fin : Bool) (Ao : Option Addr) (q co : Nat) (hs : List Sh) (ps0 : List (Nat × Nat)) (hps : ps0.length ≤ 1048576)
    (Ap : Option Addr) (m cp : Nat) (HC0 : Hid (BoC w W0 a e pp sp fin Ao q co hs u v 0 ps0 Ap m cp ps0 none 0 0 []))
    (c2 c3 c4 c5 c6 c7 c9 c10 c16 c17 c18 c19 c20 c21 c22 c23 c24 c25 c26 c27 c28 c29 c30 c31 c32 c33 c34 c35 c36 c37 c38 c39 c40 c41 c42 c43 c44 c45 c46 c47 c48 c49 c50 c51 c52 c53 c54 c106 c107 c108 c109 c110 c111 u14 u15 u55 u56 u57 u58 u59 u60 u61 u62 u63 u64 u65 u66 u67 u68 u69 u70 u71 u72 u73 u74 u75 u76 u77 u78 u79 u80 u81 u82 u83 u84 u85 u86 u87 u88 u89 u90 u91 u92 u93 u94 u95 u96 u97 u98 u99 u100 u101 u102 u103 u104 u105 : Value) (Q0 : Exit → Act → World → Prop) (hQ0 : ∀ c (a a' : Act) w, a.defers = a'.defers → Q0 (.panic c) a w → Q0 (.panic c) a' w)
    (hexit : ∀ (Ap : Option Addr) (m cp : Nat) (ps : List (Nat × Nat)) (Ac : Option Addr) (pc cc : Nat) (arcs : List Arc3) (W : World) (x13 u14 u15 u55 u56 u57 u58 u59 u60 u61 u62 u63 u64 u65 u66 u67 u68 u69 u70 u71 u72 u73 u74 u75 u76 u77 u78 u79 u80 u81 u82 u83 u84 u85 u86 u87 u88 u89 u90 u91 u92 u93 u94 u95 u96 u97 u98 u99 u100 u101 u102 u103 u104 u105 : Value), Hid (BoC w W a e pp sp fin Ao q co hs u v 256 ps0 Ap m cp ps Ac pc cc arcs) → Q0 (.exit 2) ⟨List.toArray (.slice A n c :: .slice A' n' c' :: c2 :: c3 :: c4 :: c5 :: c6 :: c7 :: .slice Ap m cp :: c9 :: c10 :: .pointer (some ⟨pp, 0, none⟩) :: .pointer (some ⟨sp, 0, none⟩) :: x13 :: u14 :: u15 :: c16 :: c17 :: c18 :: c19 :: c20 :: c21 :: c22 :: c23 :: c24 :: c25 :: c26 :: c27 :: c28 :: c29 :: c30 :: c31 :: c32 :: c33 :: c34 :: c35 :: c36 :: c37 :: c38 :: c39 :: c40 :: c41 :: c42 :: c43 :: c44 :: c45 :: c46 :: c47 :: c48 :: c49 :: c50 :: c51 :: c52 :: c53 :: c54 :: u55 :: u56 :: u57 :: u58 :: u59 :: u60 :: u61 :: u62 :: u63 :: u64 :: u65 :: u66 :: u67 :: u68 :: u69 :: u70 :: u71 :: u72 :: u73 :: u74 :: u75 :: u76 :: u77 :: u78 :: u79 :: u80 :: u81 :: u82 :: u83 :: u84 :: u85 :: u86 :: u87 :: u88 :: u89 :: u90 :: u91 :: u92 :: u93 :: u94 :: u95 :: u96 :: u97 :: u98 :: u99 :: u100 :: u101 :: u102 :: u103 :: u104 :: u105 :: c106 :: c107 :: c108 :: c109 :: c110 :: c111 :: []), []⟩ W) :
    Code.wp Tryd.prog (.loop (loopOf Tryd.f22 1)) Q0 ⟨List.toArray (.slice A n c :: .slice A' n' c' :: c2 :: c3 :: c4 :: c5 :: c6 :: c7 :: .slice Ap m cp :: c9 :: c10 :: .pointer (some ⟨pp, 0, none⟩) :: .pointer (some ⟨sp, 0, none⟩) :: .int .i64 (0 : Int) :: u14 :: u15 :: c16 :: c17 :: c18 :: c19 :: c20 :: c21 :: c22 :: c23 :: c24 :: c25 :: c26 :: c27 :: c28 :: c29 :: c30 :: c31 :: c32 :: c33 :: c34 :: c35 :: c36 :: c37 :: c38 :: c39 :: c40 :: c41 :: c42 :: c43 :: c44 :: c45 :: c46 :: c47 :: c48 :: c49 :: c50 :: c51 :: c52 :: c53 :: c54 :: u55 :: u56 :: u57 :: u58 :: u59 :: u60 :: u61 :: u62 :: u63 :: u64 :: u65 :: u66 :: u67 :: u68 :: u69 :: u70 :: u71 :: u72 :: u73 :: u74 :: u75 :: u76 :: u77 :: u78 :: u79 :: u80 :: u81 :: u82 :: u83 :: u84 :: u85 :: u86 :: u87 :: u88 :: u89 :: u90 :: u91 :: u92 :: u93 :: u94 :: u95 :: u96 :: u97 :: u98 :: u99 :: u100 :: u101 :: u102 :: u103 :: u104 :: u105 :: c106 :: c107 :: c108 :: c109 :: c110 :: c111 :: []), []⟩ W0 := by
  conv => arg 2; arg 1; whnf
  go_loopw [8, 13] (fun mv kv wr => ∃ (ch m cp pc cc : Nat) (Ap Ac : Option Addr) (ps : List (Nat × Nat)) (arcs : List Arc3), ch ≤ 256 ∧ mv = .slice Ap m cp ∧ kv = .int .i64 ch ∧ Hid (BoC w wr a e pp sp fin Ao q co hs u v ch ps0 Ap m cp ps Ac pc cc arcs)) (fun _ kv _ => 256 - (intOf kv).toNat)
  case atStart => exact ⟨0, m, cp, 0, 0, Ap, none, ps0, [], Nat.zero_le _, rfl, rfl, HC0⟩
  case round =>
    clear HC0
    obtain ⟨ch, m, cp, pc, cc, Ap, Ac, ps, arcs, hch, rfl, rfl, HC⟩ := hrel
    by_cases hlt : ch < 256
    · have hlt2 : (ch : Int) < 256 := by omega
      have hbs := HC.out.gr.bel.size
      have hcas := pair_cases HG.out HG'.out hu hv ch
      have HCS := Lib.hid hcas
      clear hcas
      go_wp2_with fail
      refine both_r15 wr B (Nat.le_trans hB hbs) A n c H (HS.out.keep (HC.out.gr.bel.mono hB) (Nat.le_refl _)) A' n' c' H' (HS'.out.keep (HC.out.gr.bel.mono hB) (Nat.le_refl _)) pp u v ch HC.out.pb _ _ _ _ _ _ _ _ _ _ _ _ _ _ _ _ _ _ _ _ _ _ _ _ _ _ _ _ _ _ _ _ _ _ _ _ _ _ _ _ _ _ _ _ _ _ _ _ _ _ _ _ _ _ _ _ _ _ _ _ _ _ _ _ _ _ _ _ _ _ _ _ _ _ _ _ _ _ _ _ _ _ _ _ _ _ _ _ _ _ _ _ _ _ _ _ _ _ _ _ _ _ _ _ _ _ _ _ _ (fun c a a' w hd h => hQ0 c a a' w hd h) ?_
      intro qb W u59 u60 u61 u62 u63 u64 u65 u66 u67 u68 u69 HQ HBW HQL
      rw [HD.out, HD'.out] at HQ
      have HC1 := Lib.hid (HC.out.keep HBW.out)
      have hbs1 := HC1.out.gr.bel.size
      clear HC hbs
      rcases HCS.out with ⟨s, t, hs1, ht1, hst, hnone⟩ | ⟨s, t, hs1, ht1, hsl, htl, hsome⟩
      · rw [hs1, ht1] at HQ
        have y0 := cell_of_row _ qb 0 _ _ (0, 0) HQ.out
        have y1 := cell_of_row _ qb 1 _ _ (0, 0) HQ.out
        have hql := (Array.getElem?_eq_some_iff.1 HQ.out).1
        simp at y0 y1
        have HCN := Lib.hid (HC1.out.none_ hnone)
        clear hs1 ht1 hnone HC1 HCS HQ
        rcases hst with rfl | ⟨h0, rfl⟩
        · go_wp2_with fail
          go_roundw
          case rel => exact ⟨ch + 1, m, cp, pc, cc, Ap, Ac, ps, arcs, by omega, rfl, by go_num, HCN⟩
          case measure => simp [intOf]; omega
        · have q0 : decide (s < 0) = false := decide_eq_false (by omega)
          go_wp2_with fail
          go_roundw
          case rel => exact ⟨ch + 1, m, cp, pc, cc, Ap, Ac, ps, arcs, by omega, rfl, by go_num, HCN⟩
          case measure => simp [intOf]; omega
      · rw [hs1, ht1] at HQ
        have y0 := cell_of_row _ qb 0 _ _ (0, 0) HQ.out
        have y1 := cell_of_row _ qb 1 _ _ (0, 0) HQ.out
        have hql := (Array.getElem?_eq_some_iff.1 HQ.out).1
        simp at y0 y1
        have HST := Lib.hid hsome
        have q0 : decide ((s : Int) < 0) = false := decide_eq_false (by omega)
        have q1 : decide ((t : Int) < 0) = false := decide_eq_false (by omega)
        have hml := HC1.out.len
        have hfm := HC1.out.fewm
        clear hs1 ht1 hsome HCS
        go_wp2_with fail
        refine both_k W a e w.heap.size Ap m cp ps HC1.out.row_ (by omega) qb (s, t) HQ _ _ _ _ _ _ _ _ _ _ _ _ _ _ _ _ _ _ _ _ _ _ _ _ _ _ _ _ _ _ _ _ _ _ _ _ _ _ _ _ _ _ _ _ _ _ _ _ _ _ _ _ _ _ _ _ _ _ _ _ _ _ _ _ _ _ _ _ _ _ _ _ _ _ _ _ _ _ _ _ _ _ _ _ _ _ _ _ _ _ _ _ _ _ _ _ _ _ _ _ _ _ _ _ _ _ _ _ _ _ (fun c a a' w hd h => hQ0 c a a' w hd h) ?_
        intro k W1 u78 u79 u80 u81 u82 u83 u84 u85 u86 u87 u88 u89 u90 u91 hkm HBW1 HK
        have HC2 := Lib.hid (HC1.out.keep HBW1.out)
        have hqw := (HBW1.out.block qb hql).trans HQ.out
        have HQW := Lib.hid hqw
        have hbs2 := HC2.out.gr.bel.size
        have hpcc := HC2.out.few
        clear HC1 HQ y0 y1 hql hqw
        rcases HK.out with ⟨hf, hkl⟩ | ⟨hf, hkl⟩
        · rw [List.length_map, hml] at hkl
          have HFI := Lib.hid hf
          have q3 : ((k : Int) == (m : Int)) = false := by simpa using show ¬ (k : Int) = (m : Int) by omega
          have q4 : (k == m) = false := by simpa using show ¬ k = m by omega
          obtain ⟨s0, s1, s2, s3⟩ := HC2.out.gr.cells
          clear hf
          go_wp2_with fail
          refine (grown_any W1 w.heap.size hbs2 Ac pc cc arcs HC2.out.gr.row (by omega) ch k (by omega) HC2.out.hi).mono ?_
          rintro e2 w2 ⟨v2, rfl, hown2, hg2, hor2⟩
          obtain ⟨A2, c2, rfl, _⟩ := own_shape hown2
          have HN := Lib.hid (HC2.out.grow hlt HST.out (.inl ⟨HFI.out, rfl⟩) HC2.out.gr HC2.out.row_ HC2.out.pb HC2.out.pn rfl hown2 hg2 hor2)
          obtain ⟨t1, t2, t3⟩ := HN.out.1
          have HN2 := Lib.hid HN.out.2
          clear hown2 hg2 hor2 HN HC2 s0 s1 s2 s3
          go_wp2_with fail
          go_roundw
          case rel => exact ⟨ch + 1, m, cp, _, c2, Ap, A2, ps, _, by omega, rfl, by go_num, HN2⟩
          case measure => simp [intOf]; omega
        · rw [List.length_map, hml] at hkl
          subst hkl
          have HFI := Lib.hid hf
          have q3 : ((k : Int) == (k : Int)) = true := by simp
          have HMT := Lib.hid HC2.out.row_
          have HBL := Lib.hid HC2.out.gr.bel
          have y0 := cell_of_row _ qb 0 _ _ (0, 0) HQW.out
          have y1 := cell_of_row _ qb 1 _ _ (0, 0) HQW.out
          have hql := (Array.getElem?_eq_some_iff.1 HQW.out).1
          simp at y0 y1
          clear hf
          go_wp2_with (at_builtin; refine wpList_push w W1 _ rfl _ _ _ rfl el_pair _ _ _ rfl HMT.out rfl (by simp) rfl (by simp [Value.oneCell']) (by unfold maxLen; omega) (by omega) hbs2 HBL.out ?_; intro v8 w8 hown8 _ hg8 hor8; obtain ⟨A8, c8, rfl, _⟩ := own_shape hown8; have HO8 := Lib.hid hown8; have HG8 := Lib.hid hg8; have HOR8 := Lib.hid hor8; have HGR8 := Lib.hid (HC2.out.gr.other HMT.out (by decide) (by decide) (Nat.le_refl _) hg8); obtain ⟨s0, s1, s2, s3⟩ := HGR8.out.cells; have hbs8 := HGR8.out.bel.size; clear hown8 hg8 hor8)
          have HMM : Hid (w8.ownsRow w.heap.size 76 2 (.slice A8 (k + 1) c8) (k + 1) (pairsC (ps ++ [(s, t)]))) := by
            have h1 := HO8.out
            rw [pairsC_app]
            exact h1
          have HPB8 : Hid (w8.heap[pp]? = some (.cells #[.int .i64 (u : Int), .int .i64 (v : Int)] 76 (0, 0))) := (HG8.out.block pp (Array.getElem?_eq_some_iff.1 HC2.out.pb).1 (fun h => HC2.out.pn h.symm)).trans HC2.out.pb
          have HPN8 : Hid ((Value.slice A8 (k + 1) c8).ownBlock ≠ some pp) := fun h => by
            rcases HOR8.out with h1 | ⟨g, h1, h2⟩
            · exact HC2.out.pn (h1.symm.trans h)
            · rw [h1] at h
              injection h with h
              have := (Array.getElem?_eq_some_iff.1 HC2.out.pb).1
              omega
          refine (grown_any w8 w.heap.size hbs8 Ac pc cc arcs HGR8.out.row (by omega) ch k (by omega) HC2.out.hi).mono ?_
          rintro e2 w2 ⟨v2, rfl, hown2, hg2, hor2⟩
          obtain ⟨A2, c2, rfl, _⟩ := own_shape hown2
          have HN := Lib.hid (HC2.out.grow hlt HST.out (.inr ⟨HFI.out, by rw [List.length_map]; exact hml.symm, rfl⟩) HGR8.out HMM.out HPB8.out HPN8.out rfl hown2 hg2 hor2)
          obtain ⟨t1, t2, t3⟩ := HN.out.1
          have HN2 := Lib.hid HN.out.2
          clear hown2 hg2 hor2 HN HC2 s0 s1 s2 s3 HGR8 HMM HO8 HG8 HPB8 HPN8 y0 y1
          go_wp2_with fail
          go_roundw
          case rel => exact ⟨ch + 1, k + 1, c8, _, c2, A8, A2, ps ++ [(s, t)], _, by omega, rfl, by go_num, HN2⟩
          case measure => simp [intOf]; omega
    · obtain rfl : ch = 256 := by omega
      go_wp2_with fail
      exact hexit Ap m cp ps Ac pc cc arcs wr _ _ _ _ _ _ _ _ _ _ _ _ _ _ _ _ _ _ _ _ _ _ _ _ _ _ _ _ _ _ _ _ _ _ _ _ _ _ _ _ _ _ _ _ _ _ _ _ _ _ _ _ _ _ HC
end Go.Proofs.YtebdffabfimmkaaDoor
/- The reference's Least: the bytes of one state. -/
namespace Go.Proofs.YtebdffabfimmkaaDoor
open Go.RowKit Go.Maps

/-- In the midst of the bytes of one state. -/
structure LsC (w W : World) (d : List St) (n sp : Nat) (fin : Bool) (Ao : Option Addr) (q co : Nat) (hs : List Sh) (x ch : Nat) (met0 : List Nat) (Am : Option Addr) (m cm : Nat) (met : List Nat) (Ac : Option Addr) (pc cc : Nat) (arcs : List Arc3) : Prop where
  gr : GrR w W sp fin Ao q co Ac pc cc arcs hs
  row_ : W.ownsRow w.heap.size 3 1 (.slice Am m cm) m (natC met)
  mp : MetP n met
  by_ : ByP (leastW (auOf d) id) x met0 ch met arcs
  few : pc ≤ ch
  hi : ∀ a ∈ arcs, 0 ≤ a.2.1 ∧ a.2.1 ≤ 256
section
variable {w W W' : World} {d : List St} {n sp : Nat} {fin : Bool} {Ao : Option Addr} {q co : Nat} {hs : List Sh} {x ch : Nat} {met0 : List Nat} {Am : Option Addr} {m cm : Nat} {met : List Nat} {Ac : Option Addr} {pc cc : Nat} {arcs : List Arc3}
theorem LsC.keep (h : LsC w W d n sp fin Ao q co hs x ch met0 Am m cm met Ac pc cc arcs) (hb : Below W.heap.size W W') : LsC w W' d n sp fin Ao q co hs x ch met0 Am m cm met Ac pc cc arcs := ⟨h.gr.keep hb, own_kept h.row_ hb, h.mp, h.by_, h.few, h.hi⟩
theorem LsC.len (h : LsC w W d n sp fin Ao q co hs x ch met0 Am m cm met Ac pc cc arcs) : met.length = m := by
  have := h.row_.1
  unfold natC at this
  rw [List.length_map] at this
  omega
theorem LsC.none_ (h : LsC w W d n sp fin Ao q co hs x ch met0 Am m cm met Ac pc cc arcs) (hn : (leastW (auOf d) id).step x ch = none) : LsC w W d n sp fin Ao q co hs x (ch + 1) met0 Am m cm met Ac pc cc arcs := ⟨h.gr, h.row_, h.mp, h.by_.none_ hn, by have := h.few; omega, h.hi⟩
open Classical in
/-- An arc more, to a state that is met or new. -/
theorem LsC.grow {y k : Nat} {met1 : List Nat} {Am1 : Option Addr} {m1 cm1 : Nat} {A2 : Option Addr} {p2 c2 : Nat} {W1 : World}
    (h : LsC w W d n sp fin Ao q co hs x ch met0 Am m cm met Ac pc cc arcs) (hch : ch < 256) (hy : (leastW (auOf d) id).step x ch = some y)
    (hk : (findI (fun z => (leastW (auOf d) id).eqv z y) met = some k ∧ met1 = met) ∨ (findI (fun z => (leastW (auOf d) id).eqv z y) met = none ∧ k = met.length ∧ met1 = met ++ [y])) (hmp : MetP n met1)
    (hgr : GrR w W1 sp fin Ao q co Ac pc cc arcs hs) (hmet : W1.ownsRow w.heap.size 3 1 (.slice Am1 m1 cm1) m1 (natC met1))
    (hp2 : (growA arcs (ch : Int) (k : Int)).length = p2) (hown : W'.ownsRow w.heap.size 41 3 (.slice A2 p2 c2) p2 (arcsC (growA arcs (ch : Int) (k : Int)))) (hg : W1.grownBy W' (Value.slice Ac pc cc).ownBlock) (hor : (Value.slice A2 p2 c2).ownBlock = (Value.slice Ac pc cc).ownBlock ∨ ∃ g, (Value.slice A2 p2 c2).ownBlock = some g ∧ W1.heap.size ≤ g) :
    (W'.cell? ⟨sp, 1, none⟩ = some (.slice Ac pc cc) ∧ W'.frozen? ⟨sp, 1, none⟩ = false ∧ sp < W'.heap.size) ∧ LsC w (W'.setCell ⟨sp, 1, none⟩ (.slice A2 p2 c2)) d n sp fin Ao q co hs x (ch + 1) met0 Am1 m1 cm1 met1 A2 p2 c2 (growA arcs (ch : Int) (k : Int)) := by
  obtain ⟨h1, h2, h3⟩ := hgr.grow hown hg hor
  refine ⟨h1, h2, h3 (by decide) (by decide) hmet, hmp, ?_, ?_, growA_hi (by omega) h.hi⟩
  · rcases hk with ⟨hf, rfl⟩ | ⟨hf, rfl, rfl⟩
    · exact h.by_.old hy hf
    · exact h.by_.new (fun z => decide_eq_true (Leq.refl _ _)) hy hf
  · have := growA_len arcs (ch : Int) (k : Int)
    have := h.few
    have := h.gr.len
    omega
open Classical in
theorem MetP.new {y : Nat} (h : MetP n met) (hy : y < n) (hf : findI (fun z => (leastW (auOf d) id).eqv z y) met = none) : MetP n (met ++ [y]) := by
  refine ⟨List.nodup_append.2 ⟨h.1, (by simp), fun a ha b hb e => ?_⟩, fun z hz => ?_⟩
  · rw [List.mem_singleton.1 hb] at e
    subst e
    have := findI_none.1 hf a ha
    have h2 : (leastW (auOf d) id).eqv a a = true := decide_eq_true (Leq.refl _ _)
    rw [this] at h2
    cases h2
  · rcases List.mem_append.1 hz with hz | hz
    · exact h.2 z hz
    · rw [List.mem_singleton.1 hz]
      exact hy
end
set_option linter.unusedVariables false in
set_option maxRecDepth 100000 in
set_option maxHeartbeats 8000000 in
theorem least_c (w W0 : World) (B : Nat) (hB : B ≤ w.heap.size) (A : Option Addr) (n c : Nat) (H : List Sh) (HS : Hid (StsIn w B A n c H)) (d : List St) (HD : Hid (H.map (·.d) = d)) (HG : Hid (Good d)) (HLL : Hid (d.length = n)) (hcm : n ≤ 20000) (Ag : Option Addr) (cg : Nat) (L : List Bool) (HL : Hid (Sl w w.heap.size 1 Ag n (L.map .bool))) (HGo : Hid (Gone d L))
    (cf : Nat) (Af : Option Addr) (R : List Br) (HM : Hid (Mat w w.heap.size Af n R)) (HF : Hid (Far d (R.map (·.l)))) (i x : Nat) (hx : x < n) (sp : Nat) (fin : Bool) (Ao : Option Addr) (q co : Nat) (hs : List Sh) (met0 : List Nat) (HX : Hid (met0[i]? = some x))
    (Am : Option Addr) (m cm : Nat) (HC0 : Hid (LsC w W0 d n sp fin Ao q co hs x 0 met0 Am m cm met0 none 0 0 []))
    (c1 c2 c6 c12 c13 c14 c15 c16 c17 c18 c19 c20 c21 c22 c23 c24 c25 c26 c27 c28 c29 c30 c31 c32 c33 c34 c35 c36 c37 c84 c85 c86 c87 c88 u10 u11 u38 u39 u40 u41 u42 u43 u44 u45 u46 u47 u48 u49 u50 u51 u52 u53 u54 u55 u56 u57 u58 u59 u60 u61 u62 u63 u64 u65 u66 u67 u68 u69 u70 u71 u72 u73 u74 u75 u76 u77 u78 u79 u80 u81 u82 u83 : Value) (Q0 : Exit → Act → World → Prop) (hQ0 : ∀ c (a a' : Act) w, a.defers = a'.defers → Q0 (.panic c) a w → Q0 (.panic c) a' w)
    (hexit : ∀ (Am : Option Addr) (m cm : Nat) (met : List Nat) (Ac : Option Addr) (pc cc : Nat) (arcs : List Arc3) (W : World) (x9 u10 u11 u38 u39 u40 u41 u42 u43 u44 u45 u46 u47 u48 u49 u50 u51 u52 u53 u54 u55 u56 u57 u58 u59 u60 u61 u62 u63 u64 u65 u66 u67 u68 u69 u70 u71 u72 u73 u74 u75 u76 u77 u78 u79 u80 u81 u82 u83 : Value), Hid (LsC w W d n sp fin Ao q co hs x 256 met0 Am m cm met Ac pc cc arcs) → Q0 (.exit 2) ⟨List.toArray (.slice A n c :: c1 :: c2 :: .slice Ag n cg :: .slice Af n cf :: .slice Am m cm :: c6 :: .int .i64 (i : Int) :: .pointer (some ⟨sp, 0, none⟩) :: x9 :: u10 :: u11 :: c12 :: c13 :: c14 :: c15 :: c16 :: c17 :: c18 :: c19 :: c20 :: c21 :: c22 :: c23 :: c24 :: c25 :: c26 :: c27 :: c28 :: c29 :: c30 :: c31 :: c32 :: c33 :: c34 :: c35 :: c36 :: c37 :: u38 :: u39 :: u40 :: u41 :: u42 :: u43 :: u44 :: u45 :: u46 :: u47 :: u48 :: u49 :: u50 :: u51 :: u52 :: u53 :: u54 :: u55 :: u56 :: u57 :: u58 :: u59 :: u60 :: u61 :: u62 :: u63 :: u64 :: u65 :: u66 :: u67 :: u68 :: u69 :: u70 :: u71 :: u72 :: u73 :: u74 :: u75 :: u76 :: u77 :: u78 :: u79 :: u80 :: u81 :: u82 :: u83 :: c84 :: c85 :: c86 :: c87 :: c88 :: []), []⟩ W) :
    Code.wp Tryd.prog (.loop (loopOf Tryd.f24 1)) Q0 ⟨List.toArray (.slice A n c :: c1 :: c2 :: .slice Ag n cg :: .slice Af n cf :: .slice Am m cm :: c6 :: .int .i64 (i : Int) :: .pointer (some ⟨sp, 0, none⟩) :: .int .i64 (0 : Int) :: u10 :: u11 :: c12 :: c13 :: c14 :: c15 :: c16 :: c17 :: c18 :: c19 :: c20 :: c21 :: c22 :: c23 :: c24 :: c25 :: c26 :: c27 :: c28 :: c29 :: c30 :: c31 :: c32 :: c33 :: c34 :: c35 :: c36 :: c37 :: u38 :: u39 :: u40 :: u41 :: u42 :: u43 :: u44 :: u45 :: u46 :: u47 :: u48 :: u49 :: u50 :: u51 :: u52 :: u53 :: u54 :: u55 :: u56 :: u57 :: u58 :: u59 :: u60 :: u61 :: u62 :: u63 :: u64 :: u65 :: u66 :: u67 :: u68 :: u69 :: u70 :: u71 :: u72 :: u73 :: u74 :: u75 :: u76 :: u77 :: u78 :: u79 :: u80 :: u81 :: u82 :: u83 :: c84 :: c85 :: c86 :: c87 :: c88 :: []), []⟩ W0 := by
  have hi0 := (List.getElem?_eq_some_iff.1 HX.out).1
  conv => arg 2; arg 1; whnf
  go_loopw [5, 9] (fun mv kv wr => ∃ (ch m cm pc cc : Nat) (Am Ac : Option Addr) (met : List Nat) (arcs : List Arc3), ch ≤ 256 ∧ mv = .slice Am m cm ∧ kv = .int .i64 ch ∧ Hid (LsC w wr d n sp fin Ao q co hs x ch met0 Am m cm met Ac pc cc arcs)) (fun _ kv _ => 256 - (intOf kv).toNat)
  case atStart => exact ⟨0, m, cm, 0, 0, Am, none, met0, [], Nat.zero_le _, rfl, rfl, HC0⟩
  case round =>
    clear HC0
    obtain ⟨ch, m, cm, pc, cc, Am, Ac, met, arcs, hch, rfl, rfl, HC⟩ := hrel
    by_cases hlt : ch < 256
    · have hlt2 : (ch : Int) < 256 := by omega
      obtain ⟨more, hmore⟩ := Bfs.row_pre (leastW (auOf d) id) x met0 ch
      have hmr : met = met0 ++ more := HC.out.by_.row.trans hmore
      have hml := HC.out.len
      have him : i < m := by rw [← hml, hmr, List.length_append]; omega
      have hxi : met[i]? = some x := by rw [hmr, List.getElem?_append_left hi0]; exact HX.out
      obtain ⟨g, rfl, hg1, hg2⟩ := own_head HC.out.row_ (by omega)
      have m0 := own_cell HC.out.row_ (j := i) (u := .int .i64 (x : Int)) (by unfold natC; rw [List.getElem?_map, hxi]; rfl)
      have him2 : (i : Int) < (m : Int) := by omega
      have hbs := HC.out.gr.bel.size
      clear hmore hmr hxi
      go_wp2_with fail
      refine (to_any wr B (Nat.le_trans hB hbs) A n c H (HS.out.keep (HC.out.gr.bel.mono hB) (Nat.le_refl _)) (by rw [HD.out]; exact HG.out) Ag cg L ((HL.out.below HC.out.gr.bel).more hbs) x ch hx).mono ?_
      rintro e w1 ⟨rfl, hb1⟩
      rw [HD.out]
      have HC1 := Lib.hid (HC.out.keep hb1)
      have hst : (leastW (auOf d) id).step x ch = toG d L x ch := (toG_stepL HG.out HGo.out (by rw [HLL.out]; exact hx) ch).symm
      have hz : toZ d L x ch = match toG d L x ch with | some y => (y : Int) | none => -1 := rfl
      have hyn : ∀ y, toG d L x ch = some y → y < n := fun y hy => by
        unfold toG at hy
        split at hy
        · rename_i z hz
          split at hy
          · cases hy
          · injection hy with hy
            rw [← hy, ← HLL.out]
            exact HG.out.within x (by rw [HLL.out]; exact hx) ch z hz
        · cases hy
      clear hb1 HC m0 hg2 hbs
      cases ht : toG d L x ch with
      | none =>
        rw [ht] at hst hz
        simp only at hz
        rw [hz]
        have HCN := Lib.hid (HC1.out.none_ hst)
        clear hst hz hyn ht HC1
        go_wp2_with fail
        go_roundw
        case rel => exact ⟨ch + 1, m, cm, pc, cc, _, Ac, met, arcs, by omega, rfl, by go_num, HCN⟩
        case measure => simp [intOf]; omega
      | some y =>
        have hy := hyn y ht
        rw [ht] at hst hz
        simp only at hz
        rw [hz]
        have HST := Lib.hid hst
        have q0 : decide ((y : Int) < 0) = false := decide_eq_false (by omega)
        have hbs1 := HC1.out.gr.bel.size
        clear hst hz hyn ht
        go_wp2_with fail
        refine least_k w1 n cf Af R (HM.out.keep HC1.out.gr.bel hbs1) d HLL hcm HF _ m cm met (Sl.of_own HC1.out.row_) HC1.out.mp y hy _ _ _ _ _ _ _ _ _ _ _ _ _ _ _ _ _ _ _ _ _ _ _ _ _ _ _ _ _ _ _ _ _ _ _ _ _ _ _ _ _ _ _ _ _ _ _ _ _ _ _ _ _ _ _ _ _ _ _ _ _ _ _ _ _ _ _ _ _ _ _ _ _ _ _ _ _ _ _ _ _ _ _ _ _ _ (fun c a a' w hd h => hQ0 c a a' w hd h) ?_
        intro k u52 u53 u54 u55 u56 u57 u58 u59 u60 u61 u62 u63 u64 u65 u66 u67 u68 u69 hkm HK
        have hpcc := HC1.out.few
        have hrow := HC1.out.gr.row
        have HROW := Lib.hid hrow
        clear hrow
        rcases HK.out with ⟨hf, hkl⟩ | ⟨hf, hkl⟩
        · rw [hml] at hkl
          have HFI := Lib.hid hf
          have q1 : ((k : Int) == (m : Int)) = false := by simpa using show ¬ (k : Int) = (m : Int) by omega
          have q2 : (k == m) = false := by simpa using show ¬ k = m by omega
          obtain ⟨s0, s1, s2, s3⟩ := HC1.out.gr.cells
          clear hf
          go_wp2_with fail
          refine (grown_any w1 w.heap.size hbs1 Ac pc cc arcs HROW.out (by omega) ch k (by omega) HC1.out.hi).mono ?_
          rintro e w2 ⟨v2, rfl, hown2, hg2, hor2⟩
          obtain ⟨A2, c2, rfl, _⟩ := own_shape hown2
          have HN := Lib.hid (HC1.out.grow hlt HST.out (.inl ⟨HFI.out, rfl⟩) HC1.out.mp HC1.out.gr HC1.out.row_ rfl hown2 hg2 hor2)
          obtain ⟨t1, t2, t3⟩ := HN.out.1
          have HN2 := Lib.hid HN.out.2
          clear hown2 hg2 hor2 HN HC1 s0 s1 s2 s3
          go_wp2_with fail
          go_roundw
          case rel => exact ⟨ch + 1, m, cm, _, c2, _, A2, met, _, by omega, rfl, by go_num, HN2⟩
          case measure => simp [intOf]; omega
        · rw [hml] at hkl
          subst hkl
          have HFI := Lib.hid hf
          have q1 : ((k : Int) == (k : Int)) = true := by simp
          have HMP2 := Lib.hid (HC1.out.mp.new hy hf)
          have hmn : k ≤ n := by rw [← hml]; exact HC1.out.mp.few
          have HMT := Lib.hid HC1.out.row_
          have HBL := Lib.hid HC1.out.gr.bel
          clear hf
          go_wp2_with (at_builtin; refine wpList_push w w1 _ rfl _ _ _ rfl el_int _ _ _ rfl HMT.out rfl (by simp) rfl (by simp [Value.oneCell']) (by unfold maxLen; omega) (by omega) hbs1 HBL.out ?_; intro v8 w8 hown8 _ hg8 _; obtain ⟨A8, c8, rfl, _⟩ := own_shape hown8; have HO8 := Lib.hid hown8; have HG8 := Lib.hid hg8; have HGR8 := Lib.hid (HC1.out.gr.other HMT.out (by decide) (by decide) (Nat.le_refl _) hg8); obtain ⟨s0, s1, s2, s3⟩ := HGR8.out.cells; have hbs8 := HGR8.out.bel.size; clear hown8 hg8)
          have HMM : Hid (w8.ownsRow w.heap.size 3 1 (.slice A8 (k + 1) c8) (k + 1) (natC (met ++ [y]))) := by
            have h1 := HO8.out
            unfold natC
            rw [List.map_append]
            exact h1
          refine (grown_any w8 w.heap.size hbs8 Ac pc cc arcs HGR8.out.row (by omega) ch k (by omega) HC1.out.hi).mono ?_
          rintro e w2 ⟨v2, rfl, hown2, hg2, hor2⟩
          obtain ⟨A2, c2, rfl, _⟩ := own_shape hown2
          have HN := Lib.hid (HC1.out.grow hlt HST.out (.inr ⟨HFI.out, hml.symm, rfl⟩) HMP2.out HGR8.out HMM.out rfl hown2 hg2 hor2)
          obtain ⟨t1, t2, t3⟩ := HN.out.1
          have HN2 := Lib.hid HN.out.2
          clear hown2 hg2 hor2 HN HC1 s0 s1 s2 s3 HGR8 HMM HO8 HG8
          go_wp2_with fail
          go_roundw
          case rel => exact ⟨ch + 1, k + 1, c8, _, c2, A8, A2, met ++ [y], _, by omega, rfl, by go_num, HN2⟩
          case measure => simp [intOf]; omega
    · obtain rfl : ch = 256 := by omega
      go_wp2_with fail
      exact hexit Am m cm met Ac pc cc arcs wr _ _ _ _ _ _ _ _ _ _ _ _ _ _ _ _ _ _ _ _ _ _ _ _ _ _ _ _ _ _ _ _ _ _ _ _ _ _ _ _ _ _ _ _ _ _ _ _ _ HC
end Go.Proofs.YtebdffabfimmkaaDoor
