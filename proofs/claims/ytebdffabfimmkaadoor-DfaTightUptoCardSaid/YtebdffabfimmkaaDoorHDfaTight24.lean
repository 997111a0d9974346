/- The reference's Least: the bytes of one state. -/
import Derived.Test.YtebdffabfimmkaaDoorHDfaTight21
import Derived.Test.YtebdffabfimmkaaDoorHDfaTight6
import Derived.Test.YtebdffabfimmkaaDoorHDfaTight22
import Derived.StillTailTactics
namespace Go.Proofs.YtebdffabfimmkaaDoor
open Go.RowKit Go.Maps

/-- In the midst of the bytes of one state. -/
structure LsC (w W : World) (d : List St) (n sp : Nat) (fin : Bool) (Ao : Option Addr) (q co : Nat) (hs : List Sh) (x ch : Nat) (met0 : List Nat) (Am : Option Addr) (m cm : Nat) (met : List Nat) (Ac : Option Addr) (pc cc : Nat) (arcs : List Arc3) : Prop where
  gr : GrR w W sp fin Ao q co Ac pc cc arcs hs
  row_ : W.ownsRow w.heap.size 3 1 (.slice Am m cm) m (natC met)
  mp : MetP n met
  by_ : ByP (leastW (auOf d) id) x met0 ch met arcs
  few : pc ≤ ch
  hi : ∀ a ∈ arcs, 0 ≤ a.2.1 ∧ a.2.1 ≤ 256
section
variable {w W W' : World} {d : List St} {n sp : Nat} {fin : Bool} {Ao : Option Addr} {q co : Nat} {hs : List Sh} {x ch : Nat} {met0 : List Nat} {Am : Option Addr} {m cm : Nat} {met : List Nat} {Ac : Option Addr} {pc cc : Nat} {arcs : List Arc3}
theorem LsC.keep (h : LsC w W d n sp fin Ao q co hs x ch met0 Am m cm met Ac pc cc arcs) (hb : Below W.heap.size W W') : LsC w W' d n sp fin Ao q co hs x ch met0 Am m cm met Ac pc cc arcs := ⟨h.gr.keep hb, own_kept h.row_ hb, h.mp, h.by_, h.few, h.hi⟩
theorem LsC.len (h : LsC w W d n sp fin Ao q co hs x ch met0 Am m cm met Ac pc cc arcs) : met.length = m := by
  have := h.row_.1
  unfold natC at this
  rw [List.length_map] at this
  omega
theorem LsC.none_ (h : LsC w W d n sp fin Ao q co hs x ch met0 Am m cm met Ac pc cc arcs) (hn : (leastW (auOf d) id).step x ch = none) : LsC w W d n sp fin Ao q co hs x (ch + 1) met0 Am m cm met Ac pc cc arcs := ⟨h.gr, h.row_, h.mp, h.by_.none_ hn, by have := h.few; omega, h.hi⟩
open Classical in
/-- An arc more, to a state that is met or new. -/
theorem LsC.grow {y k : Nat} {met1 : List Nat} {Am1 : Option Addr} {m1 cm1 : Nat} {A2 : Option Addr} {p2 c2 : Nat} {W1 : World}
    (h : LsC w W d n sp fin Ao q co hs x ch met0 Am m cm met Ac pc cc arcs) (hch : ch < 256) (hy : (leastW (auOf d) id).step x ch = some y)
    (hk : (findI (fun z => (leastW (auOf d) id).eqv z y) met = some k ∧ met1 = met) ∨ (findI (fun z => (leastW (auOf d) id).eqv z y) met = none ∧ k = met.length ∧ met1 = met ++ [y])) (hmp : MetP n met1)
    (hgr : GrR w W1 sp fin Ao q co Ac pc cc arcs hs) (hmet : W1.ownsRow w.heap.size 3 1 (.slice Am1 m1 cm1) m1 (natC met1))
    (hp2 : (growA arcs (ch : Int) (k : Int)).length = p2) (hown : W'.ownsRow w.heap.size 41 3 (.slice A2 p2 c2) p2 (arcsC (growA arcs (ch : Int) (k : Int)))) (hg : W1.grownBy W' (Value.slice Ac pc cc).ownBlock) (hor : (Value.slice A2 p2 c2).ownBlock = (Value.slice Ac pc cc).ownBlock ∨ ∃ g, (Value.slice A2 p2 c2).ownBlock = some g ∧ W1.heap.size ≤ g) :
    (W'.cell? ⟨sp, 1, none⟩ = some (.slice Ac pc cc) ∧ W'.frozen? ⟨sp, 1, none⟩ = false ∧ sp < W'.heap.size) ∧ LsC w (W'.setCell ⟨sp, 1, none⟩ (.slice A2 p2 c2)) d n sp fin Ao q co hs x (ch + 1) met0 Am1 m1 cm1 met1 A2 p2 c2 (growA arcs (ch : Int) (k : Int)) := by
  obtain ⟨h1, h2, h3⟩ := hgr.grow hown hg hor
  refine ⟨h1, h2, h3 (by decide) (by decide) hmet, hmp, ?_, ?_, growA_hi (by omega) h.hi⟩
  · rcases hk with ⟨hf, rfl⟩ | ⟨hf, rfl, rfl⟩
    · exact h.by_.old hy hf
    · exact h.by_.new (fun z => decide_eq_true (Leq.refl _ _)) hy hf
  · have := growA_len arcs (ch : Int) (k : Int)
    have := h.few
    have := h.gr.len
    omega
open Classical in
theorem MetP.new {y : Nat} (h : MetP n met) (hy : y < n) (hf : findI (fun z => (leastW (auOf d) id).eqv z y) met = none) : MetP n (met ++ [y]) := by
  refine ⟨List.nodup_append.2 ⟨h.1, (by simp), fun a ha b hb e => ?_⟩, fun z hz => ?_⟩
  · rw [List.mem_singleton.1 hb] at e
    subst e
    have := findI_none.1 hf a ha
    have h2 : (leastW (auOf d) id).eqv a a = true := decide_eq_true (Leq.refl _ _)
    rw [this] at h2
    cases h2
  · rcases List.mem_append.1 hz with hz | hz
    · exact h.2 z hz
    · rw [List.mem_singleton.1 hz]
      exact hy
end
set_option linter.unusedVariables false in
set_option maxRecDepth 100000 in
set_option maxHeartbeats 8000000 in
theorem least_c (w W0 : World) (B : Nat) (hB : B ≤ w.heap.size) (A : Option Addr) (n c : Nat) (H : List Sh) (HS : Hid (StsIn w B A n c H)) (d : List St) (HD : Hid (H.map (·.d) = d)) (HG : Hid (Good d)) (HLL : Hid (d.length = n)) (hcm : n ≤ 20000) (Ag : Option Addr) (cg : Nat) (L : List Bool) (HL : Hid (Sl w w.heap.size 1 Ag n (L.map .bool))) (HGo : Hid (Gone d L))
    (cf : Nat) (Af : Option Addr) (R : List Br) (HM : Hid (Mat w w.heap.size Af n R)) (HF : Hid (Far d (R.map (·.l)))) (i x : Nat) (hx : x < n) (sp : Nat) (fin : Bool) (Ao : Option Addr) (q co : Nat) (hs : List Sh) (met0 : List Nat) (HX : Hid (met0[i]? = some x))
    (Am : Option Addr) (m cm : Nat) (HC0 : Hid (LsC w W0 d n sp fin Ao q co hs x 0 met0 Am m cm met0 none 0 0 []))
    (c1 c2 c6 c12 c13 c14 c15 c16 c17 c18 c19 c20 c21 c22 c23 c24 c25 c26 c27 c28 c29 c30 c31 c32 c33 c34 c35 c36 c37 c84 c85 c86 c87 c88 u10 u11 u38 u39 u40 u41 u42 u43 u44 u45 u46 u47 u48 u49 u50 u51 u52 u53 u54 u55 u56 u57 u58 u59 u60 u61 u62 u63 u64 u65 u66 u67 u68 u69 u70 u71 u72 u73 u74 u75 u76 u77 u78 u79 u80 u81 u82 u83 : Value) (Q0 : Exit → Act → World → Prop) (hQ0 : ∀ c (a a' : Act) w, a.defers = a'.defers → Q0 (.panic c) a w → Q0 (.panic c) a' w)
    (hexit : ∀ (Am : Option Addr) (m cm : Nat) (met : List Nat) (Ac : Option Addr) (pc cc : Nat) (arcs : List Arc3) (W : World) (x9 u10 u11 u38 u39 u40 u41 u42 u43 u44 u45 u46 u47 u48 u49 u50 u51 u52 u53 u54 u55 u56 u57 u58 u59 u60 u61 u62 u63 u64 u65 u66 u67 u68 u69 u70 u71 u72 u73 u74 u75 u76 u77 u78 u79 u80 u81 u82 u83 : Value), Hid (LsC w W d n sp fin Ao q co hs x 256 met0 Am m cm met Ac pc cc arcs) → Q0 (.exit 2) ⟨List.toArray (.slice A n c :: c1 :: c2 :: .slice Ag n cg :: .slice Af n cf :: .slice Am m cm :: c6 :: .int .i64 (i : Int) :: .pointer (some ⟨sp, 0, none⟩) :: x9 :: u10 :: u11 :: c12 :: c13 :: c14 :: c15 :: c16 :: c17 :: c18 :: c19 :: c20 :: c21 :: c22 :: c23 :: c24 :: c25 :: c26 :: c27 :: c28 :: c29 :: c30 :: c31 :: c32 :: c33 :: c34 :: c35 :: c36 :: c37 :: u38 :: u39 :: u40 :: u41 :: u42 :: u43 :: u44 :: u45 :: u46 :: u47 :: u48 :: u49 :: u50 :: u51 :: u52 :: u53 :: u54 :: u55 :: u56 :: u57 :: u58 :: u59 :: u60 :: u61 :: u62 :: u63 :: u64 :: u65 :: u66 :: u67 :: u68 :: u69 :: u70 :: u71 :: u72 :: u73 :: u74 :: u75 :: u76 :: u77 :: u78 :: u79 :: u80 :: u81 :: u82 :: u83 :: c84 :: c85 :: c86 :: c87 :: c88 :: []), []⟩ W) :
    Code.wp Tryd.prog (.loop (loopOf Tryd.f24 1)) Q0 ⟨List.toArray (.slice A n c :: c1 :: c2 :: .slice Ag n cg :: .slice Af n cf :: .slice Am m cm :: c6 :: .int .i64 (i : Int) :: .pointer (some ⟨sp, 0, none⟩) :: .int .i64 (0 : Int) :: u10 :: u11 :: c12 :: c13 :: c14 :: c15 :: c16 :: c17 :: c18 :: c19 :: c20 :: c21 :: c22 :: c23 :: c24 :: c25 :: c26 :: c27 :: c28 :: c29 :: c30 :: c31 :: c32 :: c33 :: c34 :: c35 :: c36 :: c37 :: u38 :: u39 :: u40 :: u41 :: u42 :: u43 :: u44 :: u45 :: u46 :: u47 :: u48 :: u49 :: u50 :: u51 :: u52 :: u53 :: u54 :: u55 :: u56 :: u57 :: u58 :: u59 :: u60 :: u61 :: u62 :: u63 :: u64 :: u65 :: u66 :: u67 :: u68 :: u69 :: u70 :: u71 :: u72 :: u73 :: u74 :: u75 :: u76 :: u77 :: u78 :: u79 :: u80 :: u81 :: u82 :: u83 :: c84 :: c85 :: c86 :: c87 :: c88 :: []), []⟩ W0 := by
  have hi0 := (List.getElem?_eq_some_iff.1 HX.out).1
  conv => arg 2; arg 1; whnf
  go_loopw [5, 9] (fun mv kv wr => ∃ (ch m cm pc cc : Nat) (Am Ac : Option Addr) (met : List Nat) (arcs : List Arc3), ch ≤ 256 ∧ mv = .slice Am m cm ∧ kv = .int .i64 ch ∧ Hid (LsC w wr d n sp fin Ao q co hs x ch met0 Am m cm met Ac pc cc arcs)) (fun _ kv _ => 256 - (intOf kv).toNat)
  case atStart => exact ⟨0, m, cm, 0, 0, Am, none, met0, [], Nat.zero_le _, rfl, rfl, HC0⟩
  case round =>
    clear HC0
    obtain ⟨ch, m, cm, pc, cc, Am, Ac, met, arcs, hch, rfl, rfl, HC⟩ := hrel
    by_cases hlt : ch < 256
    · have hlt2 : (ch : Int) < 256 := by omega
      obtain ⟨more, hmore⟩ := Bfs.row_pre (leastW (auOf d) id) x met0 ch
      have hmr : met = met0 ++ more := HC.out.by_.row.trans hmore
      have hml := HC.out.len
      have him : i < m := by rw [← hml, hmr, List.length_append]; omega
      have hxi : met[i]? = some x := by rw [hmr, List.getElem?_append_left hi0]; exact HX.out
      obtain ⟨g, rfl, hg1, hg2⟩ := own_head HC.out.row_ (by omega)
      have m0 := own_cell HC.out.row_ (j := i) (u := .int .i64 (x : Int)) (by unfold natC; rw [List.getElem?_map, hxi]; rfl)
      have him2 : (i : Int) < (m : Int) := by omega
      have hbs := HC.out.gr.bel.size
      clear hmore hmr hxi
      go_wp2_with fail
      refine (to_any wr B (Nat.le_trans hB hbs) A n c H (HS.out.keep (HC.out.gr.bel.mono hB) (Nat.le_refl _)) (by rw [HD.out]; exact HG.out) Ag cg L ((HL.out.below HC.out.gr.bel).more hbs) x ch hx).mono ?_
      rintro e w1 ⟨rfl, hb1⟩
      rw [HD.out]
      have HC1 := Lib.hid (HC.out.keep hb1)
      have hst : (leastW (auOf d) id).step x ch = toG d L x ch := (toG_stepL HG.out HGo.out (by rw [HLL.out]; exact hx) ch).symm
      have hz : toZ d L x ch = match toG d L x ch with | some y => (y : Int) | none => -1 := rfl
      have hyn : ∀ y, toG d L x ch = some y → y < n := fun y hy => by
        unfold toG at hy
        split at hy
        · rename_i z hz
          split at hy
          · cases hy
          · injection hy with hy
            rw [← hy, ← HLL.out]
            exact HG.out.within x (by rw [HLL.out]; exact hx) ch z hz
        · cases hy
      clear hb1 HC m0 hg2 hbs
      cases ht : toG d L x ch with
      | none =>
        rw [ht] at hst hz
        simp only at hz
        rw [hz]
        have HCN := Lib.hid (HC1.out.none_ hst)
        clear hst hz hyn ht HC1
        go_wp2_with fail
        go_roundw
        case rel => exact ⟨ch + 1, m, cm, pc, cc, _, Ac, met, arcs, by omega, rfl, by go_num, HCN⟩
        case measure => simp [intOf]; omega
      | some y =>
        have hy := hyn y ht
        rw [ht] at hst hz
        simp only at hz
        rw [hz]
        have HST := Lib.hid hst
        have q0 : decide ((y : Int) < 0) = false := decide_eq_false (by omega)
        have hbs1 := HC1.out.gr.bel.size
        clear hst hz hyn ht
        go_wp2_with fail
        refine least_k w1 n cf Af R (HM.out.keep HC1.out.gr.bel hbs1) d HLL hcm HF _ m cm met (Sl.of_own HC1.out.row_) HC1.out.mp y hy _ _ _ _ _ _ _ _ _ _ _ _ _ _ _ _ _ _ _ _ _ _ _ _ _ _ _ _ _ _ _ _ _ _ _ _ _ _ _ _ _ _ _ _ _ _ _ _ _ _ _ _ _ _ _ _ _ _ _ _ _ _ _ _ _ _ _ _ _ _ _ _ _ _ _ _ _ _ _ _ _ _ _ _ _ _ (fun c a a' w hd h => hQ0 c a a' w hd h) ?_
        intro k u52 u53 u54 u55 u56 u57 u58 u59 u60 u61 u62 u63 u64 u65 u66 u67 u68 u69 hkm HK
        have hpcc := HC1.out.few
        have hrow := HC1.out.gr.row
        have HROW := Lib.hid hrow
        clear hrow
        rcases HK.out with ⟨hf, hkl⟩ | ⟨hf, hkl⟩
        · rw [hml] at hkl
          have HFI := Lib.hid hf
          have q1 : ((k : Int) == (m : Int)) = false := by simpa using show ¬ (k : Int) = (m : Int) by omega
          have q2 : (k == m) = false := by simpa using show ¬ k = m by omega
          obtain ⟨s0, s1, s2, s3⟩ := HC1.out.gr.cells
          clear hf
          go_wp2_with fail
          refine (grown_any w1 w.heap.size hbs1 Ac pc cc arcs HROW.out (by omega) ch k (by omega) HC1.out.hi).mono ?_
          rintro e w2 ⟨v2, rfl, hown2, hg2, hor2⟩
          obtain ⟨A2, c2, rfl, _⟩ := own_shape hown2
          have HN := Lib.hid (HC1.out.grow hlt HST.out (.inl ⟨HFI.out, rfl⟩) HC1.out.mp HC1.out.gr HC1.out.row_ rfl hown2 hg2 hor2)
          obtain ⟨t1, t2, t3⟩ := HN.out.1
          have HN2 := Lib.hid HN.out.2
          clear hown2 hg2 hor2 HN HC1 s0 s1 s2 s3
          go_wp2_with fail
          go_roundw
          case rel => exact ⟨ch + 1, m, cm, _, c2, _, A2, met, _, by omega, rfl, by go_num, HN2⟩
          case measure => simp [intOf]; omega
        · rw [hml] at hkl
          subst hkl
          have HFI := Lib.hid hf
          have q1 : ((k : Int) == (k : Int)) = true := by simp
          have HMP2 := Lib.hid (HC1.out.mp.new hy hf)
          have hmn : k ≤ n := by rw [← hml]; exact HC1.out.mp.few
          have HMT := Lib.hid HC1.out.row_
          have HBL := Lib.hid HC1.out.gr.bel
          clear hf
          go_wp2_with (at_builtin; refine wpList_push w w1 _ rfl _ _ _ rfl el_int _ _ _ rfl HMT.out rfl (by simp) rfl (by simp [Value.oneCell']) (by unfold maxLen; omega) (by omega) hbs1 HBL.out ?_; intro v8 w8 hown8 _ hg8 _; obtain ⟨A8, c8, rfl, _⟩ := own_shape hown8; have HO8 := Lib.hid hown8; have HG8 := Lib.hid hg8; have HGR8 := Lib.hid (HC1.out.gr.other HMT.out (by decide) (by decide) (Nat.le_refl _) hg8); obtain ⟨s0, s1, s2, s3⟩ := HGR8.out.cells; have hbs8 := HGR8.out.bel.size; clear hown8 hg8)
          have HMM : Hid (w8.ownsRow w.heap.size 3 1 (.slice A8 (k + 1) c8) (k + 1) (natC (met ++ [y]))) := by
            have h1 := HO8.out
            unfold natC
            rw [List.map_append]
            exact h1
          refine (grown_any w8 w.heap.size hbs8 Ac pc cc arcs HGR8.out.row (by omega) ch k (by omega) HC1.out.hi).mono ?_
          rintro e w2 ⟨v2, rfl, hown2, hg2, hor2⟩
          obtain ⟨A2, c2, rfl, _⟩ := own_shape hown2
          have HN := Lib.hid (HC1.out.grow hlt HST.out (.inr ⟨HFI.out, hml.symm, rfl⟩) HMP2.out HGR8.out HMM.out rfl hown2 hg2 hor2)
          obtain ⟨t1, t2, t3⟩ := HN.out.1
          have HN2 := Lib.hid HN.out.2
          clear hown2 hg2 hor2 HN HC1 s0 s1 s2 s3 HGR8 HMM HO8 HG8
          go_wp2_with fail
          go_roundw
          case rel => exact ⟨ch + 1, k + 1, c8, _, c2, A8, A2, met ++ [y], _, by omega, rfl, by go_num, HN2⟩
          case measure => simp [intOf]; omega
    · obtain rfl : ch = 256 := by omega
      go_wp2_with fail
      exact hexit Am m cm met Ac pc cc arcs wr _ _ _ _ _ _ _ _ _ _ _ _ _ _ _ _ _ _ _ _ _ _ _ _ _ _ _ _ _ _ _ _ _ _ _ _ _ _ _ _ _ _ _ _ _ _ _ _ _ HC
end Go.Proofs.YtebdffabfimmkaaDoor
/- The reference's apart: the first marks of one state. -/
namespace Go.Proofs.YtebdffabfimmkaaDoor
open Go.RowKit Go.Maps

/-- One row is filled. -/
def IniR (d : List St) (R0 R : List Br) (n i k : Nat) : Prop := IniP d (R.map (·.l)) i k ∧ (∃ x, R[i]? = some x ∧ x.l.length = n) ∧ ∀ j, j ≠ i → R[j]? = R0[j]?
set_option linter.unusedVariables false in
set_option maxRecDepth 100000 in
set_option maxHeartbeats 8000000 in
theorem apart_j (w W0 : World) (B : Nat) (hB : B ≤ w.heap.size) (A : Option Addr) (n c : Nat) (H : List Sh) (HS : Hid (StsIn w B A n c H)) (d : List St) (HD : Hid (H.map (·.d) = d)) (hlen : H.length = n) (hcm : n ≤ 20000) (i : Nat) (hi : i < n)
    (ob oc : Nat) (R0 : List Br) (HR0 : Hid (ApR w W0 ob oc n R0)) (HP0 : Hid (IniR d R0 R0 n i 0))
    (c1 c2 c3 c4 c8 c9 c10 c11 c12 c13 c14 c15 c16 c17 c18 c19 c20 c21 c22 c23 c24 c25 c49 c50 c51 c52 c53 c54 c55 c56 c57 c58 c59 c60 c61 c62 c63 c64 c65 c66 c67 c68 c69 c70 c71 c72 c73 c74 c75 c76 c77 c78 c79 c80 c81 c82 c83 c84 u26 u27 u28 u29 u30 u31 u32 u33 u34 u35 u36 u37 u38 u39 u40 u41 u42 u43 u44 u45 u46 u47 u48 : Value) (Q0 : Exit → Act → World → Prop) (hQ0 : ∀ c (a a' : Act) w, a.defers = a'.defers → Q0 (.panic c) a w → Q0 (.panic c) a' w)
    (hexit : ∀ (R : List Br) (W : World) (x7 u26 u27 u28 u29 u30 u31 u32 u33 u34 u35 u36 u37 u38 u39 u40 u41 u42 u43 u44 u45 u46 u47 u48 : Value), Hid (ApR w W ob oc n R) → Hid (IniR d R0 R n i n) → Q0 (.exit 2) ⟨List.toArray (.slice A n c :: c1 :: c2 :: c3 :: c4 :: .slice (some ⟨ob, 0, none⟩) n oc :: .int .i64 (i : Int) :: x7 :: c8 :: c9 :: c10 :: c11 :: c12 :: c13 :: c14 :: c15 :: c16 :: c17 :: c18 :: c19 :: c20 :: c21 :: c22 :: c23 :: c24 :: c25 :: u26 :: u27 :: u28 :: u29 :: u30 :: u31 :: u32 :: u33 :: u34 :: u35 :: u36 :: u37 :: u38 :: u39 :: u40 :: u41 :: u42 :: u43 :: u44 :: u45 :: u46 :: u47 :: u48 :: c49 :: c50 :: c51 :: c52 :: c53 :: c54 :: c55 :: c56 :: c57 :: c58 :: c59 :: c60 :: c61 :: c62 :: c63 :: c64 :: c65 :: c66 :: c67 :: c68 :: c69 :: c70 :: c71 :: c72 :: c73 :: c74 :: c75 :: c76 :: c77 :: c78 :: c79 :: c80 :: c81 :: c82 :: c83 :: c84 :: []), []⟩ W) :
    Code.wp Tryd.prog (.loop (loopOf Tryd.f39 1)) Q0 ⟨List.toArray (.slice A n c :: c1 :: c2 :: c3 :: c4 :: .slice (some ⟨ob, 0, none⟩) n oc :: .int .i64 (i : Int) :: .int .i64 (0 : Int) :: c8 :: c9 :: c10 :: c11 :: c12 :: c13 :: c14 :: c15 :: c16 :: c17 :: c18 :: c19 :: c20 :: c21 :: c22 :: c23 :: c24 :: c25 :: u26 :: u27 :: u28 :: u29 :: u30 :: u31 :: u32 :: u33 :: u34 :: u35 :: u36 :: u37 :: u38 :: u39 :: u40 :: u41 :: u42 :: u43 :: u44 :: u45 :: u46 :: u47 :: u48 :: c49 :: c50 :: c51 :: c52 :: c53 :: c54 :: c55 :: c56 :: c57 :: c58 :: c59 :: c60 :: c61 :: c62 :: c63 :: c64 :: c65 :: c66 :: c67 :: c68 :: c69 :: c70 :: c71 :: c72 :: c73 :: c74 :: c75 :: c76 :: c77 :: c78 :: c79 :: c80 :: c81 :: c82 :: c83 :: c84 :: []), []⟩ W0 := by
  have hll : d.length = n := by rw [← HD.out, List.length_map]; exact hlen
  have HLL := Lib.hid hll
  clear hll
  obtain ⟨x, hx⟩ : ∃ x, H[i]? = some x := ⟨H[i]'(by omega), List.getElem?_eq_getElem _⟩
  have HX := Lib.hid hx
  have HXD : Hid (d[i]? = some x.d) := by show _ = _; rw [← HD.out, List.getElem?_map, hx]; rfl
  clear hx
  obtain ⟨fi, hfi⟩ : ∃ f, x.d.1 = f := ⟨_, rfl⟩
  have HFI := Lib.hid hfi
  clear hfi
  conv => arg 2; arg 1; whnf
  go_loopw [7] (fun kv wr => ∃ (k : Nat) (R : List Br), k ≤ n ∧ kv = .int .i64 k ∧ Hid (ApR w wr ob oc n R) ∧ Hid (IniR d R0 R n i k)) (fun kv _ => n - (intOf kv).toNat)
  case atStart => exact ⟨0, R0, Nat.zero_le _, rfl, HR0, HP0⟩
  case round =>
    clear HR0 HP0
    obtain ⟨k, R, hk, rfl, HR, HP⟩ := hrel
    by_cases hkn : k < n
    · obtain ⟨y, hy⟩ : ∃ y, H[k]? = some y := ⟨H[k]'(by omega), List.getElem?_eq_getElem _⟩
      obtain ⟨b, off, rfl, hb, hcell⟩ := (HS.out.keep (HR.out.bel.mono hB) (Nat.le_refl _)).at_ (by omega)
      obtain ⟨k0, _⟩ := hcell i x HX.out
      obtain ⟨k1, _⟩ := hcell k y hy
      have HYD : Hid (d[k]? = some y.d) := by show _ = _; rw [← HD.out, List.getElem?_map, hy]; rfl
      have hbs := HR.out.bel.size
      have hbw : b < wr.heap.size := by omega
      have hi2 : (i : Int) < (n : Int) := by omega
      have hk2 : (k : Int) < (n : Int) := by omega
      obtain ⟨fk, hfk⟩ : ∃ f, y.d.1 = f := ⟨_, rfl⟩
      rw [HFI.out] at k0
      rw [hfk] at k1
      obtain ⟨r, hr, hrl⟩ := HP.out.2.1
      obtain ⟨o0, o1, o2⟩ := HR.out.row hr
      rw [hrl] at o0
      obtain ⟨bk, hbk⟩ : ∃ b, r.l[k]? = some b := ⟨r.l[k]'(by omega), List.getElem?_eq_getElem _⟩
      obtain ⟨g, hg, hgw, o3, o4⟩ := HR.out.get hr hbk
      rw [hg] at o0
      have HRN := Lib.hid ((HR.out.keep (brefl wr).drew).put hr hg k (fi != fk))
      have e3 : wr.drew.cell? ⟨g, k, none⟩ = some (.bool bk) := o3
      have e4 : wr.drew.frozen? ⟨g, k, none⟩ = false := o4
      have e5 : g < wr.drew.heap.size := hgw
      have HPN : Hid (IniR d R0 (R.set i ⟨r.A, r.c, r.l.set k (fi != fk)⟩) n i (k + 1)) := by
        refine ⟨?_, ⟨⟨r.A, r.c, r.l.set k (fi != fk)⟩, List.getElem?_set_self (List.getElem?_eq_some_iff.1 hr).1, by simp [hrl]⟩, fun j hj => by rw [List.getElem?_set_ne (fun e => hj e.symm)]; exact HP.out.2.2 j hj⟩
        rw [List.map_set, ← HFI.out, ← hfk]
        exact HP.out.1.one HXD.out HYD.out (by rw [List.getElem?_map, hr]; rfl) (by rw [hrl, HLL.out])
      clear hcell hy HYD hr hrl hg HR HP hfk hbk
      cases fi <;> cases fk
      all_goals
        go_wp2_with fail
        go_still_tail 17, (by kernel_rfl)
        change wpList _ _ _ _ _ wr.drew
        generalize wr.drew = W2 at *
        go_wp2_with fail
        go_roundw
        case rel => exact ⟨k + 1, _, by omega, by go_num, HRN, HPN⟩
        case measure => simp [intOf]; omega
    · obtain rfl : k = n := by omega
      have q0 : decide ((k : Int) < (k : Int)) = false := decide_eq_false (by omega)
      go_wp2_with fail
      exact hexit R wr _ _ _ _ _ _ _ _ _ _ _ _ _ _ _ _ _ _ _ _ _ _ _ _ HR HP
end Go.Proofs.YtebdffabfimmkaaDoor
/- The reference's apart: the inner loop. -/
namespace Go.Proofs.YtebdffabfimmkaaDoor
open Go.RowKit Go.Maps

/-- In the midst of telling apart. -/
def ApK (d : List St) (L : List Bool) (R : List Br) (more : Bool) (i k gk : Nat) : Prop := ApP d (R.map (·.l)) ∧ (more = false → ApTo d L (R.map (·.l)) i k) ∧ 2 * offF (R.map (·.l)) + (if more then 1 else 0) + 1 ≤ gk
set_option linter.unusedVariables false in
set_option maxRecDepth 100000 in
set_option maxHeartbeats 8000000 in
theorem apart_k (w W0 : World) (B : Nat) (hB : B ≤ w.heap.size) (A : Option Addr) (n c : Nat) (H : List Sh) (HS : Hid (StsIn w B A n c H)) (d : List St) (HD : Hid (H.map (·.d) = d)) (HG : Hid (Good d)) (hlen : H.length = n) (hcm : n ≤ 20000) (Ag : Option Addr) (cg : Nat) (L : List Bool) (HL : Hid (Sl w w.heap.size 1 Ag n (L.map .bool))) (HGo : Hid (Gone d L)) (i : Nat) (hi : i < n)
    (ob oc gk : Nat) (R : List Br) (more : Bool) (HR0 : Hid (ApR w W0 ob oc n R)) (HP0 : Hid (ApK d L R more i 0 gk))
    (c2 c3 c4 c6 c7 c11 c12 c13 c14 c15 c16 c17 c18 c19 c20 c21 c22 c23 c24 c25 c26 c27 c28 c29 c30 c31 c32 c33 c34 c35 c36 c37 c38 c39 c40 c41 c42 c43 c44 c45 c46 c47 c48 c49 c50 c51 c52 c53 c54 c55 c84 u56 u57 u58 u59 u60 u61 u62 u63 u64 u65 u66 u67 u68 u69 u70 u71 u72 u73 u74 u75 u76 u77 u78 u79 u80 u81 u82 u83 : Value) (Q0 : Exit → Act → World → Prop) (hQ0 : ∀ c (a a' : Act) w, a.defers = a'.defers → Q0 (.panic c) a w → Q0 (.panic c) a' w)
    (hexit : ∀ (R : List Br) (more : Bool) (W : World) (x10 u56 u57 u58 u59 u60 u61 u62 u63 u64 u65 u66 u67 u68 u69 u70 u71 u72 u73 u74 u75 u76 u77 u78 u79 u80 u81 u82 u83 : Value), Hid (ApR w W ob oc n R) → Hid (ApK d L R more (i + 1) 0 gk) → Q0 (.exit 8) ⟨List.toArray (.slice A n c :: .slice Ag n cg :: c2 :: c3 :: c4 :: .slice (some ⟨ob, 0, none⟩) n oc :: c6 :: c7 :: .bool more :: .int .i64 (i : Int) :: x10 :: c11 :: c12 :: c13 :: c14 :: c15 :: c16 :: c17 :: c18 :: c19 :: c20 :: c21 :: c22 :: c23 :: c24 :: c25 :: c26 :: c27 :: c28 :: c29 :: c30 :: c31 :: c32 :: c33 :: c34 :: c35 :: c36 :: c37 :: c38 :: c39 :: c40 :: c41 :: c42 :: c43 :: c44 :: c45 :: c46 :: c47 :: c48 :: c49 :: c50 :: c51 :: c52 :: c53 :: c54 :: c55 :: u56 :: u57 :: u58 :: u59 :: u60 :: u61 :: u62 :: u63 :: u64 :: u65 :: u66 :: u67 :: u68 :: u69 :: u70 :: u71 :: u72 :: u73 :: u74 :: u75 :: u76 :: u77 :: u78 :: u79 :: u80 :: u81 :: u82 :: u83 :: c84 :: []), []⟩ W) :
    Code.wp Tryd.prog (.loop (loopOf Tryd.f39 4)) Q0 ⟨List.toArray (.slice A n c :: .slice Ag n cg :: c2 :: c3 :: c4 :: .slice (some ⟨ob, 0, none⟩) n oc :: c6 :: c7 :: .bool more :: .int .i64 (i : Int) :: .int .i64 (0 : Int) :: c11 :: c12 :: c13 :: c14 :: c15 :: c16 :: c17 :: c18 :: c19 :: c20 :: c21 :: c22 :: c23 :: c24 :: c25 :: c26 :: c27 :: c28 :: c29 :: c30 :: c31 :: c32 :: c33 :: c34 :: c35 :: c36 :: c37 :: c38 :: c39 :: c40 :: c41 :: c42 :: c43 :: c44 :: c45 :: c46 :: c47 :: c48 :: c49 :: c50 :: c51 :: c52 :: c53 :: c54 :: c55 :: u56 :: u57 :: u58 :: u59 :: u60 :: u61 :: u62 :: u63 :: u64 :: u65 :: u66 :: u67 :: u68 :: u69 :: u70 :: u71 :: u72 :: u73 :: u74 :: u75 :: u76 :: u77 :: u78 :: u79 :: u80 :: u81 :: u82 :: u83 :: c84 :: []), []⟩ W0 := by
  have hll : d.length = n := by rw [← HD.out, List.length_map]; exact hlen
  have HLL := Lib.hid hll
  clear hll
  conv => arg 2; arg 1; whnf
  go_loopw [8, 10] (fun mv kv wr => ∃ (k : Nat) (R : List Br) (more : Bool), k ≤ n ∧ mv = .bool more ∧ kv = .int .i64 k ∧ Hid (ApR w wr ob oc n R) ∧ Hid (ApK d L R more i k gk)) (fun _ kv _ => n - (intOf kv).toNat)
  case atStart => exact ⟨0, R, more, Nat.zero_le _, rfl, rfl, HR0, HP0⟩
  case round =>
    clear HR0 HP0
    obtain ⟨k, R, more, hk, rfl, rfl, HR, HP⟩ := hrel
    by_cases hkn : k < n
    · have hbs := HR.out.bel.size
      have hi2 : (i : Int) < (n : Int) := by omega
      have hk2 : (k : Int) < (n : Int) := by omega
      have hRn := HR.out.len
      obtain ⟨r, hr⟩ : ∃ r, R[i]? = some r := ⟨R[i]'(by omega), List.getElem?_eq_getElem _⟩
      have hrl : r.l.length = n := by rw [← HLL.out]; exact HP.out.1.row r.l (List.mem_map_of_mem (List.mem_of_getElem? hr))
      have HMA : Hid (∀ x ∈ R, x.l.length = n) := fun x hx => by rw [← HLL.out]; exact HP.out.1.row x.l (List.mem_map_of_mem hx)
      obtain ⟨b, hb⟩ : ∃ b, r.l[k]? = some b := ⟨r.l[k]'(by omega), List.getElem?_eq_getElem _⟩
      have HCE : Hid (cellF (R.map (·.l)) i k = some b) := by show _ = _; unfold cellF; rw [List.getElem?_map, hr]; exact hb
      obtain ⟨o0, o1, o2⟩ := HR.out.row hr
      rw [hrl] at o0
      obtain ⟨g, hg, hgw, o3, o4⟩ := HR.out.get hr hb
      rw [hg] at o0
      have HRR := Lib.hid (And.intro hr (And.intro hg hb))
      clear hr hrl hg hb
      cases b
      · go_wp2_with fail
        refine (unlike_any wr B (Nat.le_trans hB hbs) A n c H (HS.out.keep (HR.out.bel.mono hB) (Nat.le_refl _)) (by rw [HD.out]; exact HG.out) Ag cg L ((HL.out.below HR.out.bel).more hbs) (some ⟨ob, 0, none⟩) oc R (HR.out.mat HMA.out) i k hi hkn).mono ?_
        rintro e w2 ⟨rfl, hb2⟩
        rw [HD.out]
        have HR2 := Lib.hid (HR.out.keep hb2)
        obtain ⟨p0, p1, p2⟩ := HR2.out.row HRR.out.1
        rw [HMA.out r (List.mem_of_getElem? HRR.out.1), HRR.out.2.1] at p0
        obtain ⟨g', hg', hgw', p3, p4⟩ := HR2.out.get HRR.out.1 HRR.out.2.2
        rw [HRR.out.2.1] at hg'
        injection hg' with hg'
        injection hg' with hg' _ _
        subst hg'
        obtain ⟨u, hu⟩ : ∃ u, unlB d L (R.map (·.l)) i k = u := ⟨_, rfl⟩
        have HU := Lib.hid hu
        rw [hu]
        clear hb2 hu HR o0 o1 o2 o3 o4 hgw
        cases u
        · have HPN : Hid (ApK d L R more i (k + 1) gk) := ⟨HP.out.1, fun h => (HP.out.2.1 h).one fun _ => HU.out, HP.out.2.2⟩
          clear HP HU
          go_wp2_with fail
          go_roundw
          case rel => exact ⟨k + 1, R, more, by omega, rfl, by go_num, HR2, HPN⟩
          case measure => simp [intOf]; omega
        · have HRN := Lib.hid (HR2.out.put HRR.out.1 HRR.out.2.1 k true)
          have HPN : Hid (ApK d L (R.set i ⟨r.A, r.c, r.l.set k true⟩) true i (k + 1) gk) := by
            have h1 : (R.map (·.l))[i]? = some r.l := by rw [List.getElem?_map, HRR.out.1]; rfl
            have h2 := offF_set h1 HRR.out.2.2
            have h3 := HP.out.2.2
            refine ⟨?_, fun h => (by cases h), ?_⟩
            · rw [List.map_set]
              exact HP.out.1.set HG.out HGo.out (by rw [HLL.out]; exact hi) (by rw [HLL.out]; exact hkn) h1 HU.out
            · rw [List.map_set, if_pos rfl]
              show 2 * offF ((R.map (·.l)).set i (r.l.set k true)) + 1 + 1 ≤ gk
              omega
          clear HP HU HR2
          go_wp2_with fail
          go_roundw
          case rel => exact ⟨k + 1, _, true, by omega, rfl, by go_num, HRN, HPN⟩
          case measure => simp [intOf]; omega
      · have HPN : Hid (ApK d L R more i (k + 1) gk) := ⟨HP.out.1, fun h => (HP.out.2.1 h).one fun h' => (by rw [HCE.out] at h'; cases h'), HP.out.2.2⟩
        clear HP HCE
        go_wp2_with fail
        go_roundw
        case rel => exact ⟨k + 1, R, more, by omega, rfl, by go_num, HR, HPN⟩
        case measure => simp [intOf]; omega
    · obtain rfl : k = n := by omega
      have q0 : decide ((k : Int) < (k : Int)) = false := decide_eq_false (by omega)
      have HPN : Hid (ApK d L R more (i + 1) 0 gk) := ⟨HP.out.1, fun h => (HP.out.2.1 h).next (by rw [HLL.out]; exact Nat.le_refl _), HP.out.2.2⟩
      go_wp2_with fail
      exact hexit R more wr _ _ _ _ _ _ _ _ _ _ _ _ _ _ _ _ _ _ _ _ _ _ _ _ _ _ _ _ _ HR HPN
end Go.Proofs.YtebdffabfimmkaaDoor
