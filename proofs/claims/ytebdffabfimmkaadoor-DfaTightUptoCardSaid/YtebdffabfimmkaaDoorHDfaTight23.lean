/- The reference's Tight: the bytes of one set. -/
import Derived.Test.YtebdffabfimmkaaDoorHDfaTight21
import Derived.Test.YtebdffabfimmkaaDoorHDfaTight20
import Derived.Test.YtebdffabfimmkaaDoorHDfaTight22
namespace Go.Proofs.YtebdffabfimmkaaDoor
open Go.RowKit Go.Maps

theorem el_bools : Elem Tryd.prog 70 68 1 24 := Elem.mk_ Tryd.underlying70 (z := .slice none 0 0) (by kernel_rfl) rfl (by omega)
/-- Sets of the call's own. -/
structure SetsR (w W : World) (n : Nat) (As : Option Addr) (m cs : Nat) (R : List Br) : Prop where
  out : W.ownsRow w.heap.size 68 1 (.slice As m cs) m (R.map Br.val)
  fam : GFam W w.heap.size 4 1 (R.map Br.row)
  all : ∀ x ∈ R, x.l.length = n
section
variable {w W W' : World} {n m cs : Nat} {As : Option Addr} {R : List Br}
theorem SetsR.keep (h : SetsR w W n As m cs R) (hb : Below W.heap.size W W') : SetsR w W' n As m cs R := ⟨own_kept h.out hb, h.fam.below hb, h.all⟩
theorem SetsR.len (h : SetsR w W n As m cs R) : R.length = m := by
  have := h.out.1
  rw [List.length_map] at this
  omega
theorem SetsR.sets (h : SetsR w W n As m cs R) : Sets W W.heap.size As m n R := ⟨h.len, Sl.of_own h.out, fun x hx => ⟨Sl.of_own (h.fam.own x.row (List.mem_map.2 ⟨x, hx, rfl⟩)), h.all x hx⟩⟩
theorem SetsR.others (h : SetsR w W n As m cs R) (hk : ∀ {b e s n : Nat} {v : Value} {xs : List Value}, e ≠ 39 → e ≠ 41 → W.ownsRow b e s v n xs → W'.ownsRow b e s v n xs) : SetsR w W' n As m cs R :=
  ⟨hk (by decide) (by decide) h.out, ⟨fun x hx => hk (by decide) (by decide) (h.fam.own x hx), h.fam.ap⟩, h.all⟩
theorem SetsR.states (h : SetsR w W n As m cs R) (hk : ∀ {b e s n : Nat} {v : Value} {xs : List Value}, e ≠ 39 → W.ownsRow b e s v n xs → W'.ownsRow b e s v n xs) : SetsR w W' n As m cs R :=
  ⟨hk (by decide) h.out, ⟨fun x hx => hk (by decide) (h.fam.own x hx), h.fam.ap⟩, h.all⟩
/-- A set more. -/
theorem SetsR.push {W0 : World} {y : Br} {A9 : Option Addr} {c9 : Nat} (h : SetsR w W0 n As m cs R) (hb : Below W0.heap.size W0 W) (hw : w.heap.size ≤ W0.heap.size) (hy : W.ownsRow W0.heap.size 4 1 y.val y.l.length (y.l.map .bool)) (hyl : y.l.length = n)
    (hg : W.grownBy W' (Value.slice As m cs).ownBlock) (hown : W'.ownsRow w.heap.size 68 1 (.slice A9 (m + 1) c9) (m + 1) (R.map Br.val ++ [y.val])) : SetsR w W' n A9 (m + 1) c9 (R ++ [y]) := by
  refine ⟨by rw [List.map_append]; exact hown, ?_, fun x hx => ?_⟩
  · have h1 := (h.fam.fresh (y := y.row) hb hw hy).turn
    have h2 := h1.kept hg fun z hz => own_types (own_kept h.out hb) (h1.own z hz) (by decide)
    rw [List.map_append]
    exact h2
  · rcases List.mem_append.1 hx with hx | hx
    · exact h.all x hx
    · rw [List.mem_singleton.1 hx]
      exact hyl
end
/-- In the midst of the bytes of one set. -/
structure TsC (w W : World) (l : List Lst) (n sp : Nat) (fin : Bool) (Ao : Option Addr) (q co : Nat) (hs : List Sh) (S : List Bool) (ch : Nat) (R0 : List Br) (As : Option Addr) (m cs : Nat) (R : List Br) (Ac : Option Addr) (pc cc : Nat) (arcs : List Arc3) : Prop where
  gr : GrR w W sp fin Ao q co Ac pc cc arcs hs
  sets : SetsR w W n As m cs R
  pre : ∃ more, R = R0 ++ more
  by_ : ByP (boolW l) S (R0.map (·.l)) ch (R.map (·.l)) arcs
  few : pc ≤ ch
  fewm : m ≤ R0.length + ch
  hi : ∀ a ∈ arcs, 0 ≤ a.2.1 ∧ a.2.1 ≤ 256
section
variable {w W W' : World} {l : List Lst} {n sp : Nat} {fin : Bool} {Ao : Option Addr} {q co : Nat} {hs : List Sh} {S : List Bool} {ch : Nat} {R0 : List Br} {As : Option Addr} {m cs : Nat} {R : List Br} {Ac : Option Addr} {pc cc : Nat} {arcs : List Arc3}
theorem TsC.keep (h : TsC w W l n sp fin Ao q co hs S ch R0 As m cs R Ac pc cc arcs) (hb : Below W.heap.size W W') : TsC w W' l n sp fin Ao q co hs S ch R0 As m cs R Ac pc cc arcs := ⟨h.gr.keep hb, h.sets.keep hb, h.pre, h.by_, h.few, h.fewm, h.hi⟩
theorem TsC.none_ (h : TsC w W l n sp fin Ao q co hs S ch R0 As m cs R Ac pc cc arcs) (hn : (boolW l).step S ch = none) : TsC w W l n sp fin Ao q co hs S (ch + 1) R0 As m cs R Ac pc cc arcs := ⟨h.gr, h.sets, h.pre, h.by_.none_ hn, by have := h.few; omega, by have := h.fewm; omega, h.hi⟩
theorem TsC.grow {y : List Bool} {k : Nat} {R1 : List Br} {As1 : Option Addr} {m1 cs1 : Nat} {A2 : Option Addr} {p2 c2 : Nat} {W1 : World}
    (h : TsC w W l n sp fin Ao q co hs S ch R0 As m cs R Ac pc cc arcs) (hch : ch < 256) (hy : (boolW l).step S ch = some y)
    (hk : (findI (fun z => (boolW l).eqv z y) (R.map (·.l)) = some k ∧ R1 = R) ∨ (findI (fun z => (boolW l).eqv z y) (R.map (·.l)) = none ∧ k = (R.map (·.l)).length ∧ ∃ b : Br, b.l = y ∧ R1 = R ++ [b]))
    (hgr : GrR w W1 sp fin Ao q co Ac pc cc arcs hs) (hset : SetsR w W1 n As1 m1 cs1 R1)
    (hp2 : (growA arcs (ch : Int) (k : Int)).length = p2) (hown : W'.ownsRow w.heap.size 41 3 (.slice A2 p2 c2) p2 (arcsC (growA arcs (ch : Int) (k : Int)))) (hg : W1.grownBy W' (Value.slice Ac pc cc).ownBlock) (hor : (Value.slice A2 p2 c2).ownBlock = (Value.slice Ac pc cc).ownBlock ∨ ∃ g, (Value.slice A2 p2 c2).ownBlock = some g ∧ W1.heap.size ≤ g) :
    (W'.cell? ⟨sp, 1, none⟩ = some (.slice Ac pc cc) ∧ W'.frozen? ⟨sp, 1, none⟩ = false ∧ sp < W'.heap.size) ∧ TsC w (W'.setCell ⟨sp, 1, none⟩ (.slice A2 p2 c2)) l n sp fin Ao q co hs S (ch + 1) R0 As1 m1 cs1 R1 A2 p2 c2 (growA arcs (ch : Int) (k : Int)) := by
  obtain ⟨h1, h2, h3⟩ := hgr.grow hown hg hor
  have hl := h.sets.len
  have hl1 := hset.len
  have hfm := h.fewm
  refine ⟨h1, h2, hset.others h3, ?_, ?_, ?_, ?_, growA_hi (by omega) h.hi⟩
  · obtain ⟨more, hm⟩ := h.pre
    rcases hk with ⟨_, rfl⟩ | ⟨_, _, b, _, rfl⟩
    · exact ⟨more, hm⟩
    · exact ⟨more ++ [b], by rw [hm, List.append_assoc]⟩
  · rcases hk with ⟨hf, rfl⟩ | ⟨hf, rfl, b, rfl, rfl⟩
    · exact h.by_.old hy hf
    · rw [List.map_append]
      exact h.by_.new (fun z => decide_eq_true rfl) hy hf
  · have := growA_len arcs (ch : Int) (k : Int)
    have := h.few
    have := h.gr.len
    omega
  · rcases hk with ⟨_, rfl⟩ | ⟨_, _, b, _, rfl⟩
    · omega
    · rw [List.length_append, List.length_singleton] at hl1
      omega
end
set_option linter.unusedVariables false in
set_option maxRecDepth 100000 in
set_option maxHeartbeats 8000000 in
theorem tight_c (w W0 : World) (B : Nat) (hB : B ≤ w.heap.size) (A : Option Addr) (n c : Nat) (H : List Lsh) (HS : Hid (LoIn w B A n c H)) (l : List Lst) (HD : Hid (H.map (·.d) = l)) (HG : Hid (LGood l)) (HLL : Hid (l.length = n)) (hcm : n ≤ 1048576)
    (i : Nat) (x : Br) (sp : Nat) (fin : Bool) (Ao : Option Addr) (q co : Nat) (hs : List Sh) (R0 : List Br) (HX : Hid (R0[i]? = some x)) (hR0 : R0.length ≤ 1048576)
    (As : Option Addr) (m cs : Nat) (HC0 : Hid (TsC w W0 l n sp fin Ao q co hs x.l 0 R0 As m cs R0 none 0 0 []))
    (c1 c2 c3 c4 c5 c6 c8 c14 c15 c16 c17 c18 c19 c20 c21 c22 c23 c24 c25 c26 c27 c28 c29 c30 c31 c32 c33 c34 c35 c36 c37 c38 c39 c40 c41 c42 c73 c74 c75 c76 c77 c78 u12 u13 u43 u44 u45 u46 u47 u48 u49 u50 u51 u52 u53 u54 u55 u56 u57 u58 u59 u60 u61 u62 u63 u64 u65 u66 u67 u68 u69 u70 u71 u72 : Value) (Q0 : Exit → Act → World → Prop) (hQ0 : ∀ c (a a' : Act) w, a.defers = a'.defers → Q0 (.panic c) a w → Q0 (.panic c) a' w)
    (hexit : ∀ (As : Option Addr) (m cs : Nat) (R : List Br) (Ac : Option Addr) (pc cc : Nat) (arcs : List Arc3) (W : World) (x11 u12 u13 u43 u44 u45 u46 u47 u48 u49 u50 u51 u52 u53 u54 u55 u56 u57 u58 u59 u60 u61 u62 u63 u64 u65 u66 u67 u68 u69 u70 u71 u72 : Value), Hid (TsC w W l n sp fin Ao q co hs x.l 256 R0 As m cs R Ac pc cc arcs) → Q0 (.exit 2) ⟨List.toArray (.slice A n c :: c1 :: c2 :: c3 :: c4 :: c5 :: c6 :: .slice As m cs :: c8 :: .int .i64 (i : Int) :: .pointer (some ⟨sp, 0, none⟩) :: x11 :: u12 :: u13 :: c14 :: c15 :: c16 :: c17 :: c18 :: c19 :: c20 :: c21 :: c22 :: c23 :: c24 :: c25 :: c26 :: c27 :: c28 :: c29 :: c30 :: c31 :: c32 :: c33 :: c34 :: c35 :: c36 :: c37 :: c38 :: c39 :: c40 :: c41 :: c42 :: u43 :: u44 :: u45 :: u46 :: u47 :: u48 :: u49 :: u50 :: u51 :: u52 :: u53 :: u54 :: u55 :: u56 :: u57 :: u58 :: u59 :: u60 :: u61 :: u62 :: u63 :: u64 :: u65 :: u66 :: u67 :: u68 :: u69 :: u70 :: u71 :: u72 :: c73 :: c74 :: c75 :: c76 :: c77 :: c78 :: []), []⟩ W) :
    Code.wp Tryd.prog (.loop (loopOf Tryd.f16 1)) Q0 ⟨List.toArray (.slice A n c :: c1 :: c2 :: c3 :: c4 :: c5 :: c6 :: .slice As m cs :: c8 :: .int .i64 (i : Int) :: .pointer (some ⟨sp, 0, none⟩) :: .int .i64 (0 : Int) :: u12 :: u13 :: c14 :: c15 :: c16 :: c17 :: c18 :: c19 :: c20 :: c21 :: c22 :: c23 :: c24 :: c25 :: c26 :: c27 :: c28 :: c29 :: c30 :: c31 :: c32 :: c33 :: c34 :: c35 :: c36 :: c37 :: c38 :: c39 :: c40 :: c41 :: c42 :: u43 :: u44 :: u45 :: u46 :: u47 :: u48 :: u49 :: u50 :: u51 :: u52 :: u53 :: u54 :: u55 :: u56 :: u57 :: u58 :: u59 :: u60 :: u61 :: u62 :: u63 :: u64 :: u65 :: u66 :: u67 :: u68 :: u69 :: u70 :: u71 :: u72 :: c73 :: c74 :: c75 :: c76 :: c77 :: c78 :: []), []⟩ W0 := by
  conv => arg 2; arg 1; whnf
  go_loopw [7, 11] (fun mv kv wr => ∃ (ch m cs pc cc : Nat) (As Ac : Option Addr) (R : List Br) (arcs : List Arc3), ch ≤ 256 ∧ mv = .slice As m cs ∧ kv = .int .i64 ch ∧ Hid (TsC w wr l n sp fin Ao q co hs x.l ch R0 As m cs R Ac pc cc arcs)) (fun _ kv _ => 256 - (intOf kv).toNat)
  case atStart => exact ⟨0, m, cs, 0, 0, As, none, R0, [], Nat.zero_le _, rfl, rfl, HC0⟩
  case round =>
    clear HC0
    obtain ⟨ch, m, cs, pc, cc, As, Ac, R, arcs, hch, rfl, rfl, HC⟩ := hrel
    by_cases hlt : ch < 256
    · have hlt2 : (ch : Int) < 256 := by omega
      have hbs := HC.out.gr.bel.size
      obtain ⟨more, hmr⟩ := HC.out.pre
      have hi0 := (List.getElem?_eq_some_iff.1 HX.out).1
      have hml := HC.out.sets.len
      have hfm := HC.out.fewm
      have him : i < m := by rw [← hml, hmr, List.length_append]; omega
      have hxi : R[i]? = some x := by rw [hmr, List.getElem?_append_left hi0]; exact HX.out
      have HXI := Lib.hid hxi
      obtain ⟨g, rfl, hg1, hg2⟩ := own_head HC.out.sets.out (by omega)
      have hxl := HC.out.sets.all x (List.mem_of_getElem? hxi)
      have m0 := own_cell HC.out.sets.out (j := i) (u := x.val) (by rw [List.getElem?_map, hxi]; rfl)
      unfold Br.val at m0
      rw [hxl] at m0
      have him2 : (i : Int) < (m : Int) := by omega
      have hxo : Sl wr wr.heap.size 1 x.A n (x.l.map .bool) := by rw [← hxl]; exact Sl.of_own (HC.out.sets.fam.own x.row (List.mem_map.2 ⟨x, List.mem_of_getElem? hxi, rfl⟩))
      have hxc : n ≤ x.c := by
        have h1 := HC.out.sets.fam.own x.row (List.mem_map.2 ⟨x, List.mem_of_getElem? hxi, rfl⟩)
        obtain ⟨A3, c3, e3, hc3⟩ := own_shape h1
        have e3 : Value.slice x.A x.l.length x.c = .slice A3 x.l.length c3 := e3
        injection e3 with _ _ e3
        have hc3 : x.l.length ≤ c3 := hc3
        omega
      have HXO := Lib.hid hxo
      clear hmr hxi hxl hxo
      go_wp2_with fail
      refine (over_any wr B (Nat.le_trans hB hbs) A n c H (HS.out.keep (HC.out.gr.bel.mono hB) (Nat.le_refl _)) (by rw [HD.out]; exact HG.out) x.A x.c x.l HXO.out hxc ch).mono ?_
      rintro e w1 ⟨A1, c1', rfl, hown1, hnc1, hb1⟩
      rw [HD.out] at hown1
      obtain ⟨T, hT⟩ : ∃ T, charL n (Clo l (ovP l (fun y => x.l[y]? = some true) ch)) = T := ⟨_, rfl⟩
      rw [hT] at hown1
      have hTo : ovB l x.l ch = T := by unfold ovB; rw [HLL.out]; exact hT
      have hTl : T.length = n := by rw [← hT]; exact charL_len _ _
      have HC1 := Lib.hid (HC.out.keep hb1)
      have HSW := Lib.hid HC.out.sets
      have HBW := Lib.hid hbs
      have HOW := Lib.hid hown1
      have HB1 := Lib.hid hb1
      have HTO := Lib.hid (And.intro hTo hTl)
      have hbs1 := HC1.out.gr.bel.size
      have hstep : (boolW l).step x.l ch = if noneB T = true then none else some T := by
        show (if noneB (ovB l x.l ch) = true then none else some (ovB l x.l ch)) = _
        rw [hTo]
      have HST := Lib.hid hstep
      clear hown1 hb1 HC m0 hg2 hT hTo hTl hstep hxc HXO
      go_wp2_with fail
      refine (none_any w1 n c1' (by omega) A1 T (Sl.of_own HOW.out)).mono ?_
      rintro e w2 ⟨rfl, hb2⟩
      have HC2 := Lib.hid (HC1.out.keep hb2)
      have HOW2 := Lib.hid (own_kept HOW.out hb2)
      have HB2 := Lib.hid (bcall HB1.out hb2)
      have hbs2 := HC2.out.gr.bel.size
      obtain ⟨nb, hnb⟩ : ∃ b, noneB T = b := ⟨_, rfl⟩
      have HNB := Lib.hid hnb
      rw [hnb]
      clear hb2 HC1 HOW HB1 hbs1 hnb
      cases nb
      rotate_left
      · have HCN := Lib.hid (HC2.out.none_ (by rw [HST.out, HNB.out]; rfl))
        clear HC2 HST HNB
        go_wp2_with fail
        go_roundw
        case rel => exact ⟨ch + 1, m, cs, pc, cc, _, Ac, R, arcs, by omega, rfl, by go_num, HCN⟩
        case measure => simp [intOf]; omega
      · have HSO : Hid ((boolW l).step x.l ch = some T) := by show _ = _; rw [HST.out, HNB.out]; rfl
        clear HST HNB
        go_wp2_with fail
        refine (place_any w2 _ m cs n c1' (by omega) (by omega) R HC2.out.sets.sets A1 T (Sl.of_own HOW2.out)).mono ?_
        rintro e w3 ⟨rfl, hb3⟩
        have HC3 := Lib.hid (HC2.out.keep hb3)
        have HOW3 := Lib.hid (own_kept HOW2.out hb3)
        have HB3 := Lib.hid (bcall HB2.out hb3)
        have hbs3 := HC3.out.gr.bel.size
        have hpcc := HC3.out.few
        have hpl : placeZ (R.map (·.l)) T = match findI (fun z => decide (z = T)) (R.map (·.l)) with | some i => (i : Int) | none => -1 := rfl
        clear hb3 HC2 HOW2 hbs2
        cases hf : findI (fun z => decide (z = T)) (R.map (·.l)) with
        | some k =>
          rw [hf] at hpl
          simp only at hpl
          rw [hpl]
          have HFI : Hid (findI (fun z => (boolW l).eqv z T) (R.map (·.l)) = some k) := hf
          have q0 : decide ((k : Int) < 0) = false := decide_eq_false (by omega)
          obtain ⟨s0, s1, s2, s3⟩ := HC3.out.gr.cells
          clear hf hpl
          go_wp2_with fail
          refine (grown_any w3 w.heap.size hbs3 Ac pc cc arcs HC3.out.gr.row (by omega) ch k (by omega) HC3.out.hi).mono ?_
          rintro e w4 ⟨v2, rfl, hown2, hg2, hor2⟩
          obtain ⟨A2, c2, rfl, _⟩ := own_shape hown2
          have HN := Lib.hid (HC3.out.grow hlt HSO.out (.inl ⟨HFI.out, rfl⟩) HC3.out.gr HC3.out.sets rfl hown2 hg2 hor2)
          obtain ⟨t1, t2, t3⟩ := HN.out.1
          have HN2 := Lib.hid HN.out.2
          clear hown2 hg2 hor2 HN HC3 s0 s1 s2 s3
          go_wp2_with fail
          go_roundw
          case rel => exact ⟨ch + 1, m, cs, _, c2, _, A2, R, _, by omega, rfl, by go_num, HN2⟩
          case measure => simp [intOf]; omega
        | none =>
          rw [hf] at hpl
          simp only at hpl
          rw [hpl]
          have HFI : Hid (findI (fun z => (boolW l).eqv z T) (R.map (·.l)) = none) := hf
          have HMT := Lib.hid HC3.out.sets.out
          have HBL := Lib.hid HC3.out.gr.bel
          clear hf hpl
          go_wp2_with (at_builtin; refine wpList_push w w3 _ rfl _ _ _ rfl el_bools _ _ _ rfl HMT.out rfl (by simp) rfl (by simp [Value.oneCell']) (by unfold maxLen; omega) (by omega) hbs3 HBL.out ?_; intro v8 w8 hown8 _ hg8 _; obtain ⟨A8, c8, rfl, _⟩ := own_shape hown8; have HO8 := Lib.hid hown8; have HG8 := Lib.hid hg8; have HGR8 := Lib.hid (HC3.out.gr.other HMT.out (by decide) (by decide) (Nat.le_refl _) hg8); obtain ⟨s0, s1, s2, s3⟩ := HGR8.out.cells; have hbs8 := HGR8.out.bel.size; clear hown8 hg8)
          have HSN : Hid (SetsR w w8 n A8 (m + 1) c8 (R ++ [⟨A1, c1', T⟩])) := by
            have e1 : (⟨A1, c1', T⟩ : Br).val = .slice A1 n c1' := by unfold Br.val; rw [HTO.out.2]
            refine HSW.out.push (W := w3) HB3.out HBW.out ?_ HTO.out.2 HG8.out ?_
            · rw [e1]
              show w3.ownsRow _ _ _ _ T.length _
              rw [HTO.out.2]
              exact HOW3.out
            · rw [e1]
              exact HO8.out
          refine (grown_any w8 w.heap.size hbs8 Ac pc cc arcs HGR8.out.row (by omega) ch m (by omega) HC3.out.hi).mono ?_
          rintro e w4 ⟨v2, rfl, hown2, hg2, hor2⟩
          obtain ⟨A2, c2, rfl, _⟩ := own_shape hown2
          have HN := Lib.hid (HC3.out.grow hlt HSO.out (.inr ⟨HFI.out, by rw [List.length_map]; exact hml.symm, ⟨A1, c1', T⟩, rfl, rfl⟩) HGR8.out HSN.out rfl hown2 hg2 hor2)
          obtain ⟨t1, t2, t3⟩ := HN.out.1
          have HN2 := Lib.hid HN.out.2
          clear hown2 hg2 hor2 HN HC3 s0 s1 s2 s3 HGR8 HSN HO8 HG8
          go_wp2_with fail
          go_roundw
          case rel => exact ⟨ch + 1, m + 1, c8, _, c2, A8, A2, R ++ [⟨A1, c1', T⟩], _, by omega, rfl, by go_num, HN2⟩
          case measure => simp [intOf]; omega
    · obtain rfl : ch = 256 := by omega
      go_wp2_with fail
      exact hexit As m cs R Ac pc cc arcs wr _ _ _ _ _ _ _ _ _ _ _ _ _ _ _ _ _ _ _ _ _ _ _ _ _ _ _ _ _ _ _ _ _ HC
end Go.Proofs.YtebdffabfimmkaaDoor
