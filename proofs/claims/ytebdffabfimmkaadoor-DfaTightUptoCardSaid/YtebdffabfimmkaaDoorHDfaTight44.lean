/- dfa.Both. -/
import Derived.Test.YtebdffabfimmkaaDoorHDfaTight43
import Derived.Test.YtebdffabfimmkaaDoorHDfaTight38
import Derived.Test.YtebdffabfimmkaaDoorHDfaTight15
import Derived.Test.YtebdffabfimmkaaDoorHDfaTight1
import Derived.SizedLaws
import Derived.ChangeArms
namespace Go.Proofs.YtebdffabfimmkaaDoor
open Go.RowKit Go.Maps

set_option maxRecDepth 100000 in
set_option maxHeartbeats 8000000 in
theorem both_any (w : World) (B : Nat) (hB : B ≤ w.heap.size) (A : Option Addr) (n c : Nat) (H : List Sh) (h : StsIn w B A n c H) (A' : Option Addr) (n' c' : Nat) (H' : List Sh) (h' : StsIn w B A' n' c' H') (hg : Good (H.map (·.d))) (hg' : Good (H'.map (·.d))) (hfew : n * n' ≤ 20000) (most : Int) (ht : Tab w) :
    Calls Tryd.prog 21 #[.slice A n c, .slice A' n' c', .int .i64 most] w fun e w' =>
      ((∃ f, most < (((pairW (H.map (·.d)) (H'.map (·.d))).run f 0 [[0, 0]]).length : Nat)) ∧ e = .returned (.tuple #[.slice none 0 0, .int .i64 8]) ∧ Below w.heap.size w w') ∨
      ((∀ f, (((pairW (H.map (·.d)) (H'.map (·.d))).run f 0 [[0, 0]]).length : Nat) ≤ most) ∧ ∃ v hs d, e = .returned (.tuple #[v, .int .i64 0]) ∧ OwnSts w' w.heap.size v hs ∧ LeastIs (auOf d) 0 (hs.map (·.d)) ∧ Leq (auOf d) 0 ⟨finP (H.map (·.d)) (H'.map (·.d)), stepP (H.map (·.d)) (H'.map (·.d))⟩ [0, 0] ∧ hs.length ≤ d.length ∧ d.length ≤ 20000 ∧ Below w.heap.size w w') := by
  have HS := Lib.hid h
  have HS' := Lib.hid h'
  have HC0 : Hid (checkE (H.map (·.d)) = 0) := (good_iff _).2 hg
  have HC0' : Hid (checkE (H'.map (·.d)) = 0) := (good_iff _).2 hg'
  have hmk := @run_makeMap Tryd.prog
  obtain ⟨a, ha⟩ : ∃ l, H.map (·.d) = l := ⟨_, rfl⟩
  obtain ⟨e', he'⟩ : ∃ l, H'.map (·.d) = l := ⟨_, rfl⟩
  have HA := Lib.hid ha
  have HE := Lib.hid he'
  rw [ha] at hg HC0
  rw [he'] at hg' HC0'
  rw [ha, he']
  have HG := Lib.hid hg
  have HG' := Lib.hid hg'
  have hln : H.length = n := h.len
  have hln' : H'.length = n' := h'.len
  have hal : a.length = n := by rw [← ha, List.length_map]; exact h.len
  have hel : e'.length = n' := by rw [← he', List.length_map]; exact h'.len
  have HFEW : Hid (∀ f, ((pairW a e').run f 0 [[0, 0]]).length ≤ 20000) := fun f => Nat.le_trans (pair_few hg hg' f) (by rw [hal, hel]; exact hfew)
  have hnp : 0 < n := by rw [← hal]; exact List.length_pos_iff.2 hg.ne
  have hnp' : 0 < n' := by rw [← hel]; exact List.length_pos_iff.2 hg'.ne
  have hnm : n ≤ 20000 := by rw [← hal]; exact hg.few
  have hnm' : n' ≤ 20000 := by rw [← hel]; exact hg'.few
  have HT := Lib.hid ht
  have HAL := Lib.hid hal
  have HEL := Lib.hid hel
  clear h h' hg hg' ht ha he' hal hel hfew
  go_enter Tryd.func21, Tryd.ntmps21
  go_wp2_with fail
  refine (dcheck_any w B hB A n c H HS.out).mono ?_
  rintro e w1 ⟨rfl, hb1⟩
  rw [HA.out, HC0.out]
  have HB1 := Lib.hid hb1
  have HS1 := Lib.hid (HS'.out.keep (hb1.mono hB) (Nat.le_refl _))
  clear hb1
  go_wp2_with fail
  refine (dcheck_any w1 B (Nat.le_trans hB HB1.out.size) A' n' c' H' HS1.out).mono ?_
  rintro e w2 ⟨rfl, hb2⟩
  rw [HE.out, HC0'.out]
  have HB2 := Lib.hid (bcall HB1.out hb2)
  have HMS := Lib.hid (MkG.start HB2.out rfl rfl)
  clear hb2 HS1 HB1
  go_wp2_with fail
  have HB3 := Lib.hid (bnew (bnew HB2.out (.map #[] 0)) (.cells #[.slice none 0 0, .map (some w2.heap.size), .slice none 0 0, .int .i64 0] 62))
  have hsz2 : ((w2.alloc (.map #[] 0)).alloc (.cells #[.slice none 0 0, .map (some w2.heap.size), .slice none 0 0, .int .i64 0] 62)).heap.size = w2.heap.size + 1 + 1 := by simp
  obtain ⟨p, hp⟩ : ∃ p, w2.heap.size + 1 = p := ⟨_, rfl⟩
  obtain ⟨kb, hkb⟩ : ∃ p, w2.heap.size = p := ⟨_, rfl⟩
  rw [hkb] at HMS HB3 hsz2 hp
  rw [hp] at HMS hsz2
  rw [hkb, hp]
  have hpw : w.heap.size ≤ p := by have := HB2.out.size; omega
  generalize (w2.alloc (.map #[] 0)).alloc (.cells #[.slice none 0 0, .map (some kb), .slice none 0 0, .int .i64 0] 62) = W2 at *
  have HB4 := Lib.hid (bnew HB3.out (.cells #[.int .i64 0, .int .i64 0] 3))
  have hO4 : (W2.alloc (.cells #[.int .i64 0, .int .i64 0] 3)).ownsRow (p + 1) 3 1 (.slice (some ⟨p + 1, 0, none⟩) 2 2) 2 (([0, 0] : List Int).map (.int .i64)) := own_new W2 #[.int .i64 0, .int .i64 0] 3 1 2 rfl (by unfold maxLen; omega) hsz2.symm (by omega)
  have HM4 := Lib.hid (HMS.out.keep (bnew (brefl W2) (.cells #[.int .i64 0, .int .i64 0] 3)))
  have hF4 : Fam (W2.alloc (.cells #[.int .i64 0, .int .i64 0] 3)) w.heap.size ([] ++ [⟨some ⟨p + 1, 0, none⟩, 2, [0, 0]⟩]) := ⟨fun x hx => by
    rw [List.mem_singleton.1 hx]
    exact own_lower hO4 (by omega), List.pairwise_singleton _ _⟩
  have HF4 := Lib.hid hF4
  have hbs4 := HB4.out.size
  clear hO4 hF4 hsz2 hmk HB3 HMS hp hkb
  generalize W2.alloc (.cells #[.int .i64 0, .int .i64 0] 3) = W4 at *
  have HT4 := Lib.hid (HT.out.below HB4.out)
  obtain ⟨ab, ao, rfl, hab, hac⟩ := (HS.out.keep (HB4.out.mono hB) (Nat.le_refl _)).at_ hnp
  obtain ⟨eb, eo, rfl, heb, hec⟩ := (HS'.out.keep (HB4.out.mono hB) (Nat.le_refl _)).at_ hnp'
  obtain ⟨X0, hX0⟩ : ∃ X, H[0]? = some X := ⟨H[0]'(by omega), List.getElem?_eq_getElem _⟩
  obtain ⟨Y0, hY0⟩ : ∃ X, H'[0]? = some X := ⟨H'[0]'(by omega), List.getElem?_eq_getElem _⟩
  have a0 := (hac 0 X0 hX0).1
  have e0 := (hec 0 Y0 hY0).1
  rw [Nat.zero_mul, Nat.add_zero] at a0 e0
  obtain ⟨fa, hfa⟩ : ∃ f, X0.d.1 = f := ⟨_, rfl⟩
  obtain ⟨fe, hfe⟩ : ∃ f, Y0.d.1 = f := ⟨_, rfl⟩
  rw [hfa] at a0
  rw [hfe] at e0
  have HF0 : Hid (finP a e' [0, 0] = (fa && fe)) := by
    show (finD a 0 && finD e' 0) = _
    unfold finD
    rw [← HA.out, ← HE.out]
    show (((H.map (·.d))[0]?.map (·.1)).getD false && ((H'.map (·.d))[0]?.map (·.1)).getD false) = _
    rw [List.getElem?_map, List.getElem?_map, hX0, hY0]
    show (X0.d.1 && Y0.d.1) = _
    rw [hfa, hfe]
  have haw : ab < W4.heap.size := by omega
  have hew : eb < W4.heap.size := by omega
  have HST := Lib.hid (state_any W4 w.heap.size p none 0 0 none 0 kb (.map []) GRow.nil [] [] HM4.out (by omega) HT4.out HT.out.lt ⟨some ⟨p + 1, 0, none⟩, 2, [0, 0]⟩ 2 rfl HF4.out (by omega) (fun x hx => by simp at hx; omega))
  clear HB2 hac hec hX0 hY0 hfa hfe HM4
  cases fa
  all_goals
    go_wp2_with fail
    refine (HST.out _).mono ?_
    rintro e w5 ⟨i0, rfl, hk5, ht5, hcase⟩
    have hcase2 : i0 = 0 ∧ ∃ As' cs' At' ct' N', MkR w5 w.heap.size p As' (0 + 1) cs' At' ct' kb N' GRow.nil ([] ++ [⟨(finP a e' [0, 0], []), none, 0⟩]) ([] ++ [⟨some ⟨p + 1, 0, none⟩, 2, [0, 0]⟩]) := by
      rw [HF0.out]
      rcases hcase with ⟨h1, _⟩ | ⟨_, h2, h3⟩
      · cases h1
      · exact ⟨h2, h3⟩
    obtain ⟨rfl, As, cs, At, ct, N, hmk5⟩ := hcase2
    have hFS : Fam w5 w.heap.size ([] ++ ([] ++ [⟨some ⟨p + 1, 0, none⟩, 2, [0, 0]⟩])) := hmk5.g.fam
    have HTI : Hid (TiG w w5 p As 1 cs At ct kb N GRow.nil [⟨(finP a e' [0, 0], []), none, 0⟩] [⟨some ⟨p + 1, 0, none⟩, 2, [0, 0]⟩] [] GRow.nil) := ⟨HB4.out.trans hk5.bel, hmk5, ht5, hFS, GRow.own_nil _ _ _ _⟩
    have HMP : Hid (MadeP (pairW a e') (finP a e') (finP a e') [0, 0] 0 [[0, 0]] [(finP a e' [0, 0], [])]) := MadeP.start _ _ _ _
    have HIN : Hid (∀ s ∈ ([⟨some ⟨p + 1, 0, none⟩, 2, [0, 0]⟩] : List Rw), IsPair n n' s.l) := fun s hs => by
      rw [List.mem_singleton.1 hs]
      exact ⟨0, 0, hnp, hnp', rfl⟩
    have HSH : Hid (∀ k, 0 ≤ k → k < 1 → ∃ s, ([⟨some ⟨p + 1, 0, none⟩, 2, [0, 0]⟩] : List Rw)[k]? = some s ∧ ([⟨(finP a e' [0, 0], []), none, 0⟩] : List Sh)[k]? = some ⟨(finP a e' s.l, []), none, 0⟩) := fun k _ hk => by
      obtain rfl : k = 0 := by omega
      exact ⟨_, rfl, rfl⟩
    clear hcase hmk5 hk5 ht5 HST hFS HT4 HB4 HF4 a0 e0 haw hew HF0 HC0 HC0' hbs4
    go_wp2_with fail
    refine both_i (w := w) (W0 := w5) (B := B) hB ab ao n c H HS eb eo n' c' H' HS' hab heb a e' HA HE HG HG' hln hln' HAL HEL HT hnp hnp' hnm hnm' most HFEW p kb 1 cs ct As At N _ _ (by omega) HTI HMP ⟨HIN.out, HSH.out⟩ _ _ _ _ _ _ _ _ _ _ _ _ _ _ _ _ _ _ _ _ _ _ _ _ _ _ _ _ _ _ _ _ _ _ _ _ _ _ _ _ _ _ _ _ _ _ _ _ _ _ _ _ _ _ _ _ _ _ _ _ _ _ _ _ _ _ _ _ _ _ _ _ _ _ _ _ _ _ _ _ _ _ _ _ _ _ _ _ _ _ _ _ _ _ _ _ _ _ _ _ _ _ _ _ _ _ _ _ _ _ _ _ _ _ _ _ _ _ _ _ _ _ _ _ _ _ _ _ _ _ _ _ _ _ _ _ _ _ _ _ _ _ _ _ _ _ _ (fun c a a' w hd h => by cases a; cases a'; cases hd; exact h) ?_ ?_
    · intro W x9 u10 u11 u12 u14 u16 u17 u18 u43 u44 u45 u46 u47 u48 u49 u50 u51 u52 u53 u54 u55 u56 u57 u58 u59 u60 u61 u62 u63 u64 u65 u66 u67 u68 u69 u70 u71 u72 u73 u74 u75 u76 u77 u78 u79 u80 u81 u82 u83 u84 u85 u86 u87 u88 u89 u90 u91 u92 u93 u94 u95 u96 u97 u98 u99 u100 u101 u102 u103 u104 u105 u106 u107 u108 u109 u110 u111 u112 u113 u114 u115 u116 u117 u118 u119 u120 u121 u122 u123 u124 u125 u126 u127 u128 u129 u130 u131 u132 u133 u134 u135 u136 u137 u138 u139 u140 u141 u142 u143 u144 u145 HLN HB
      clear HTI HMP HIN HSH
      go_wp2_with fail
      go_ret2
      exact .inl ⟨HLN.out, rfl, HB.out⟩
    · intro ns cs ct As At N hs S wr u6 u7 u10 u11 u12 u14 u16 u17 u18 u43 u44 u45 u46 u47 u48 u49 u50 u51 u52 u53 u54 u55 u56 u57 u58 u59 u60 u61 u62 u63 u64 u65 u66 u67 u68 u69 u70 u71 u72 u73 u74 u75 u76 u77 u78 u79 u80 u81 u82 u83 u84 u85 u86 u87 u88 u89 u90 u91 u92 u93 u94 u95 u96 u97 u98 u99 u100 u101 u102 u103 u104 u105 u106 u107 u108 u109 u110 u111 u112 u113 u114 u115 u116 u117 u118 u119 u120 u121 u122 u123 u124 u125 u126 u127 u128 u129 u130 u131 u132 u133 u134 u135 u136 u137 u138 u139 u140 u141 u142 u143 u144 u145 hns HI0 HR HP
      clear HTI HMP HIN HSH
      obtain ⟨m0, m1, m2⟩ := HR.out.mr.g.cells
      have hpl := HR.out.mr.g.lt
      clear m1 m2
      have hml : (S.map (·.l)).length = ns := by rw [List.length_map]; exact HR.out.mr.sl
      have hns1 : 1 ≤ ns := by
        have h1 := run_head (pairW a e') [0, 0] ns
        rw [← HP.out.run] at h1
        have := (List.getElem?_eq_some_iff.1 h1).1
        omega
      have hnm2 : (ns : Int) ≤ most := by
        rcases HI0.out with h1 | h1
        · omega
        · exact h1
      have hns4 : ns ≤ 20000 := by
        have h1 := HFEW.out ns
        rw [← HP.out.run, hml] at h1
        exact h1
      have HGD := Lib.hid (HP.out.good (pairW_plain a e') hml.symm (by omega))
      have HLQ := Lib.hid (HP.out.leq (pairW_plain a e') hml.symm)
      have HFF : Hid (∀ f, (((pairW a e').run f 0 [[0, 0]]).length : Nat) ≤ most) := fun f => by
        have h1 := (HP.out.last (pairW_plain a e') hml.symm).2.2 f
        omega
      have HOS : Hid (OwnSts wr w.heap.size (.slice As ns cs) hs) := ⟨by rw [HR.out.mr.hl]; exact HR.out.mr.g.st, HR.out.mr.g.arcs.tail⟩
      have HSI := Lib.hid (HOS.out.sts HR.out.mr.hl (by omega) (fun x hx => by
        have h1 := HGD.out.asc x.d (List.mem_map_of_mem hx)
        have := asc_few h1
        omega))
      have HTW := Lib.hid HR.out.tab
      have HBW := Lib.hid HR.out.bel
      have HDN : Hid ((hs.map (·.d)).length = ns) := by show _ = _; rw [List.length_map]; exact HR.out.mr.hl
      clear hml HI0 HP HR
      go_wp2_with fail
      refine (dleast_any wr wr.heap.size (Nat.le_refl _) As ns cs hs HSI.out (by omega) HGD.out HTW.out).mono ?_
      rintro e w9 ⟨v9, hs9, rfl, hown9, hl9, hle9, hb9⟩
      have HO9 := Lib.hid hown9
      have HL9 := Lib.hid hl9
      have HB9 := Lib.hid hb9
      clear hown9 hl9 hb9
      go_wp2_with fail
      go_ret2
      exact .inr ⟨HFF.out, v9, hs9, hs.map (·.d), rfl, ⟨own_lower HO9.out.out HBW.out.size, fun z hz => own_lower (HO9.out.fam.own z hz) HBW.out.size, HO9.out.fam.ap⟩, HL9.out, HLQ.out, by rw [HDN.out]; exact hle9, by rw [HDN.out]; omega, bcall HBW.out HB9.out⟩
end Go.Proofs.YtebdffabfimmkaaDoor
/- dfa.Least; dfa.Both of what is no automaton. -/
namespace Go.Proofs.YtebdffabfimmkaaDoor
open Go.RowKit Go.Maps

set_option maxRecDepth 100000 in
set_option maxHeartbeats 8000000 in
theorem oleast_any (w : World) (B : Nat) (hB : B ≤ w.heap.size) (A : Option Addr) (n c : Nat) (H : List Sh) (h : StsIn w B A n c H) (hg : Good (H.map (·.d))) (ht : Tab w) :
    Calls Tryd.prog 23 #[.slice A n c] w fun e w' => ∃ v hs, e = .returned (.tuple #[v, .int .i64 0]) ∧ OwnSts w' w.heap.size v hs ∧ LeastIs (auOf (H.map (·.d))) 0 (hs.map (·.d)) ∧ hs.length ≤ n ∧ Below w.heap.size w w' := by
  have HS := Lib.hid h
  have HC0 : Hid (checkE (H.map (·.d)) = 0) := (good_iff _).2 hg
  have HG := Lib.hid hg
  have HT := Lib.hid ht
  have hnp : 0 < n := by rw [← h.len, ← List.length_map (f := (·.d))]; exact List.length_pos_iff.2 hg.ne
  clear h hg ht
  go_enter Tryd.func23, Tryd.ntmps23
  go_wp2_with fail
  refine (dcheck_any w B hB A n c H HS.out).mono ?_
  rintro e w1 ⟨rfl, hb1⟩
  rw [HC0.out]
  have HB1 := Lib.hid hb1
  clear hb1
  go_wp2_with fail
  refine (dleast_any w1 B (Nat.le_trans hB HB1.out.size) A n c H (HS.out.keep (HB1.out.mono hB) (Nat.le_refl _)) hnp HG.out (HT.out.below HB1.out)).mono ?_
  rintro e w2 ⟨v, hs, rfl, hown, hl, hle, hb2⟩
  have HO := Lib.hid hown
  have HL := Lib.hid hl
  have HB2 := Lib.hid hb2
  clear hown hl hb2
  go_wp2_with fail
  go_ret2
  exact ⟨v, hs, rfl, ⟨own_lower HO.out.out HB1.out.size, fun z hz => own_lower (HO.out.fam.own z hz) HB1.out.size, HO.out.fam.ap⟩, HL.out, hle, bcall HB1.out HB2.out⟩
set_option maxRecDepth 100000 in
set_option maxHeartbeats 8000000 in
theorem oleast_bad (w : World) (B : Nat) (hB : B ≤ w.heap.size) (A : Option Addr) (n c : Nat) (H : List Sh) (h : StsIn w B A n c H) (hg : checkE (H.map (·.d)) ≠ 0) :
    Calls Tryd.prog 23 #[.slice A n c] w fun e w' => e = .returned (.tuple #[.slice none 0 0, .int .i64 3]) ∧ Below w.heap.size w w' := by
  have HS := Lib.hid h
  obtain ⟨ck, hck⟩ : ∃ k, checkE (H.map (·.d)) = k := ⟨_, rfl⟩
  have HC := Lib.hid hck
  rw [hck] at hg
  have q : (ck == 0) = false := by simpa using hg
  clear h hck hg
  go_enter Tryd.func23, Tryd.ntmps23
  go_wp2_with fail
  refine (dcheck_any w B hB A n c H HS.out).mono ?_
  rintro e w1 ⟨rfl, hb1⟩
  rw [HC.out]
  have HB1 := Lib.hid hb1
  clear hb1
  go_wp2_with fail
  go_ret2
  exact ⟨rfl, HB1.out⟩
end Go.Proofs.YtebdffabfimmkaaDoor
/- Arguments of any depth (numbers, bools, strings, structs, slices): what a value reads as, once for all types. -/
namespace Go.Proofs.YtebdffabfimmkaaDoor
open Go.RowKit Go.ChangeShapes Go.WideShapes Go.Deep

/-- A shape: a number, a bool, a string, a slice (its element's shape and bytes), a struct as a list of fields. -/
inductive Ty where
  | int (k : IntKind)
  | bool
  | str
  | slice (e : Ty) (bytes : Nat)
  | nil
  | cons (f r : Ty)
def Ty.size : Ty → Nat
  | .nil => 0
  | .cons f r => f.size + r.size
  | _ => 1
structure SlH where
  A : Option Addr
  n : Nat
  c : Nat
def Ty.den : Ty → Type
  | .int _ => Int
  | .bool => Bool
  | .str => ByteArray
  | .slice e _ => SlH × (Nat → e.den)
  | .nil => Unit
  | .cons f r => f.den × r.den
theorem Ty.inh : (t : Ty) → Nonempty t.den
  | .int _ => ⟨(0 : Int)⟩
  | .bool => ⟨false⟩
  | .str => ⟨ByteArray.empty⟩
  | .slice e _ => by
    obtain ⟨x⟩ := Ty.inh e
    exact ⟨(⟨none, 0, 0⟩, fun _ => x)⟩
  | .nil => ⟨()⟩
  | .cons f r => by
    obtain ⟨x⟩ := Ty.inh f
    obtain ⟨y⟩ := Ty.inh r
    exact ⟨(x, y)⟩
def SlH.ok (s : SlH) (bytes : Nat) : Prop := s.n ≤ s.c ∧ s.c ≤ maxLen ∧ s.n * bytes ≤ reachBytes ∧ (s.A = none → s.c = 0)
/-- The cells cs read as d. -/
def Reads (w : World) (B : Nat) : (t : Ty) → t.den → List Value → Prop
  | .int k, d, cs => ∃ z : Int, d = z ∧ cs = [.int k z] ∧ (Lit.int k z).wf = true
  | .bool, d, cs => ∃ b : Bool, d = b ∧ cs = [.bool b]
  | .str, d, cs => ∃ s : ByteArray, d = s ∧ cs = [.string s] ∧ s.size ≤ maxLen ∧ s.size ≤ reachBytes
  | .slice e bytes, d, cs => cs = [.slice d.1.A d.1.n d.1.c] ∧ d.1.ok bytes ∧ (0 < d.1.n → ∃ b off, d.1.A = some ⟨b, off, none⟩ ∧ b < B ∧
      ∀ i, i < d.1.n → ∃ cl : List Value, cl.length = e.size ∧ (∀ j u, cl[j]? = some u → w.cell? ⟨b, off + (i * e.size + j), none⟩ = some u) ∧ Reads w B e (d.2 i) cl)
  | .nil, _, cs => cs = []
  | .cons f r, d, cs => ∃ c1 c2, cs = c1 ++ c2 ∧ c1.length = f.size ∧ Reads w B f d.1 c1 ∧ Reads w B r d.2 c2

theorem Reads.keep {w w' : World} {B B' : Nat} (hB : B ≤ B') (hk : ∀ b o, b < B → w'.cell? ⟨b, o, none⟩ = w.cell? ⟨b, o, none⟩) : ∀ {t : Ty} {d : t.den} {cs : List Value}, Reads w B t d cs → Reads w' B' t d cs
  | .int _, _, _, h => h
  | .bool, _, _, h => h
  | .str, _, _, h => h
  | .slice e bytes, d, cs, h => by
    obtain ⟨h1, h2, h3⟩ := h
    refine ⟨h1, h2, fun hn => ?_⟩
    obtain ⟨b, off, hA, hb, hi⟩ := h3 hn
    refine ⟨b, off, hA, by omega, fun i hin => ?_⟩
    obtain ⟨cl, hl, hc, hr⟩ := hi i hin
    exact ⟨cl, hl, fun j u hu => (hk _ _ hb).trans (hc j u hu), Reads.keep hB hk hr⟩
  | .nil, _, _, h => h
  | .cons f r, d, cs, h => by
    obtain ⟨c1, c2, h1, h2, h3, h4⟩ := h
    exact ⟨c1, c2, h1, h2, Reads.keep hB hk h3, Reads.keep hB hk h4⟩
theorem Reads.below {w w' : World} {t : Ty} {d : t.den} {cs : List Value} (h : Reads w w.heap.size t d cs) (hb : Below w.heap.size w w') : Reads w' w'.heap.size t d cs :=
  h.keep hb.size fun b o hl => hb.cell (p := ⟨b, o, none⟩) hl
theorem Reads.len {w : World} {B : Nat} : ∀ {t : Ty} {d : t.den} {cs : List Value}, Reads w B t d cs → cs.length = t.size
  | .int _, _, _, ⟨_, _, h, _⟩ => by rw [h]; rfl
  | .bool, _, _, ⟨_, _, h⟩ => by rw [h]; rfl
  | .str, _, _, ⟨_, _, h, _⟩ => by rw [h]; rfl
  | .slice _ _, _, _, ⟨h, _⟩ => by rw [h]; rfl
  | .nil, _, _, h => by rw [show _ = [] from h]; rfl
  | .cons f r, d, cs, ⟨c1, c2, h, hl, _, h2⟩ => by
    have := Reads.len h2
    rw [h, List.length_append, hl, this]
    rfl

/-- The cells of what is read. -/
def Ty.cells : (t : Ty) → t.den → List Value
  | .int k, d => [.int k d]
  | .bool, d => [.bool d]
  | .str, d => [.string d]
  | .slice _ _, d => [.slice d.1.A d.1.n d.1.c]
  | .nil, _ => []
  | .cons f r, d => f.cells d.1 ++ r.cells d.2
theorem Reads.cells {w : World} {B : Nat} : ∀ {t : Ty} {d : t.den} {cs : List Value}, Reads w B t d cs → cs = t.cells d
  | .int _, _, _, ⟨_, h, e, _⟩ => by rw [e, h]; rfl
  | .bool, _, _, ⟨_, h, e⟩ => by rw [e, h]; rfl
  | .str, _, _, ⟨_, h, e, _⟩ => by rw [e, h]; rfl
  | .slice _ _, _, _, ⟨h, _⟩ => h
  | .nil, _, _, h => h
  | .cons f r, d, cs, ⟨c1, c2, h, _, h1, h2⟩ => by rw [h, Reads.cells h1, Reads.cells h2]; rfl
theorem Reads.sl {w : World} {B bytes : Nat} {e : Ty} {A : Option Addr} {n c : Nat} {x : Nat → e.den} {cs : List Value} (h : Reads w B (.slice e bytes) (⟨A, n, c⟩, x) cs) (hl : ∀ d : e.den, (e.cells d).length = e.size) :
    Sl w B e.size A n ((List.range n).flatMap fun i => e.cells (x i)) := by
  obtain ⟨_, _, h3⟩ := h
  refine ⟨by rw [flat_length _ e.size (fun i => hl (x i)), List.length_range], fun hn => ?_⟩
  obtain ⟨b, off, hA, hb, hi⟩ := h3 hn
  refine ⟨b, off, hA, hb, fun j u hu => ?_⟩
  have hjl : j < n * e.size := by
    have := (List.getElem?_eq_some_iff.1 hu).1
    rw [flat_length _ e.size (fun i => hl (x i)), List.length_range] at this
    exact this
  have hs : 0 < e.size := by
    rcases Nat.eq_zero_or_pos e.size with h0 | h0
    · rw [h0, Nat.mul_zero] at hjl; omega
    · exact h0
  have hq : j / e.size < n := Nat.div_lt_of_lt_mul (by rw [Nat.mul_comm]; exact hjl)
  have hr : j % e.size < e.size := Nat.mod_lt _ hs
  have hj : j / e.size * e.size + j % e.size = j := by rw [Nat.mul_comm]; exact Nat.div_add_mod j e.size
  obtain ⟨cl, _, hc, hrd⟩ := hi (j / e.size) hq
  rw [← hj] at hu ⊢
  rw [flat_at _ e.size (fun i => hl (x i)) (List.range n) (j / e.size) (j % e.size) (j / e.size) (by simp [hq]) hr] at hu
  refine hc (j % e.size) u ?_
  rw [hrd.cells]
  exact hu
theorem Reads.elem {w : World} {B bytes : Nat} {e : Ty} {A : Option Addr} {n c : Nat} {x : Nat → e.den} {cs : List Value} (h : Reads w B (.slice e bytes) (⟨A, n, c⟩, x) cs) {i : Nat} (hi : i < n) : ∃ cl, Reads w B e (x i) cl := by
  obtain ⟨_, _, h3⟩ := h
  obtain ⟨_, _, _, _, hh⟩ := h3 (show 0 < n by omega)
  obtain ⟨cl, _, _, hr⟩ := hh i hi
  exact ⟨cl, hr⟩

def tyFields (P : Program) (g : TypeId → Option Ty) : List Field → Nat → Option Ty
  | [], _ => some .nil
  | f :: fs, o => if f.offset = o then
      match g f.type with
      | some τ => if P.cellsOf f.type = τ.size then (tyFields P g fs (o + τ.size)).map (.cons τ) else none
      | none => none
    else none
def tyOf (P : Program) : Nat → TypeId → Option Ty
  | 0, _ => none
  | k + 1, t => match P.underlying t with
    | some (.int k) => some (.int k)
    | some .bool => some .bool
    | some .string => some .str
    | some (.slice e) => match tyOf P k e with
      | some τ => if P.cellsOf e = τ.size ∧ 0 < τ.size then some (.slice τ (P.bytesOf e)) else none
      | none => none
    | some (.struct fs) => match tyFields P (tyOf P k) fs.toList 0 with
      | some τ => if P.cellsOf t = τ.size then some τ else none
      | none => none
    | _ => none

section
variable {H : Type} {enc : TypeId × Value → H} {P : Program} {w : World} {base : Nat} {spare : Nat → Bool} {held : Bool}
def Small (P : Program) (t : TypeId) (d : DataW H) : Prop := ∀ n ∈ d.weights P t, n ≤ reachBytes
theorem weights_mem_all {e : TypeId} : ∀ {ds : List (DataW H)} {d : DataW H}, d ∈ ds → ∀ n ∈ d.weights P e, n ∈ DataW.weightsAll P e ds
  | x :: ds, d, hd, n, hn => by
    rw [DataW.weightsAll, List.mem_append]
    rcases List.mem_cons.1 hd with rfl | h
    · exact .inl hn
    · exact .inr (weights_mem_all h n hn)
theorem reads_fields {k n : Nat} (ih : ∀ (t : TypeId) (τ : Ty), tyOf P k t = some τ → ∀ (fuel : Nat) (cs : List Value) (x : DataW H × List MemPlace), DataW.trod enc P w base spare held fuel t cs = some x → Small P t x.1 → ∃ d : τ.den, Reads w w.heap.size τ d cs) (cs : List Value) :
    ∀ (fs : List Field) (o : Nat) (τ : Ty), tyFields P (tyOf P k) fs o = some τ → cs.length = o + τ.size →
      (∀ f ∈ fs, ∃ y : DataW H × List MemPlace, DataW.trod enc P w base spare held n f.type ((cs.drop f.offset).take (P.cellsOf f.type)) = some y ∧ Small P f.type y.1) → ∃ d : τ.den, Reads w w.heap.size τ d (cs.drop o)
  | [], o, τ, h, hl, _ => by
    rw [tyFields] at h
    injection h with h
    subst h
    exact ⟨(), List.drop_eq_nil_of_le (by rw [hl]; exact Nat.le_refl _)⟩
  | f :: fs, o, τ, h, hl, hf => by
    rw [tyFields] at h
    split at h
    · rename_i ho
      split at h
      · rename_i τ0 h0
        split at h
        · rename_i hc
          cases hr : tyFields P (tyOf P k) fs (o + τ0.size) with
          | none => rw [hr] at h; cases h
          | some τ1 =>
            rw [hr] at h
            injection h with h
            subst h
            have hl' : cs.length = o + τ0.size + τ1.size := by rw [hl]; show o + (τ0.size + τ1.size) = _; omega
            obtain ⟨y, hy, hs⟩ := hf f (List.mem_cons_self ..)
            obtain ⟨d0, r0⟩ := ih f.type τ0 h0 n _ y hy hs
            obtain ⟨d1, r1⟩ := reads_fields ih cs fs (o + τ0.size) τ1 hr hl' (fun g hg => hf g (List.mem_cons_of_mem _ hg))
            rw [hc, ho] at r0
            refine ⟨(d0, d1), (cs.drop o).take τ0.size, cs.drop (o + τ0.size), ?_, ?_, r0, r1⟩
            · rw [← List.drop_drop, List.take_append_drop]
            · rw [List.length_take, List.length_drop]; omega
        · cases h
      · cases h
    · cases h
theorem reads_of : ∀ (k : Nat) (t : TypeId) (τ : Ty), tyOf P k t = some τ → ∀ (fuel : Nat) (cs : List Value) (x : DataW H × List MemPlace), DataW.trod enc P w base spare held fuel t cs = some x → Small P t x.1 → ∃ d : τ.den, Reads w w.heap.size τ d cs
  | 0, t, τ, h, _, _, _, _, _ => by rw [tyOf] at h; cases h
  | k + 1, t, τ, h, fuel, cs, x, hx, hs => by
    have ih := reads_of k
    rw [tyOf] at h
    split at h
    · rename_i kk hu
      injection h with h
      subst h
      obtain ⟨z, e, _, wz⟩ := DataW.trod_int hu hx
      exact ⟨z, z, rfl, e, wz⟩
    · rename_i hu
      injection h with h
      subst h
      obtain ⟨b, e, _⟩ := DataW.trod_bool hu hx
      exact ⟨b, b, rfl, e⟩
    · rename_i hu
      injection h with h
      subst h
      obtain ⟨s, e, ex, hm⟩ := DataW.trod_string hu hx
      subst ex
      refine ⟨s, s, rfl, e, hm, ?_⟩
      have := hs s.data.toList.length (by simp [DataW.weights])
      simpa using this
    · rename_i e hu
      split at h
      · rename_i τ0 h0
        split at h
        · rename_i hc
          obtain ⟨hc, hp⟩ := hc
          injection h with h
          subst h
          rcases open_slice hu hx with ⟨hcs, _⟩ | ⟨a, len, cap, mm, nn, D, Pl, hcs, _, hlc, hcm, hmm, ex, hi⟩
          · obtain ⟨x0⟩ := Ty.inh τ0
            exact ⟨(⟨none, 0, 0⟩, fun _ => x0), hcs, ⟨Nat.le_refl _, Nat.zero_le _, by rw [Nat.zero_mul]; exact Nat.zero_le _, fun _ => rfl⟩, fun h => absurd h (Nat.lt_irrefl _)⟩
          · have hle : len ≤ mm := by rw [hmm]; split <;> omega
            subst ex
            have hsl : Small P t (DataW.slice ((List.range len).map D) ((List.range (mm - len)).map fun j => D (len + j))) := hs
            have hbytes : len * P.bytesOf e ≤ reachBytes := by
              have := hsl ((((List.range len).map D).length + ((List.range (mm - len)).map fun j => D (len + j)).length) * P.bytesOf e) (by simp [DataW.weights, hu])
              refine Nat.le_trans (Nat.mul_le_mul_right _ ?_) this
              simp
            have row : ∀ i, i < len → ∃ d : τ0.den, ∃ cl : List Value, cl.length = τ0.size ∧ (∀ j u, cl[j]? = some u → w.cell? ((a.add (i * τ0.size)).add j) = some u) ∧ Reads w w.heap.size τ0 d cl := by
              intro i hin
              obtain ⟨cs', hcs', htr⟩ := hi i (by omega)
              rw [hc] at hcs'
              obtain ⟨_, hcl, hat⟩ := World.cells?_some hcs'
              obtain ⟨d, hd⟩ := ih e τ0 h0 nn cs' _ htr (fun n hn => hsl n (by
                rw [DataW.weights, hu]
                simp only [List.mem_cons, List.mem_append]
                exact .inr (.inl (weights_mem_all (List.mem_map.2 ⟨i, List.mem_range.2 hin, rfl⟩) n hn))))
              refine ⟨d, cs', hd.len, fun j u hu => ?_, hd⟩
              have hj : j < τ0.size := by have := (List.getElem?_eq_some_iff.1 hu).1; have := hd.len; omega
              rw [hat j hj, hu]
            haveI : Inhabited τ0.den := ⟨Classical.choice (Ty.inh τ0)⟩
            obtain ⟨g, hg⟩ := choose_lt' row
            refine ⟨(⟨some a, len, cap⟩, g), hcs, ⟨hlc, hcm, hbytes, fun e => by cases e⟩, fun hn => ?_⟩
            have hn' : 0 < len := hn
            obtain ⟨cl, hl, hcell, _⟩ := hg 0 hn'
            have h00 := hcell 0 (cl[0]'(by omega)) (List.getElem?_eq_getElem _)
            obtain ⟨hb, hsp⟩ := lt_of_cell h00
            simp only [Nat.zero_mul, Addr.add, if_true] at hb hsp
            obtain ⟨ab, ao, asp⟩ := a
            simp only at hb hsp
            subst hsp
            refine ⟨ab, ao, rfl, hb, fun i hin => ?_⟩
            obtain ⟨cl, hl, hcell, hr⟩ := hg i hin
            refine ⟨cl, hl, fun j u hu => ?_, hr⟩
            have := hcell j u hu
            rw [Addr.add_lit, Addr.add_lit, Nat.add_assoc] at this
            exact this
        · cases h
      · cases h
    · rename_i fs hu
      split at h
      · rename_i τ0 h0
        split at h
        · rename_i hc
          injection h with h
          subst h
          obtain ⟨xs, n, _, ex, hl, hxl, hf⟩ := DataW.trod_struct hu hx
          subst ex
          have hS : Small P t (DataW.agg (xs.map (·.1))) := hs
          have := reads_fields (n := n) ih cs fs.toList 0 τ0 h0 (by rw [hl, hc, Nat.zero_add]) (fun f hm => by
            obtain ⟨i, hi⟩ := List.mem_iff_getElem?.1 hm
            have hi' : fs[i]? = some f := by simpa using hi
            have hlt : i < xs.length := by rw [hxl]; exact (Array.getElem?_eq_some_iff.1 hi').1
            refine ⟨xs[i], by rw [hf i f hi', List.getElem?_eq_getElem hlt], fun m hm' => hS m ?_⟩
            rw [DataW.weights, hu]
            exact DataW.weights_mem_each (j := i) (t := f.type) (d := xs[i].1) (by simp [hi]) (by simp [hlt]) m hm')
          rwa [List.drop_zero] at this
        · cases h
      · cases h
    · cases h
theorem small_of {ts : List TypeId} {ds : List (DataW H)} (h : (DataW.weightsEach P ts ds).all (· ≤ reachBytes) = true) {j : Nat} {t : TypeId} {d : DataW H} (ht : ts[j]? = some t) (hd : ds[j]? = some d) : Small P t d :=
  fun n hn => by simpa using List.all_eq_true.1 h n (DataW.weights_mem_each ht hd n hn)
theorem open_deep {k bytes : Nat} {t : TypeId} {e : Ty} {A : Option Addr} {n c : Nat} {d : DataW H} {p : List MemPlace} (hT : tyOf P k t = some (.slice e bytes)) (h : DataW.Trod enc P w base spare held t (.slice A n c) d p) (hs : Small P t d) :
    ∃ x : Nat → e.den, Reads w w.heap.size (.slice e bytes) (⟨A, n, c⟩, x) [.slice A n c] := by
  obtain ⟨m, hm⟩ := h
  obtain ⟨⟨⟨A', n', c'⟩, x⟩, hr⟩ := reads_of k t _ hT m _ _ hm hs
  have e : [Value.slice A n c] = [.slice A' n' c'] := hr.1
  simp only [List.cons.injEq, Value.slice.injEq, and_true] at e
  obtain ⟨rfl, rfl, rfl⟩ := e
  exact ⟨x, hr⟩
/-- A struct argument. -/
theorem open_deep_struct {k : Nat} {t : TypeId} {e : Ty} {cs : Array Value} {d : DataW H} {p : List MemPlace} (hT : tyOf P k t = some e) (h : DataW.Trod enc P w base spare held t (.agg cs) d p) (hs : Small P t d) :
    ∃ x : e.den, Reads w w.heap.size e x cs.toList := by
  obtain ⟨m, hm⟩ := h
  obtain ⟨x, hr⟩ := reads_of k t _ hT m _ _ hm hs
  exact ⟨x, hr⟩
end
end Go.Proofs.YtebdffabfimmkaaDoor
