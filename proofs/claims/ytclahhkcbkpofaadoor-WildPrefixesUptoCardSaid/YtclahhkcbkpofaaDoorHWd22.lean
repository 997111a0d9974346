/- The reference's Over, ends. -/
import Derived.Test.YtclahhkcbkpofaaDoorHWd21
import Derived.Test.YtclahhkcbkpofaaDoorHWd16
import Derived.Test.YtclahhkcbkpofaaDoorHWd11
import Derived.Test.YtclahhkcbkpofaaDoorHWd20
import Derived.Test.YtclahhkcbkpofaaDoorHWd5
import Derived.Test.YtclahhkcbkpofaaDoorHWd9
namespace Go.Proofs.YtclahhkcbkpofaaDoor
open Go.RowKit Go.Maps
set_option maxRecDepth 100000 in
set_option maxHeartbeats 8000000 in
theorem over_any (w : World) (B : Nat) (hB : B ≤ w.heap.size) (A : Option Addr) (n c : Nat) (H : List Lsh) (h : LoIn w B A n c H) (hg : LGood (H.map (·.d))) (As : Option Addr) (cs : Nat) (B0 : List Bool) (hs : Sl w w.heap.size 1 As n (B0.map .bool)) (hcs : n ≤ cs) (ch : Nat) :
    Calls Tryd.prog 35 #[.slice A n c, .slice As n cs, .int .i64 (ch : Int)] w fun e w' => ∃ A' c', e = .returned (.slice A' n c') ∧ w'.ownsRow w.heap.size 4 1 (.slice A' n c') n ((charL n (Clo (H.map (·.d)) (ovP (H.map (·.d)) (fun y => B0[y]? = some true) ch))).map .bool) ∧ n ≤ c' ∧ Below w.heap.size w w' := by
  have HS := Lib.hid h
  have HG := Lib.hid hg
  have HB := Lib.hid hs
  have hlen := h.len
  have hcm := h.cm
  have hmk := make_bool n (by omega)
  obtain ⟨l, hl⟩ : ∃ l, H.map (·.d) = l := ⟨_, rfl⟩
  have HL := Lib.hid hl
  have hll : l.length = n := by rw [← hl, List.length_map]; exact hlen
  have HLL := Lib.hid hll
  have hnp : 0 < n := by rw [← hll, ← hl]; exact List.length_pos_iff.2 hg.ne
  rw [hl]
  rw [hl] at HG
  have HR1 : Hid (SpR w (w.alloc (.cells (madeCells #[.bool false] n) 4)) w.heap.size n n (List.replicate n false)) := ⟨by
    have h1 := own_made w (.bool false) n (by omega) 4 rfl (Nat.le_refl w.heap.size)
    rw [List.map_replicate]
    exact h1, bnew (brefl w) _⟩
  have HP1 : Hid (OvR l B0 (ch : Int) (List.replicate n false) 0 0) := by
    have h1 := OvR.start l B0 (ch : Int)
    rw [hll] at h1
    exact h1
  clear h hg hs hl hll
  go_enter Tryd.func35, Tryd.ntmps35
  go_wp2_with fail
  generalize w.alloc (.cells (madeCells #[.bool false] n) 4) = w1 at *
  obtain ⟨ob, hob⟩ : ∃ k, w.heap.size = k := ⟨_, rfl⟩
  have HR2 : Hid (SpR w w1 ob n n (List.replicate n false)) := by rw [← hob]; exact HR1.out
  rw [hob]
  clear HR1
  go_loopw [8] (fun iv wr => ∃ (i : Nat) (L : List Bool), i ≤ n ∧ iv = .int .i64 i ∧ Hid (SpR w wr ob n n L) ∧ Hid (OvR l B0 (ch : Int) L i 0)) (fun iv _ => n - (intOf iv).toNat)
  case atStart => exact ⟨0, _, Nat.zero_le _, rfl, HR2, HP1⟩
  case round =>
    clear HR2 HP1
    obtain ⟨i, L, hi, rfl, HR, HP⟩ := hrel
    by_cases hin : i < n
    · obtain ⟨x, hx⟩ : ∃ x, H[i]? = some x := ⟨H[i]'(by omega), List.getElem?_eq_getElem _⟩
      have HX := Lib.hid hx
      clear hx hob hmk
      go_wp2_with fail
      refine over_k w wr B hB A n c H HS l HL HG hlen hcm i hin x HX As cs B0 HB hcs ch ob n L HR HP _ _ _ _ _ _ _ _ _ _ _ _ _ _ _ _ _ _ _ _ _ _ _ _ _ _ _ _ _ _ _ _ _ _ _ _ _ _ _ _ _ _ _ _ _ _ _ _ _ _ _ _ _ _ _ _ (fun c a a' w hd h => by cases a; cases a'; cases hd; exact h) ?_
      intro L W x9 u10 u20 u21 u22 u23 u24 u25 u26 u27 u28 u29 u30 u31 u32 u33 u34 u35 u36 u37 u38 u39 u40 u41 u42 u43 u44 u45 u46 u47 u48 u49 u50 u51 u52 u53 u54 u55 u56 u57 HR HP
      go_wp2_with fail
      go_roundw
      case rel => exact ⟨i + 1, L, by omega, by go_num, HR, HP⟩
      case measure => simp [intOf]; omega
    · obtain rfl : i = n := by omega
      have HE : Hid ((fun y : Nat => L[y]? = some true) = ovP l (fun y => B0[y]? = some true) ch) := by
        have h1 := HP.out
        rw [← HLL.out] at h1
        exact h1.done
      clear HP hob hmk
      go_wp2_with fail
      refine (spread_any wr B (Nat.le_trans hB HR.out.bel.size) A i c H (HS.out.keep (HR.out.bel.mono hB) (Nat.le_refl _)) (by rw [HL.out]; exact HG.out) (some ⟨ob, 0, none⟩) i L (Sl.of_own HR.out.own) (fun h => by cases h)).mono ?_
      rintro e w2 ⟨A2, c2, rfl, hown2, hb2⟩
      rw [HL.out, HE.out] at hown2
      have HO2 := Lib.hid (own_lower hown2 HR.out.bel.size)
      have HB2 := Lib.hid (bcall HR.out.bel hb2)
      have hc2 : i ≤ c2 := by
        obtain ⟨A3, c3, e3, hc3⟩ := own_shape hown2
        injection e3 with _ _ e3
        omega
      clear hown2 hb2 HR
      go_wp2_with fail
      go_ret
      exact ⟨A2, c2, rfl, HO2.out, hc2, HB2.out⟩
open Classical in
set_option maxRecDepth 100000 in
set_option maxHeartbeats 8000000 in
theorem ends_any (w : World) (B : Nat) (hB : B ≤ w.heap.size) (A : Option Addr) (n c : Nat) (H : List Lsh) (h : LoIn w B A n c H) (As : Option Addr) (cs : Nat) (B0 : List Bool) (hs : Sl w w.heap.size 1 As n (B0.map .bool)) (hcs : n ≤ cs) :
    Calls Tryd.prog 36 #[.slice A n c, .slice As n cs] w fun e w' => e = .returned (.bool (endB (H.map (·.d)) fun y => B0[y]? = some true)) ∧ Below w.heap.size w w' := by
  have HS := Lib.hid h
  have HB := Lib.hid hs
  have hlen := h.len
  have hcm := h.cm
  clear h hs
  go_enter Tryd.func36, Tryd.ntmps36
  go_wp2_with fail
  go_loopw [5] (fun iv wr => ∃ i : Nat, i ≤ n ∧ iv = .int .i64 i ∧ Hid (∀ (z : Nat) x, z < i → H[z]? = some x → x.d.fin = true → B0[z]? ≠ some true) ∧ Hid (Below w.heap.size w wr)) (fun iv _ => n - (intOf iv).toNat)
  case atStart => exact ⟨0, Nat.zero_le _, rfl, fun z x h => absurd h (by omega), brefl w⟩
  case round =>
    obtain ⟨i, hi, rfl, HN, HBW⟩ := hrel
    by_cases hin : i < n
    · have hi2 : (i : Int) < (n : Int) := by omega
      obtain ⟨b, off, rfl, hb, hcell⟩ := (HS.out.keep (HBW.out.mono hB) (Nat.le_refl _)).at_ (by omega)
      obtain ⟨x, hx⟩ : ∃ x, H[i]? = some x := ⟨H[i]'(by omega), List.getElem?_eq_getElem _⟩
      obtain ⟨k0, _, _⟩ := hcell i x hx
      have hB0 : B0.length = n := by have := HB.out.1; rw [List.length_map] at this; omega
      obtain ⟨bi, hbi⟩ : ∃ bi, B0[i]? = some bi := ⟨B0[i]'(by omega), List.getElem?_eq_getElem _⟩
      obtain ⟨sb, so, rfl, hsb, hsc⟩ := HB.out.at_ hin
      have s0 := (HBW.out.cell (p := ⟨sb, so + i, none⟩) hsb).trans (hsc i (.bool bi) (by rw [List.getElem?_map, hbi]; rfl))
      have hbs := HBW.out.size
      have hbw : b < wr.heap.size := by omega
      have hsw : sb < wr.heap.size := by omega
      have HX := Lib.hid hx
      have HBI := Lib.hid hbi
      have HNX : Hid ((bi && x.d.fin) = false → ∀ (z : Nat) y, z < i + 1 → H[z]? = some y → y.d.fin = true → B0[z]? ≠ some true) := fun hf z y hz hy hfy hbz => by
        by_cases e : z < i
        · exact HN.out z y e hy hfy hbz
        · obtain rfl : z = i := by omega
          rw [HX.out] at hy
          injection hy with hy
          rw [HBI.out] at hbz
          injection hbz with hbz
          rw [hbz, hy, hfy] at hf
          cases hf
      have HYE : Hid (bi = true → x.d.fin = true → endB (H.map (·.d)) (fun y => B0[y]? = some true) = true) := fun h1 h2 => by
        unfold endB
        exact decide_eq_true ⟨i, x.d, by rw [List.getElem?_map, HX.out]; rfl, h2, by show B0[i]? = some true; rw [HBI.out, h1]⟩
      obtain ⟨fi, hfi⟩ : ∃ f, x.d.fin = f := ⟨_, rfl⟩
      rw [hfi] at k0 HNX HYE
      clear hcell hx hbi hsc hfi HN
      cases bi
      · go_wp2_with fail
        go_roundw
        case rel => exact ⟨i + 1, by omega, by go_num, HNX.out rfl, HBW⟩
        case measure => simp [intOf]; omega
      · cases fi
        · go_wp2_with fail
          go_roundw
          case rel => exact ⟨i + 1, by omega, by go_num, HNX.out rfl, HBW⟩
          case measure => simp [intOf]; omega
        · have HE := Lib.hid (HYE.out rfl rfl)
          clear HYE HNX
          go_wp2_with fail
          go_ret
          exact ⟨by rw [HE.out]; rfl, HBW.out⟩
    · obtain rfl : i = n := by omega
      have HE : Hid (endB (H.map (·.d)) (fun y => B0[y]? = some true) = false) := by
        show _ = _
        unfold endB
        refine decide_eq_false ?_
        rintro ⟨z, s, h1, h2, h3⟩
        rw [List.getElem?_map] at h1
        obtain ⟨x, hx, rfl⟩ := Option.map_eq_some_iff.1 h1
        exact HN.out z x (by have := (List.getElem?_eq_some_iff.1 hx).1; omega) hx h2 h3
      clear HN
      go_wp2_with fail
      go_ret
      exact ⟨by rw [HE.out]; rfl, HBW.out⟩
end Go.Proofs.YtclahhkcbkpofaaDoor
/- The reference's Takes. -/
namespace Go.Proofs.YtclahhkcbkpofaaDoor
open Go.RowKit Go.Maps
/-- The set that a loose automaton is in behind some bytes. -/
def runZ (l : List Lst) (s : List Nat) : Nat → Prop := runP l (Clo l fun x => x = 0) s
/-- A loose automaton takes a text, by sets. -/
noncomputable def looseTakes (l : List Lst) (t : List UInt8) : Bool := endB l (runZ l (bytesN t))
set_option linter.unusedVariables false in
theorem runP_snoc (l : List Lst) : ∀ (s : List Nat) (P : Nat → Prop) (c : Nat), runP l P (s ++ [c]) = Clo l (ovP l (runP l P s) c)
  | [], P, c => rfl
  | d :: r, P, c => runP_snoc l r _ c
theorem ovP_lt {l : List Lst} {P : Nat → Prop} {c : Nat} : ovP l (fun y => (charL l.length P)[y]? = some true) c = ovP l P c := by
  funext x
  apply propext
  unfold ovP
  constructor
  · rintro ⟨z, s, h1, h2⟩
    exact ⟨z, s, (charL_get.1 h1).2, h2⟩
  · rintro ⟨z, s, h1, h2, h3⟩
    exact ⟨z, s, charL_get.2 ⟨(List.getElem?_eq_some_iff.1 h2).1, h1⟩, h2, h3⟩
open Classical in
theorem endB_lt {l : List Lst} {P : Nat → Prop} : endB l (fun y => (charL l.length P)[y]? = some true) = endB l P := by
  unfold endB
  apply decide_eq_decide.2
  constructor
  · rintro ⟨z, s, h1, h2, h3⟩
    exact ⟨z, s, h1, h2, (charL_get.1 h3).2⟩
  · rintro ⟨z, s, h1, h2, h3⟩
    exact ⟨z, s, h1, h2, charL_get.2 ⟨(List.getElem?_eq_some_iff.1 h1).1, h3⟩⟩
theorem first_true {n : Nat} (hn : 0 < n) : (fun y : Nat => ((List.replicate n false).set 0 true)[y]? = some true) = fun y => y = 0 := by
  funext y
  apply propext
  rw [List.getElem?_set]
  by_cases e : 0 = y
  · subst e
    simp [hn]
  · rw [if_neg e, List.getElem?_replicate]
    constructor
    · intro h
      split at h <;> cases h
    · intro h
      exact absurd h.symm e
set_option maxRecDepth 100000 in
set_option maxHeartbeats 8000000 in
theorem takes_any (w : World) (B : Nat) (hB : B ≤ w.heap.size) (A : Option Addr) (n c : Nat) (H : List Lsh) (h : LoIn w B A n c H) (hg : LGood (H.map (·.d))) (t : List UInt8) (ht : t.length ≤ 1125899906842624) :
    Calls Tryd.prog 14 #[.slice A n c, .string ⟨t.toArray⟩] w fun e w' => e = .returned (.bool (looseTakes (H.map (·.d)) t)) ∧ Below w.heap.size w w' := by
  have HS := Lib.hid h
  have HG := Lib.hid hg
  have hlen := h.len
  have hcm := h.cm
  have hmk := make_bool n (by omega)
  obtain ⟨l, hl⟩ : ∃ l, H.map (·.d) = l := ⟨_, rfl⟩
  have HL := Lib.hid hl
  have hll : l.length = n := by rw [← hl, List.length_map]; exact hlen
  have HLL := Lib.hid hll
  have hnp : 0 < n := by rw [← hll, ← hl]; exact List.length_pos_iff.2 hg.ne
  have HF := Lib.hid (first_true hnp)
  rw [hl]
  rw [hl] at HG
  have HR1 : Hid ((w.alloc (.cells ((madeCells #[.bool false] n).setIfInBounds 0 (.bool true)) 4)).ownsRow w.heap.size 4 1 (.slice (some ⟨w.heap.size, 0, none⟩) n n) n ((((List.replicate n false).set 0 true)).map .bool)) := by
    have h1 := own_new w ((madeCells #[.bool false] n).setIfInBounds 0 (.bool true)) 4 1 n (by rw [Array.size_setIfInBounds, ← Array.length_toList, made_list, List.length_replicate, Nat.mul_one]) (by unfold maxLen; omega) rfl (Nat.le_refl w.heap.size)
    rw [Array.toList_setIfInBounds, made_list] at h1
    rw [List.map_set, List.map_replicate]
    exact h1
  have hm0 := own_made w (.bool false) n (by omega) 4 rfl (Nat.le_refl w.heap.size)
  have o1 := own_cell (j := 0) (u := .bool false) hm0 (by rw [List.getElem?_replicate, if_pos hnp])
  obtain ⟨_, how, cc, hcc⟩ := own_blk hm0
  have hfz := free_at hcc 0
  clear hm0 hcc
  have HBA := Lib.hid (bnew (brefl w) (.cells ((madeCells #[.bool false] n).setIfInBounds 0 (.bool true)) 4))
  have hnp2 : (0 : Int) < (n : Int) := by omega
  have hts : (⟨t.toArray⟩ : ByteArray).size = t.length := size_mk t
  have HTS := Lib.hid hts
  clear h hg hl hll hts
  go_enter Tryd.func14, Tryd.ntmps14
  go_wp2_with fail
  generalize w.alloc (.cells ((madeCells #[.bool false] n).setIfInBounds 0 (.bool true)) 4) = w1 at *
  refine (spread_any w1 B (Nat.le_trans hB HBA.out.size) A n c H (HS.out.keep (HBA.out.mono hB) (Nat.le_refl _)) (by rw [HL.out]; exact HG.out) (some ⟨w.heap.size, 0, none⟩) n ((List.replicate n false).set 0 true) (Sl.of_own HR1.out) (fun h => by cases h)).mono ?_
  rintro e w2 ⟨A2, c2, rfl, hown2, hb2⟩
  rw [HL.out, HF.out] at hown2
  have hc2 : n ≤ c2 := by
    obtain ⟨A3, c3, e3, hc3⟩ := own_shape hown2
    injection e3 with _ _ e3
    omega
  have HO2 : Hid (w2.ownsRow w.heap.size 4 1 (.slice A2 n c2) n ((charL n (runZ l (bytesN (t.take 0)))).map .bool)) := own_lower hown2 HBA.out.size
  have HB2 := Lib.hid (bcall HBA.out hb2)
  clear hown2 hb2 HBA HR1 hmk o1 hfz how
  go_wp2_with fail
  go_loopw [5, 6] (fun sv iv wr => ∃ (i cs : Nat) (As : Option Addr), i ≤ t.length ∧ n ≤ cs ∧ iv = .int .i64 i ∧ sv = .slice As n cs ∧ Hid (wr.ownsRow w.heap.size 4 1 (.slice As n cs) n ((charL n (runZ l (bytesN (t.take i)))).map .bool)) ∧ Hid (Below w.heap.size w wr)) (fun _ iv _ => t.length - (intOf iv).toNat)
  case atStart => exact ⟨0, c2, A2, Nat.zero_le _, hc2, rfl, rfl, HO2, HB2⟩
  case round =>
    clear HO2 HB2 hc2
    obtain ⟨i, cs, As, hi, hcs, rfl, rfl, HO, HBW⟩ := hrel
    by_cases hil : i < t.length
    · have g1 : decide ((i : Int) < (t.length : Int)) = true := decide_eq_true (by omega)
      have g2 : decide (i < t.length) = true := decide_eq_true hil
      have hz := byte_at t i (by show i < t.toArray.size; simpa using hil)
      obtain ⟨b8, hb8⟩ : ∃ b : Nat, (t.getD i 0).toNat = b := ⟨_, rfl⟩
      have hb256 : b8 < 256 := by rw [← hb8]; exact (t.getD i 0).toNat_lt
      have HTK : Hid (bytesN (t.take (i + 1)) = bytesN (t.take i) ++ [b8]) := by
        show _ = _
        unfold bytesN
        rw [List.take_add_one, List.map_append, List.getElem?_eq_getElem hil, ← hb8, List.getD_eq_getElem?_getD, List.getElem?_eq_getElem hil]
        rfl
      rw [hb8] at hz
      have i0 : (0 : Int) ≤ (i : Int) := by omega
      have i1 : (i : Int) < (t.length : Int) := by omega
      have q8 : IntKind.i64.wrap (b8 : Int) = (b8 : Int) := IntWalk.i64_in _ (by omega)
      clear hb8
      go_wp2_with fail
      refine (over_any wr B (Nat.le_trans hB HBW.out.size) A n c H (HS.out.keep (HBW.out.mono hB) (Nat.le_refl _)) (by rw [HL.out]; exact HG.out) As cs _ (Sl.of_own HO.out) hcs b8).mono ?_
      rintro e w3 ⟨A3, c3, rfl, hown3, hc3, hb3⟩
      have HO3 : Hid (w3.ownsRow w.heap.size 4 1 (.slice A3 n c3) n ((charL n (runZ l (bytesN (t.take (i + 1))))).map .bool)) := by
        have h1 := own_lower hown3 HBW.out.size
        rw [HL.out] at h1
        rw [HTK.out, show runZ l (bytesN (t.take i) ++ [b8]) = Clo l (ovP l (runZ l (bytesN (t.take i))) b8) from runP_snoc l _ _ _]
        have h2 := ovP_lt (l := l) (P := runZ l (bytesN (t.take i))) (c := b8)
        rw [HLL.out] at h2
        rw [h2] at h1
        exact h1
      have HB3 := Lib.hid (bcall HBW.out hb3)
      clear hown3 hb3 HO HBW
      go_wp2_with fail
      go_roundw
      case rel => exact ⟨i + 1, c3, A3, by omega, hc3, by go_num, rfl, HO3, HB3⟩
      case measure => simp [intOf]; omega
    · have g1 : decide ((i : Int) < (t.length : Int)) = false := decide_eq_false (by omega)
      have g2 : decide (i < t.length) = false := decide_eq_false hil
      obtain rfl : i = t.length := by omega
      go_wp2_with fail
      refine (ends_any wr B (Nat.le_trans hB HBW.out.size) A n c H (HS.out.keep (HBW.out.mono hB) (Nat.le_refl _)) As cs _ (Sl.of_own HO.out) hcs).mono ?_
      rintro e w3 ⟨rfl, hb3⟩
      have HE : Hid (endB (H.map (·.d)) (fun y => (charL n (runZ l (bytesN (t.take t.length))))[y]? = some true) = looseTakes l t) := by
        show _ = _
        have h2 := endB_lt (l := l) (P := runZ l (bytesN (t.take t.length)))
        rw [HLL.out] at h2
        rw [HL.out, h2, List.take_length]
        rfl
      rw [HE.out]
      have HB3 := Lib.hid (bcall HBW.out hb3)
      clear hb3 HBW HO
      go_wp2_with fail
      go_ret
      exact ⟨rfl, HB3.out⟩
end Go.Proofs.YtclahhkcbkpofaaDoor
/- The least automaton takes what its state takes, and is an automaton (plain Lean). -/
namespace Go.Proofs.YtclahhkcbkpofaaDoor
/-- States that take nothing need not be entered. -/
theorem acc_live {σ : Type} (M : Au σ) : ∀ (s : List Nat) (x : σ), (⟨M.fin, M.stepL⟩ : Au σ).acc x s = M.acc x s
  | [], x => rfl
  | c :: r, x => by
    rw [Au.acc, Au.acc]
    by_cases hc : c < 256
    · rw [if_pos hc, if_pos hc]
      show (match M.stepL x c with | some y => _ | none => _) = _
      unfold Au.stepL
      cases hx : M.step x c with
      | none => rfl
      | some y =>
        simp only
        by_cases hl : M.live y
        · rw [if_pos hl]
          exact acc_live M r y
        · rw [if_neg hl]
          simp only
          cases ha : M.acc y r with
          | false => rfl
          | true => exact absurd ⟨r, ha⟩ hl
    · rw [if_neg hc, if_neg hc]
open Classical in
theorem LeastIs.leq {σ : Type} {M : Au σ} {x : σ} {out : List St} (h : LeastIs M x out) : Leq (auOf out) 0 M x := by
  rcases h with ⟨hl, r, hr, f, hf, rfl⟩ | ⟨hl, rfl⟩
  · intro s
    have hrefl : ∀ y, (leastW M r).eqv ((leastW M r).rep y) y = true := fun y => decide_eq_true (hr y)
    have hh := run_head (leastW M r) x f
    have := out_leq (leastW M r) M.fin (met := (leastW M r).run f 0 [x]) (fun z y hzy => fun s => by
      have hzy : Leq M z M y := of_decide_eq_true hzy
      exact (acc_live M s z).trans ((hzy s).trans (acc_live M s y).symm)) (fun y hy => by
      obtain ⟨j, hj⟩ := List.mem_iff_getElem?.1 hy
      have h1 := (List.getElem?_eq_some_iff.1 hj).1
      have h2 := List.getElem?_eq_none_iff.1 hf
      exact Bfs.run_met _ hrefl x f j y (by omega) hj) s 0 x hh
    exact this.trans (acc_live M s x)
  · intro s
    have : M.acc x s = false := by
      cases ha : M.acc x s with
      | false => rfl
      | true => exact absurd ⟨s, ha⟩ hl
    rw [this]
    cases s with
    | nil => rfl
    | cons c r =>
      rw [Au.acc]
      split
      · rfl
      · rfl
theorem LeastIs.ne {σ : Type} {M : Au σ} {x : σ} {out : List St} (h : LeastIs M x out) : 0 < out.length := by
  rcases h with ⟨hl, r, hr, f, hf, rfl⟩ | ⟨hl, rfl⟩
  · have hh := (List.getElem?_eq_some_iff.1 (run_head (leastW M r) x f)).1
    unfold leastOf Bfs.out
    rw [List.length_map]
    exact hh
  · exact Nat.zero_lt_one
theorem LeastIs.good {σ : Type} {M : Au σ} {x : σ} {out : List St} (h : LeastIs M x out) (hl : out.length ≤ 20000) : Good out := by
  have hn := h.ne
  rcases h with ⟨_, r, hr, f, hf, rfl⟩ | ⟨_, rfl⟩
  · have hh := (List.getElem?_eq_some_iff.1 (run_head (leastW M r) x f)).1
    refine out_good _ _ (fun e => ?_) (by unfold leastOf Bfs.out at hl; rwa [List.length_map] at hl)
    rw [e] at hh
    cases hh
  · exact (good_iff _).1 (by decide)
end Go.Proofs.YtclahhkcbkpofaaDoor
/- Loose states that a range's characters lead through are such again; their texts (plain Lean, but for the contracts' words). -/
namespace Go.Proofs.YtclahhkcbkpofaaDoor
open Go.RowKit
open Sp
theorem LGood.arc_add {l : List Lst} {a b : Nat} {lo hi : Int} (h : LGood l) (hb : b < l.length) (h0 : 0 ≤ lo) (h1 : lo ≤ hi) (h2 : hi ≤ 255) : LGood (addArc l a (lo, hi, (b : Int))) := by
  have hlen := addArc_len l a (lo, hi, (b : Int))
  have key : ∀ s ∈ addArc l a (lo, hi, (b : Int)), ∃ s0 ∈ l, s.free = s0.free ∧ ∀ z ∈ s.arcs, z ∈ s0.arcs ∨ z = (lo, hi, (b : Int)) := by
    intro s hs
    obtain ⟨j, hj⟩ := List.mem_iff_getElem?.1 hs
    by_cases e : a = j
    · subst e
      have hja : a < l.length := by rw [← hlen]; exact (List.getElem?_eq_some_iff.1 hj).1
      rw [addArc_at _ (List.getElem?_eq_getElem hja)] at hj
      injection hj with hj
      subst hj
      refine ⟨l[a], List.getElem_mem _, rfl, fun z hz => ?_⟩
      rcases List.mem_append.1 hz with hz | hz
      · exact .inl hz
      · exact .inr (List.mem_singleton.1 hz)
    · rw [addArc_ne _ e] at hj
      exact ⟨s, List.mem_of_getElem? hj, rfl, fun z hz => .inl hz⟩
  refine ⟨fun e => ?_, fun s hs z hz => ?_, fun s hs t ht => ?_⟩
  · have := congrArg List.length e
    rw [hlen, List.length_nil] at this
    omega
  · obtain ⟨s0, hs0, _, k⟩ := key s hs
    rw [hlen]
    rcases k z hz with hz | rfl
    · exact h.arc s0 hs0 z hz
    · exact ⟨h0, h1, h2, by show 0 ≤ (b : Int); omega, by show (b : Int) < _; omega⟩
  · obtain ⟨s0, hs0, k, _⟩ := key s hs
    rw [hlen]
    exact h.fre s0 hs0 t (by rw [← k]; exact ht)
theorem LGood.bare {l : List Lst} (h : LGood l) : LGood (l ++ [⟨false, [], []⟩]) := by
  have hlen : ((l ++ [⟨false, [], []⟩] : List Lst).length : Int) = (l.length : Int) + 1 := by rw [List.length_append]; rfl
  refine ⟨by simp, fun s hs z hz => ?_, fun s hs t ht => ?_⟩
  · rcases List.mem_append.1 hs with hs | hs
    · have := h.arc s hs z hz
      omega
    · rw [List.mem_singleton] at hs
      subst hs
      cases hz
  · rcases List.mem_append.1 hs with hs | hs
    · have := h.fre s hs t ht
      omega
    · rw [List.mem_singleton] at hs
      subst hs
      cases ht
theorem LGood.row : ∀ (r : List (Int × Int)) {l : List Lst} {a b : Nat}, LGood l → b < l.length → (∀ p ∈ r, 0 ≤ p.1 ∧ p.1 ≤ p.2 ∧ p.2 ≤ 255) → LGood (leadRow l a b r)
  | [], _, _, _, h, _, _ => h
  | [p], l, a, b, h, hb, hr => by
    obtain ⟨h0, h1, h2⟩ := hr p (List.mem_cons_self ..)
    exact h.arc_add hb h0 h1 h2
  | p :: q :: r, l, a, b, h, hb, hr => by
    obtain ⟨h0, h1, h2⟩ := hr p (List.mem_cons_self ..)
    rw [leadRow]
    refine LGood.row (q :: r) (h.bare.arc_add (b := l.length) ?_ h0 h1 h2) ?_ fun z hz => hr z (List.mem_cons_of_mem _ hz)
    · rw [List.length_append]; simp
    · rw [addArc_len, List.length_append]; omega
theorem LGood.rows : ∀ (rs : List (List (Int × Int))) {l : List Lst} {a b : Nat}, LGood l → b < l.length → (∀ r ∈ rs, ∀ p ∈ r, 0 ≤ p.1 ∧ p.1 ≤ p.2 ∧ p.2 ≤ 255) → LGood (leadRows l a b rs)
  | [], _, _, _, h, _, _ => h
  | r :: rs, l, a, b, h, hb, hr => by
    show LGood (leadRows (leadRow l a b r) a b rs)
    exact LGood.rows rs (h.row r hb (hr r (List.mem_cons_self ..))) (by rw [leadRow_len]; omega) fun q hq => hr q (List.mem_cons_of_mem _ hq)
theorem LGood.inE {l : List Lst} (h : LGood l) : InE (edgeL l) l.length := by
  rintro x t y ⟨s, hs, h1⟩
  have hx := (List.getElem?_eq_some_iff.1 hs).1
  refine ⟨hx, ?_⟩
  rcases h1 with ⟨_, h1⟩ | ⟨c, _, a, ha, _, _, h3⟩
  · have := (h.fre s (List.mem_of_getElem? hs) _ h1).2
    omega
  · have := (h.arc s (List.mem_of_getElem? hs) a ha).2.2.2.2
    omega
/-- The end's state is final or not: it is such. -/
theorem good_end {old : Lst} (h : LGood [old, ⟨false, [], []⟩]) : LGood [old, endS] := by
  refine ⟨by simp, fun s hs z hz => ?_, fun s hs t ht => ?_⟩
  · simp only [List.mem_cons, List.not_mem_nil, or_false] at hs
    rcases hs with rfl | rfl
    · exact h.arc s (List.mem_cons_self ..) z hz
    · cases hz
  · simp only [List.mem_cons, List.not_mem_nil, or_false] at hs
    rcases hs with rfl | rfl
    · exact h.fre s (List.mem_cons_self ..) t ht
    · cases ht
theorem lead_good {old : Lst} {lo hi : Int} (h : LGood [old, endS]) : LGood (leadRows [old, endS] 0 1 (allP lo hi)) :=
  h.rows _ (by simp) fun r hr => (all_ok lo hi r hr).2.2
theorem lead_len (old : Lst) (lo hi : Int) : (leadRows [old, endS] 0 1 (allP lo hi)).length ≤ 62 ∧ 2 ≤ (leadRows [old, endS] 0 1 (allP lo hi)).length := by
  rw [leadRows_len]
  have k : ∀ {rs : List (List (Int × Int))}, (∀ r ∈ rs, r.length ≤ 4) → midsN rs ≤ 3 * rs.length := by
    intro rs
    induction rs with
    | nil => exact fun _ => Nat.le_refl _
    | cons r rs ih =>
      intro h
      have h1 := h r (List.mem_cons_self ..)
      have h2 := ih fun r hr => h r (List.mem_cons_of_mem _ hr)
      rw [midsN, List.length_cons]
      omega
  have h2 := k fun r hr => (all_ok lo hi r hr).2.1
  have h3 := Sp.all_len lo hi
  have h4 : ([old, endS] : List Lst).length = 2 := rfl
  omega
/-- A character's bytes, as the reference's and as texts. -/
theorem chars_bytes {c : Int} (hw : wholeB c = true) : ∃ t : List UInt8, strOfNums (encC c) = ⟨t.toArray⟩ ∧ bytesN t = encN c ∧ t.length ≤ 4 ∧ t ≠ [] := by
  have hz : ∀ z ∈ encC c, 0 ≤ z ∧ z ≤ 255 := by
    have hw1 := whole_of hw
    rcases @enc_case c with ⟨a, e⟩ | ⟨a, b, e⟩ | ⟨a, b, e⟩ | ⟨a, e⟩
    all_goals
      rw [e]
      intro z hz
      simp only [List.mem_cons, List.not_mem_nil, or_false] at hz
    · omega
    · rcases hz with rfl | rfl <;> omega
    · rcases hz with rfl | rfl | rfl <;> omega
    · rcases hz with rfl | rfl | rfl | rfl <;> omega
  refine ⟨(encC c).map fun n => UInt8.ofNat n.toNat, rfl, ?_, by rw [List.length_map]; exact (encC_len c).2, fun e => ?_⟩
  · unfold bytesN encN
    rw [List.map_map]
    refine List.map_congr_left fun z h => ?_
    have h1 := hz z h
    show (UInt8.ofNat z.toNat).toNat = z.toNat
    rw [UInt8.toNat_ofNat']
    exact Nat.mod_eq_of_lt (by omega)
  · have h1 := congrArg List.length e
    have h2 := (encC_len c).1
    rw [List.length_map, List.length_nil] at h1
    omega
/-- What is taken of a character. -/
theorem lead_says {old : Lst} {lo hi c : Int} (h : LGood [old, endS]) (hw : wholeB c = true) {t : List UInt8} (ht : bytesN t = encN c) : looseTakes (leadRows [old, endS] 0 1 (allP lo hi)) t = (looseTakes [old, endS] t || (decide (c ≥ lo) && decide (c ≤ hi))) := by
  rw [Bool.eq_iff_iff, Bool.or_eq_true, Bool.and_eq_true, decide_eq_true_eq, decide_eq_true_eq]
  unfold looseTakes
  rw [show runZ = _ from rfl, ht]
  exact (takes_way.trans (lead_takes h.inE hw)).trans (or_congr takes_way.symm Iff.rfl)
theorem tight_takes {l : List Lst} {dd out : List St} (hl : LeastIs (auOf dd) 0 out) (hq : Leq (auOf dd) 0 ⟨finS l, stepS l⟩ (setL l.length (Clo l fun x => x = 0))) (hlen : out.length ≤ 20000) (t : List UInt8) : takesB out t = looseTakes l t := by
  have hg := hl.good hlen
  unfold takesB
  rw [decide_eq_true ((good_iff _).2 hg), Bool.true_and, (hl.leq.trans hq) (bytesN t), acc_run l (bytesN t) _ fun c hc => by
    unfold bytesN at hc
    obtain ⟨b, _, rfl⟩ := List.mem_map.1 hc
    exact b.toNat_lt]
  rfl
end Go.Proofs.YtclahhkcbkpofaaDoor
