/- The reference's Takes. -/
import Derived.Test.YtebdffabfimmkaaDoorHDfaTakes19
namespace Go.Proofs.YtebdffabfimmkaaDoor
open Go.RowKit Go.Maps

/-- The set that a loose automaton is in behind some bytes. -/
def runZ (l : List Lst) (s : List Nat) : Nat → Prop := runP l (Clo l fun x => x = 0) s
/-- A loose automaton takes a text, by sets. -/
noncomputable def looseTakes (l : List Lst) (t : List UInt8) : Bool := endB l (runZ l (bytesN t))
set_option linter.unusedVariables false in
theorem runP_snoc (l : List Lst) : ∀ (s : List Nat) (P : Nat → Prop) (c : Nat), runP l P (s ++ [c]) = Clo l (ovP l (runP l P s) c)
  | [], P, c => rfl
  | d :: r, P, c => runP_snoc l r _ c
theorem ovP_lt {l : List Lst} {P : Nat → Prop} {c : Nat} : ovP l (fun y => (charL l.length P)[y]? = some true) c = ovP l P c := by
  funext x
  apply propext
  unfold ovP
  constructor
  · rintro ⟨z, s, h1, h2⟩
    exact ⟨z, s, (charL_get.1 h1).2, h2⟩
  · rintro ⟨z, s, h1, h2, h3⟩
    exact ⟨z, s, charL_get.2 ⟨(List.getElem?_eq_some_iff.1 h2).1, h1⟩, h2, h3⟩
open Classical in
theorem endB_lt {l : List Lst} {P : Nat → Prop} : endB l (fun y => (charL l.length P)[y]? = some true) = endB l P := by
  unfold endB
  apply decide_eq_decide.2
  constructor
  · rintro ⟨z, s, h1, h2, h3⟩
    exact ⟨z, s, h1, h2, (charL_get.1 h3).2⟩
  · rintro ⟨z, s, h1, h2, h3⟩
    exact ⟨z, s, h1, h2, charL_get.2 ⟨(List.getElem?_eq_some_iff.1 h1).1, h3⟩⟩
theorem first_true {n : Nat} (hn : 0 < n) : (fun y : Nat => ((List.replicate n false).set 0 true)[y]? = some true) = fun y => y = 0 := by
  funext y
  apply propext
  rw [List.getElem?_set]
  by_cases e : 0 = y
  · subst e
    simp [hn]
  · rw [if_neg e, List.getElem?_replicate]
    constructor
    · intro h
      split at h <;> cases h
    · intro h
      exact absurd h.symm e
set_option maxRecDepth 100000 in
set_option maxHeartbeats 8000000 in
theorem takes_any (w : World) (B : Nat) (hB : B ≤ w.heap.size) (A : Option Addr) (n c : Nat) (H : List Lsh) (h : LoIn w B A n c H) (hg : LGood (H.map (·.d))) (t : List UInt8) (ht : t.length ≤ 1125899906842624) :
    Calls Tryd.prog 19 #[.slice A n c, .string ⟨t.toArray⟩] w fun e w' => e = .returned (.bool (looseTakes (H.map (·.d)) t)) ∧ Below w.heap.size w w' := by
  have HS := Lib.hid h
  have HG := Lib.hid hg
  have hlen := h.len
  have hcm := h.cm
  have hmk := make_bool n (by omega)
  obtain ⟨l, hl⟩ : ∃ l, H.map (·.d) = l := ⟨_, rfl⟩
  have HL := Lib.hid hl
  have hll : l.length = n := by rw [← hl, List.length_map]; exact hlen
  have HLL := Lib.hid hll
  have hnp : 0 < n := by rw [← hll, ← hl]; exact List.length_pos_iff.2 hg.ne
  have HF := Lib.hid (first_true hnp)
  rw [hl]
  rw [hl] at HG
  have HR1 : Hid ((w.alloc (.cells ((madeCells #[.bool false] n).setIfInBounds 0 (.bool true)) 4)).ownsRow w.heap.size 4 1 (.slice (some ⟨w.heap.size, 0, none⟩) n n) n ((((List.replicate n false).set 0 true)).map .bool)) := by
    have h1 := own_new w ((madeCells #[.bool false] n).setIfInBounds 0 (.bool true)) 4 1 n (by rw [Array.size_setIfInBounds, ← Array.length_toList, made_list, List.length_replicate, Nat.mul_one]) (by unfold maxLen; omega) rfl (Nat.le_refl w.heap.size)
    rw [Array.toList_setIfInBounds, made_list] at h1
    rw [List.map_set, List.map_replicate]
    exact h1
  have hm0 := own_made w (.bool false) n (by omega) 4 rfl (Nat.le_refl w.heap.size)
  have o1 := own_cell (j := 0) (u := .bool false) hm0 (by rw [List.getElem?_replicate, if_pos hnp])
  obtain ⟨_, how, cc, hcc⟩ := own_blk hm0
  have hfz := free_at hcc 0
  clear hm0 hcc
  have HBA := Lib.hid (bnew (brefl w) (.cells ((madeCells #[.bool false] n).setIfInBounds 0 (.bool true)) 4))
  have hnp2 : (0 : Int) < (n : Int) := by omega
  have hts : (⟨t.toArray⟩ : ByteArray).size = t.length := size_mk t
  have HTS := Lib.hid hts
  clear h hg hl hll hts
  go_enter Tryd.func19, Tryd.ntmps19
  go_wp2_with fail
  generalize w.alloc (.cells ((madeCells #[.bool false] n).setIfInBounds 0 (.bool true)) 4) = w1 at *
  refine (spread_any w1 B (Nat.le_trans hB HBA.out.size) A n c H (HS.out.keep (HBA.out.mono hB) (Nat.le_refl _)) (by rw [HL.out]; exact HG.out) (some ⟨w.heap.size, 0, none⟩) n ((List.replicate n false).set 0 true) (Sl.of_own HR1.out) (fun h => by cases h)).mono ?_
  rintro e w2 ⟨A2, c2, rfl, hown2, hb2⟩
  rw [HL.out, HF.out] at hown2
  have hc2 : n ≤ c2 := by
    obtain ⟨A3, c3, e3, hc3⟩ := own_shape hown2
    injection e3 with _ _ e3
    omega
  have HO2 : Hid (w2.ownsRow w.heap.size 4 1 (.slice A2 n c2) n ((charL n (runZ l (bytesN (t.take 0)))).map .bool)) := own_lower hown2 HBA.out.size
  have HB2 := Lib.hid (bcall HBA.out hb2)
  clear hown2 hb2 HBA HR1 hmk o1 hfz how
  go_wp2_with fail
  go_loopw [5, 6] (fun sv iv wr => ∃ (i cs : Nat) (As : Option Addr), i ≤ t.length ∧ n ≤ cs ∧ iv = .int .i64 i ∧ sv = .slice As n cs ∧ Hid (wr.ownsRow w.heap.size 4 1 (.slice As n cs) n ((charL n (runZ l (bytesN (t.take i)))).map .bool)) ∧ Hid (Below w.heap.size w wr)) (fun _ iv _ => t.length - (intOf iv).toNat)
  case atStart => exact ⟨0, c2, A2, Nat.zero_le _, hc2, rfl, rfl, HO2, HB2⟩
  case round =>
    clear HO2 HB2 hc2
    obtain ⟨i, cs, As, hi, hcs, rfl, rfl, HO, HBW⟩ := hrel
    by_cases hil : i < t.length
    · have g1 : decide ((i : Int) < (t.length : Int)) = true := decide_eq_true (by omega)
      have g2 : decide (i < t.length) = true := decide_eq_true hil
      have hz := byte_at t i (by show i < t.toArray.size; simpa using hil)
      obtain ⟨b8, hb8⟩ : ∃ b : Nat, (t.getD i 0).toNat = b := ⟨_, rfl⟩
      have hb256 : b8 < 256 := by rw [← hb8]; exact (t.getD i 0).toNat_lt
      have HTK : Hid (bytesN (t.take (i + 1)) = bytesN (t.take i) ++ [b8]) := by
        show _ = _
        unfold bytesN
        rw [List.take_add_one, List.map_append, List.getElem?_eq_getElem hil, ← hb8, List.getD_eq_getElem?_getD, List.getElem?_eq_getElem hil]
        rfl
      rw [hb8] at hz
      have i0 : (0 : Int) ≤ (i : Int) := by omega
      have i1 : (i : Int) < (t.length : Int) := by omega
      have q8 : IntKind.i64.wrap (b8 : Int) = (b8 : Int) := IntWalk.i64_in _ (by omega)
      clear hb8
      go_wp2_with fail
      refine (over_any wr B (Nat.le_trans hB HBW.out.size) A n c H (HS.out.keep (HBW.out.mono hB) (Nat.le_refl _)) (by rw [HL.out]; exact HG.out) As cs _ (Sl.of_own HO.out) hcs b8).mono ?_
      rintro e w3 ⟨A3, c3, rfl, hown3, hc3, hb3⟩
      have HO3 : Hid (w3.ownsRow w.heap.size 4 1 (.slice A3 n c3) n ((charL n (runZ l (bytesN (t.take (i + 1))))).map .bool)) := by
        have h1 := own_lower hown3 HBW.out.size
        rw [HL.out] at h1
        rw [HTK.out, show runZ l (bytesN (t.take i) ++ [b8]) = Clo l (ovP l (runZ l (bytesN (t.take i))) b8) from runP_snoc l _ _ _]
        have h2 := ovP_lt (l := l) (P := runZ l (bytesN (t.take i))) (c := b8)
        rw [HLL.out] at h2
        rw [h2] at h1
        exact h1
      have HB3 := Lib.hid (bcall HBW.out hb3)
      clear hown3 hb3 HO HBW
      go_wp2_with fail
      go_roundw
      case rel => exact ⟨i + 1, c3, A3, by omega, hc3, by go_num, rfl, HO3, HB3⟩
      case measure => simp [intOf]; omega
    · have g1 : decide ((i : Int) < (t.length : Int)) = false := decide_eq_false (by omega)
      have g2 : decide (i < t.length) = false := decide_eq_false hil
      obtain rfl : i = t.length := by omega
      go_wp2_with fail
      refine (ends_any wr B (Nat.le_trans hB HBW.out.size) A n c H (HS.out.keep (HBW.out.mono hB) (Nat.le_refl _)) As cs _ (Sl.of_own HO.out) hcs).mono ?_
      rintro e w3 ⟨rfl, hb3⟩
      have HE : Hid (endB (H.map (·.d)) (fun y => (charL n (runZ l (bytesN (t.take t.length))))[y]? = some true) = looseTakes l t) := by
        show _ = _
        have h2 := endB_lt (l := l) (P := runZ l (bytesN (t.take t.length)))
        rw [HLL.out] at h2
        rw [HL.out, h2, List.take_length]
        rfl
      rw [HE.out]
      have HB3 := Lib.hid (bcall HBW.out hb3)
      clear hb3 HBW HO
      go_wp2_with fail
      go_ret
      exact ⟨rfl, HB3.out⟩
end Go.Proofs.YtebdffabfimmkaaDoor
