/- The reference's least and rests. -/
import Derived.Test.YtheickndnniomaaDoorSame
import Derived.Test.YtheickndnniomaaDoorInstep
import Derived.Test.YtheickndnniomaaDoorNodeg
import Derived.Deep.RegionHeldLaw
import Derived.Deep.RegionLaw
namespace Go.Proofs.YtheickndnniomaaDoor
open Go.RowKit Go.Maps

theorem own_put {W : World} {base e s n c g j : Nat} {u : Value} {xs : List Value} (h : W.ownsRow base e s (.slice (some ⟨g, 0, none⟩) n c) n xs) : (W.setCell ⟨g, j, none⟩ u).ownsRow base e s (.slice (some ⟨g, 0, none⟩) n c) n (xs.set j u) := by
  obtain ⟨h0, h⟩ := h
  refine ⟨by rw [List.length_set]; exact h0, ?_⟩
  rcases h with ⟨hv, _⟩ | ⟨g', cap, cur, hv, hb, hg, h1, h2, h3, h4⟩
  · cases hv
  · injection hv with hv1 _ hv3
    injection hv1 with hv1
    injection hv1 with hv1 _ _
    subst hv1 hv3
    refine .inr ⟨g, c, _, rfl, hb, blk_set hg u, h1, h2, by simpa using h3, ?_⟩
    rw [← h4, Array.toList_setIfInBounds, List.take_set]
set_option maxRecDepth 100000 in
set_option maxHeartbeats 4000000 in
theorem rleast_any (w : World) (B : Nat) (hB : B ≤ w.heap.size) (A : Option Addr) (n c : Nat) (l : List Ent) (h : Ents w B A n c l) (hn : 0 < n) :
    Calls Tryd.prog 43 #[.slice A n c] w fun e w' => e = .returned (.int .i64 (leastO l)) ∧ Below w.heap.size w w' := by
  have hlen := h.len
  have hcm := h.cm
  obtain ⟨b, off, rfl, hb, hcell⟩ := h.at_ hn
  obtain ⟨e0, he0⟩ : ∃ e, l[0]? = some e := ⟨l[0]'(by omega), List.getElem?_eq_getElem _⟩
  have hh : headO l = e0.2 := by
    cases l with
    | nil => simp at he0
    | cons x r => simp at he0; rw [← he0]; rfl
  obtain ⟨_, c1⟩ := hcell 0 e0 he0
  rw [Nat.zero_mul, Nat.add_zero] at c1
  have HC := Lib.hid hcell
  have HL : Hid (leastO l = l.foldl (fun m e => min m e.2) e0.2) := by
    show _ = _
    unfold leastO
    rw [hh]
  clear hcell h hh
  go_enter Tryd.func43, Tryd.ntmps43
  go_wp2_with fail
  go_loopw [3, 4] (fun v i wr => ∃ k : Nat, k ≤ n ∧ i = .int .i64 k ∧ v = .int .i64 ((l.take k).foldl (fun m e => min m e.2) e0.2) ∧ Hid (Below w.heap.size w wr)) (fun _ i _ => n - (intOf i).toNat)
  case atStart => exact ⟨0, Nat.zero_le _, rfl, rfl, Lib.hid (brefl w)⟩
  case round =>
    obtain ⟨k, hk, rfl, rfl, HB⟩ := hrel
    by_cases hlt : k < n
    · obtain ⟨e, he⟩ : ∃ e, l[k]? = some e := ⟨l[k]'(by omega), List.getElem?_eq_getElem _⟩
      obtain ⟨_, d1⟩ := HC.out k e he
      have f1 := (HB.out.cell (p := ⟨b, off + k * 2 + 1, none⟩) (by show b < _; omega)).trans d1
      have HN : Hid ((l.take (k + 1)).foldl (fun m e => min m e.2) e0.2 = min ((l.take k).foldl (fun m e => min m e.2) e0.2) e.2) := by
        show _ = _
        rw [List.take_add_one, he, List.foldl_append]
        rfl
      obtain ⟨t, o⟩ := e
      simp only at f1 HN
      generalize (l.take k).foldl (fun m e => min m e.2) e0.2 = acc at *
      clear d1 he
      by_cases hlt2 : o < acc
      · have q1 : decide (o < acc) = true := by simpa using hlt2
        have hmn : min acc o = o := by omega
        rw [hmn] at HN
        clear hmn
        go_wp2_with fail
        go_roundw
        case rel => exact ⟨k + 1, by omega, by go_num, by rw [HN.out], HB⟩
        case measure => simp [intOf]; omega
      · have q1 : decide (o < acc) = false := by simpa using hlt2
        have hmn : min acc o = acc := by omega
        rw [hmn] at HN
        clear hmn
        go_wp2_with fail
        go_roundw
        case rel => exact ⟨k + 1, by omega, by go_num, by rw [HN.out], HB⟩
        case measure => simp [intOf]; omega
    · obtain rfl : k = n := by omega
      have hall : l.take k = l := List.take_of_length_le (by omega)
      rw [hall]
      go_wp2_with fail
      go_ret
      exact ⟨by rw [HL.out]; rfl, HB.out⟩
def selE (l : List Ent) (z : Int) : List Ent := if z < 0 then l else rawE z.toNat l
/-- What rests answers. -/
def rstL (l : List Ent) (z : Int) : List Ent := lessE (leastO (selE l z)) (selE l z)
def oneE (z : Int) (e : Ent) : List Ent := if z < 0 then [e] else match e.1 with
  | [] => []
  | b :: t => if b.toNat = z.toNat then [(t, e.2)] else []
theorem selE_snoc (l : List Ent) (e : Ent) (z : Int) : selE (l ++ [e]) z = selE l z ++ oneE z e := by
  unfold selE oneE
  split
  · rfl
  · rw [rawE_append]
    congr 1
    obtain ⟨t, o⟩ := e
    unfold rawE
    cases t with
    | nil => rfl
    | cons b t => by_cases hb : b.toNat = z.toNat <;> simp [hb]
theorem selE_len (l : List Ent) (z : Int) : (selE l z).length ≤ l.length := by
  unfold selE
  split
  · exact Nat.le_refl _
  · exact List.length_filterMap_le _ _
theorem selE_pos {l : List Ent} {P : Int → Prop} (h : ∀ e ∈ l, P e.2) (z : Int) : ∀ e ∈ selE l z, P e.2 := by
  unfold selE
  split
  · exact h
  · intro e he
    unfold rawE at he
    obtain ⟨⟨t, o⟩, hy, hm⟩ := List.mem_filterMap.1 he
    cases t with
    | nil => cases hm
    | cons b t =>
      simp only at hm
      split at hm
      · injection hm with hm
        subst hm
        exact h (b :: t, o) hy
      · cases hm
theorem entsC_app (a b : List Ent) : entsC (a ++ b) = entsC a ++ entsC b := by unfold entsC; rw [List.flatMap_append]
theorem entsC_set (a r : List Ent) (t : List UInt8) (o o' : Int) {j : Nat} (hj : j = a.length * 2 + 1) : (entsC (a ++ (t, o) :: r)).set j (.int .i64 o') = entsC (a ++ (t, o') :: r) := by
  subst hj
  rw [entsC_app, entsC_app, List.set_append, if_neg (by rw [entsC_len]; omega), entsC_len, Nat.add_sub_cancel_left]
  rfl
set_option maxRecDepth 100000 in
set_option maxHeartbeats 8000000 in
theorem rests_any (w : World) (B : Nat) (hB : B ≤ w.heap.size) (A : Option Addr) (n c : Nat) (l : List Ent) (h : Ents w B A n c l) (hn : n ≤ 65536) (hp : ∀ e ∈ l, pos63 e.2) (z : Int) :
    Calls Tryd.prog 30 #[.slice A n c, .int .i64 z] w fun e w' => ∃ v, e = .returned (.tuple #[v, .int .i64 (leastO (selE l z))]) ∧ w'.ownsRow w.heap.size 26 2 v (rstL l z).length (entsC (rstL l z)) ∧ Below w.heap.size w w' := by
  have hlen := h.len
  obtain ⟨R, hR⟩ : ∃ R, rstL l z = R := ⟨_, rfl⟩
  obtain ⟨m, hm⟩ : ∃ m, leastO (selE l z) = m := ⟨_, rfl⟩
  rw [hR, hm]
  have HRM : Hid (R = lessE m (selE l z) ∧ leastO (selE l z) = m) := ⟨by rw [← hR, ← hm]; rfl, hm⟩
  clear hR hm
  go_enter Tryd.func30, Tryd.ntmps30
  go_wp2_with fail
  go_loopw [6, 7] (fun v i wr => ∃ (k : Nat) (Ao : Option Addr) (co : Nat), k ≤ n ∧ i = .int .i64 k ∧ v = .slice Ao (selE (l.take k) z).length co ∧ Hid (wr.ownsRow w.heap.size 26 2 (.slice Ao (selE (l.take k) z).length co) (selE (l.take k) z).length (entsC (selE (l.take k) z))) ∧ Hid (Below w.heap.size w wr)) (fun _ i _ => n - (intOf i).toNat)
  case atStart =>
    have e0 : selE (l.take 0) z = [] := by rw [List.take_zero]; unfold selE; split <;> rfl
    exact ⟨0, none, 0, Nat.zero_le _, rfl, by rw [e0]; rfl, by rw [e0]; exact ⟨rfl, .inl ⟨rfl, rfl⟩⟩, Lib.hid (brefl w)⟩
  case round =>
    obtain ⟨k, Ao, co, hk, rfl, rfl, HO, HB⟩ := hrel
    have hsl := selE_len (l.take k) z
    rw [List.length_take] at hsl
    by_cases hlt : k < n
    · obtain ⟨e, he⟩ : ∃ e, l[k]? = some e := ⟨l[k]'(by omega), List.getElem?_eq_getElem _⟩
      obtain ⟨b, off, rfl, hb, hcell⟩ := h.at_ (by omega)
      obtain ⟨d0, d1⟩ := hcell k e he
      have f0 := (HB.out.cell (p := ⟨b, off + k * 2, none⟩) (by show b < _; omega)).trans d0
      have f1 := (HB.out.cell (p := ⟨b, off + k * 2 + 1, none⟩) (by show b < _; omega)).trans d1
      have HN : Hid (selE (l.take (k + 1)) z = selE (l.take k) z ++ oneE z e) := by
        show _ = _
        rw [List.take_add_one, he]
        exact selE_snoc _ _ _
      obtain ⟨t, o⟩ := e
      simp only at f0 f1
      have HDD := Lib.hid (And.intro d0 d1)
      simp only at HDD
      clear d0 d1 hcell he
      generalize selE (l.take k) z = S at *
      obtain ⟨s, hs⟩ : ∃ s, S.length = s := ⟨_, rfl⟩
      rw [hs] at HO hsl
      have HSL := Lib.hid hs
      have hge := HB.out.size
      rw [hs]
      clear hs
      by_cases hz : z < 0
      · have q1 : decide (z < 0) = true := by simpa using hz
        have hone : oneE z (t, o) = [(t, o)] := if_pos hz
        rw [hone] at HN
        have HNL : Hid ((selE (l.take (k + 1)) z).length = s + 1 ∧ entsC (selE (l.take (k + 1)) z) = entsC S ++ [.string ⟨t.toArray⟩, .int .i64 o]) := ⟨by rw [HN.out, List.length_append, HSL.out]; rfl, by rw [HN.out, entsC_app]; rfl⟩
        clear hone
        go_wp2_with (at_builtin; refine wpList_push w _ _ rfl _ _ _ rfl el_ent _ _ _ rfl HO.out rfl (by simp) rfl (by simp [Value.oneCell']) (by unfold maxLen; omega) (by omega) hge HB.out ?_; intro v9 w9 hown9 hb9 _ _; obtain ⟨A9, c9, rfl, _⟩ := own_shape hown9; have HO9 := Lib.hid hown9; have HB9 := Lib.hid hb9; clear hown9 hb9)
        go_roundw
        case rel => exact ⟨k + 1, A9, c9, by omega, by go_num, by rw [HNL.out.1], by rw [HNL.out.1, HNL.out.2]; exact HO9, HB9⟩
        case measure => simp [intOf]; omega
      · have q1 : decide (z < 0) = false := by simpa using hz
        cases t with
        | nil =>
          have hone : oneE z ([], o) = [] := by unfold oneE; rw [if_neg hz]
          rw [hone, List.append_nil] at HN
          clear hone
          go_wp2_with fail
          go_roundw
          case rel => exact ⟨k + 1, Ao, co, by omega, by go_num, by rw [HN.out, HSL.out], by rw [HN.out, HSL.out]; exact HO, HB⟩
          case measure => simp [intOf]; omega
        | cons b0 t' =>
          have hzb := byteN_get (b0 :: t') 0 (by show 0 < (b0 :: t').toArray.size; simp)
          have hbv : byteN (b0 :: t') 0 = b0.toNat := rfl
          have hb8 := b0.toNat_lt
          rw [hbv] at hzb
          have hw1 : IntKind.i64.wrap (b0.toNat : Int) = (b0.toNat : Int) := IntWalk.i64_in _ (by omega)
          obtain ⟨y, hy⟩ : ∃ y : Int, (b0.toNat : Int) = y := ⟨_, rfl⟩
          rw [hy] at hzb hw1
          by_cases hyz : y = z
          · have hone : oneE z (b0 :: t', o) = [(t', o)] := by unfold oneE; rw [if_neg hz]; exact if_pos (by omega)
            rw [hone] at HN
            have HNL : Hid ((selE (l.take (k + 1)) z).length = s + 1 ∧ entsC (selE (l.take (k + 1)) z) = entsC S ++ [.string ⟨t'.toArray⟩, .int .i64 o]) := ⟨by rw [HN.out, List.length_append, HSL.out]; rfl, by rw [HN.out, entsC_app]; rfl⟩
            have q2 : (y == z) = true := by simpa using hyz
            clear hone hyz hbv hb8 hy
            have hcut : ∀ W : World, (Instr.slice 9 (.string ⟨(b0 :: t').toArray⟩) (some (.int .i64 1)) none none).run Tryd.prog W = .ok (.string ⟨t'.toArray⟩) W := fun W => run_from (b0 :: t') 1 (by simp) W
            have HFC : Hid (∀ W, Below w.heap.size w W → W.cell? ⟨b, off + k * 2, none⟩ = some (.string ⟨(b0 :: t').toArray⟩) ∧ W.cell? ⟨b, off + k * 2 + 1, none⟩ = some (.int .i64 o)) := fun W hbb =>
              ⟨(hbb.cell (p := ⟨b, off + k * 2, none⟩) (by show b < _; omega)).trans HDD.out.1, (hbb.cell (p := ⟨b, off + k * 2 + 1, none⟩) (by show b < _; omega)).trans HDD.out.2⟩
            have K3 := Lib.hid (HFC.out wr HB.out)
            go_wp2_with fail
            go_region_held3 (fun w' => w'.cell? ⟨b, off + k * 2, none⟩ = some (.string ⟨(b0 :: t').toArray⟩) ∧ w'.cell? ⟨b, off + k * 2 + 1, none⟩ = some (.int .i64 o))
              (first
                | assumption
                | exact K3.out
                | (refine HFC.out _ ?_; (repeat (first | exact HBB.out | exact HB.out | refine Below.drew ?_ | refine bnew ?_ _)); done))
              ((refine step_pushg (base := w.heap.size) _ #[.string ⟨t'.toArray⟩, .int .i64 o] ?gd (.tmp 43) (.tmp 56) 22 ?ho el_ent (.slice Ao s co) s (entsC S) ?hs ?own (nb := wr.heap.size) (m := 1) ?hx ?hxc ?hl ?h1 ?hm ?h63 ?hby ?hba ?_
                case gd => rfl
                case ho => rfl
                case hs => rfl
                case own => exact own_kept HO.out (by repeat (first | exact brefl _ | refine Below.drew ?_ | refine bnew ?_ _))
                case hx => rfl
                case hxc => first | exact heap_alloc_new _ _ | (simp; done)
                case hl => rfl
                case h1 => simp [Value.oneCell']
                case hm => omega
                case h63 => unfold maxLen; omega
                case hby => omega
                case hba => exact Nat.le_trans hge (Below.size (B := wr.heap.size) (by repeat (first | exact brefl _ | refine Below.drew ?_ | refine bnew ?_ _)))
                intro g cap w7 hown7 hg7 hgm
                have HG7 := Lib.hid (grown_through (a := wr) (by repeat (first | exact brefl _ | refine Below.drew ?_ | refine bnew ?_ _)) hg7)
                have HO7 := Lib.hid hown7
                have HBB : Hid (Below w.heap.size w w7) := HB.out.grown HG7.out hge (fun q hq => by have := (HO.out.lt q hq).1; omega)
                clear hown7 hg7 hgm))
            all_goals
              go_wp2_with fail
              go_roundw
              case rel => exact ⟨k + 1, some ⟨g, 0, none⟩, cap, by omega, by go_num, by rw [HNL.out.1], by rw [HNL.out.1, HNL.out.2]; exact HO7, HBB⟩
              case measure => simp [intOf]; omega
          · have hone : oneE z (b0 :: t', o) = [] := by unfold oneE; rw [if_neg hz]; exact if_neg (by omega)
            rw [hone, List.append_nil] at HN
            have q2 : (y == z) = false := by simpa using hyz
            clear hone hyz hbv hb8 hy
            go_wp2_with fail
            go_roundw
            case rel => exact ⟨k + 1, Ao, co, by omega, by go_num, by rw [HN.out, HSL.out], by rw [HN.out, HSL.out]; exact HO, HB⟩
            case measure => simp [intOf]; omega
    · obtain rfl : k = n := by omega
      have hall : l.take k = l := List.take_of_length_le (by omega)
      rw [hall] at HO ⊢
      have hpz := selE_pos (P := pos63) hp z
      have HR := Lib.hid HRM.out.1
      have hm := HRM.out.2
      have hs2 : (selE l z).length ≤ 65536 := Nat.le_trans (selE_len l z) (by omega)
      clear hall hsl HRM
      generalize selE l z = S at *
      obtain ⟨s, hs⟩ : ∃ s, S.length = s := ⟨_, rfl⟩
      rw [hs] at HO hs2 ⊢
      have HSL := Lib.hid hs
      have hge := HB.out.size
      clear hs
      by_cases h0 : s = 0
      · subst h0
        have hS0 : S = [] := List.eq_nil_of_length_eq_zero HSL.out
        subst hS0
        have hm0 : m = 0 := hm.symm
        subst hm0
        go_wp2_with fail
        go_ret2
        exact ⟨_, rfl, by rw [HR.out]; exact ⟨rfl, .inl ⟨rfl, rfl⟩⟩, HB.out⟩
      · have q1 : ((s : Int) == 0) = false := by simp; omega
        have hsne : S ≠ [] := by
          intro e
          have := HSL.out
          rw [e] at this
          exact h0 this.symm
        obtain ⟨Ag, cg, hv, hcg⟩ := own_shape HO.out
        injection hv with hv1 _ hv3
        subst hv1 hv3
        have HLE := Lib.hid (rleast_any wr wr.heap.size (Nat.le_refl _) Ao s co S ⟨Sl.of_own HO.out, hcg, by omega⟩ (by omega))
        have HMI : Hid (0 ≤ leastO S ∧ ∀ e ∈ S, leastO S ≤ e.2 ∧ e.2 ≤ 9223372036854775807) := ⟨le_leastO hsne fun e he => (hpz e he).1, fun e he => ⟨leastO_le he, (hpz e he).2⟩⟩
        rw [hm] at HLE HMI
        have hm0 := HMI.out.1
        clear hm hpz hsne
        go_wp2_with fail
        refine HLE.out.mono ?_
        rintro e w1 ⟨rfl, hb1⟩
        have HO1 := Lib.hid (own_kept HO.out hb1)
        have HB1 := Lib.hid (bcall HB.out hb1)
        clear hb1 HO HB HLE
        go_wp2_with fail
        go_loopw [9] (fun i wr => ∃ j : Nat, j ≤ s ∧ i = .int .i64 j ∧ Hid (wr.ownsRow w.heap.size 26 2 (.slice Ao s co) s (entsC (lessE m (S.take j) ++ S.drop j))) ∧ Hid (Below w.heap.size w wr)) (fun i _ => s - (intOf i).toNat)
        case atStart => exact ⟨0, Nat.zero_le _, rfl, by simpa [lessE] using HO1, HB1⟩
        case round =>
          clear HO1 HB1
          obtain ⟨j, hj, rfl, HO, HB⟩ := hrel
          by_cases hlt2 : j < s
          · obtain ⟨e, he⟩ : ∃ e, S[j]? = some e := ⟨S[j]'(by rw [HSL.out]; exact hlt2), List.getElem?_eq_getElem _⟩
            obtain ⟨hme, hm63⟩ := HMI.out.2 e (List.mem_of_getElem? he)
            obtain ⟨t, o⟩ := e
            simp only at hme hm63
            have hdrop : S.drop j = (t, o) :: S.drop (j + 1) := by
              obtain ⟨h1, h2⟩ := List.getElem?_eq_some_iff.1 he
              rw [List.drop_eq_getElem_cons h1, h2]
            have htake : lessE m (S.take (j + 1)) = lessE m (S.take j) ++ [(t, o - m)] := by
              unfold lessE
              rw [List.take_add_one, he, List.map_append]
              rfl
            have hla : (lessE m (S.take j)).length = j := by
              unfold lessE
              rw [List.length_map, List.length_take, HSL.out]
              omega
            rw [hdrop] at HO
            obtain ⟨g, hAo, hbg, hgl⟩ := own_head HO.out (by omega)
            subst hAo
            have hcell := HO.out.cells (g := g) rfl (j * 2 + 1) (.int .i64 o) (by
              unfold entsC
              rw [flat_at entC 2 (fun _ => rfl) _ j 1 (t, o) (by rw [List.getElem?_append_right (by omega), hla, Nat.sub_self]; rfl) (by omega)]
              rfl)
            rw [Addr.add_lit, Nat.zero_add] at hcell
            have hfr : wr.frozen? ⟨g, j * 2 + 1, none⟩ = false := by
              rcases HO.out.2 with ⟨hv, _⟩ | ⟨g', cap, cur, hv, _, hg, _⟩
              · cases hv
              · injection hv with hv _ _
                injection hv with hv
                injection hv with hv _ _
                subst hv
                exact free_at hg _
            have HOP : Hid ((wr.setCell ⟨g, j * 2 + 1, none⟩ (.int .i64 (o - m))).ownsRow w.heap.size 26 2 (.slice (some ⟨g, 0, none⟩) s co) s (entsC (lessE m (S.take (j + 1)) ++ S.drop (j + 1)))) := by
              have h1 := own_put (j := j * 2 + 1) (u := .int .i64 (o - m)) HO.out
              rw [entsC_set _ _ t o (o - m) (by rw [hla])] at h1
              rw [htake, List.append_assoc]
              exact h1
            have HBP := Lib.hid (below_set (k := g) (j := j * 2 + 1) (u := .int .i64 (o - m)) HB.out hbg (Nat.le_refl _))
            clear hdrop htake hla he HO HB
            go_wp2_with fail
            go_roundw
            case rel => exact ⟨j + 1, by omega, by go_num, HOP, HBP⟩
            case measure => simp [intOf]; omega
          · obtain rfl : j = s := by omega
            rw [List.take_of_length_le (by rw [HSL.out]; exact Nat.le_refl _), List.drop_of_length_le (by rw [HSL.out]; exact Nat.le_refl _), List.append_nil, ← HR.out] at HO
            have hRl : R.length = j := by rw [HR.out]; unfold lessE; rw [List.length_map, HSL.out]
            go_wp2_with fail
            go_ret2
            exact ⟨_, rfl, by rw [hRl]; exact HO.out, HB.out⟩
end Go.Proofs.YtheickndnniomaaDoor
