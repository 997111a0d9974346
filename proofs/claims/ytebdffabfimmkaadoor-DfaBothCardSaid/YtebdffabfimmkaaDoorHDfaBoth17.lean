/- dfa.cuts: the bytes at which something may change. -/
import Derived.Test.YtebdffabfimmkaaDoorHDfaBoth16
import Derived.Test.YtebdffabfimmkaaDoorHDfaBoth12
import Derived.Test.YtebdffabfimmkaaDoorHDfaBoth15
namespace Go.Proofs.YtebdffabfimmkaaDoor
open Go.RowKit

/-- A list of arcs that is read, and where it lies. -/
structure Ash where
  A : Option Addr
  c : Nat
  l : List Arc3
def Ash.val (x : Ash) : Value := .slice x.A x.l.length x.c
/-- A row of such lists. -/
structure ListsIn (w : World) (B : Nat) (A : Option Addr) (n : Nat) (Ls : List Ash) : Prop where
  len : Ls.length = n
  sl : Sl w w.heap.size 1 A n (Ls.map Ash.val)
  ar : ∀ x ∈ Ls, ArcsIn w B x.A x.l.length x.c x.l ∧ x.l.length ≤ 1048576 ∧ x.l.length ≤ x.c
  nb : n ≤ 20000
theorem ListsIn.keep {w w' : World} {B n : Nat} {A : Option Addr} {Ls : List Ash} (h : ListsIn w B A n Ls) (hb : Below w.heap.size w w') (hB : B ≤ w.heap.size) : ListsIn w' B A n Ls :=
  ⟨h.len, (h.sl.below hb).more hb.size, fun x hx => ⟨(h.ar x hx).1.keep (hb.mono hB) (Nat.le_refl _), (h.ar x hx).2⟩, h.nb⟩
theorem ListsIn.at_ {w : World} {B n : Nat} {A : Option Addr} {Ls : List Ash} (h : ListsIn w B A n Ls) (hn : 0 < n) : ∃ b off, A = some ⟨b, off, none⟩ ∧ b < w.heap.size ∧ ∀ k x, Ls[k]? = some x → w.cell? ⟨b, off + k, none⟩ = some x.val := by
  obtain ⟨b, off, hA, hb, hc⟩ := h.sl.at_ hn
  exact ⟨b, off, hA, hb, fun k x hx => hc k _ (by rw [List.getElem?_map, hx]; rfl)⟩
def cutA (a : Arc3) : List Int := [a.1, a.2.1 + 1]
def cutL (Ls : List Ash) : List Int := [0, 256] ++ (Ls.flatMap (·.l)).flatMap cutA
set_option maxRecDepth 100000 in
set_option maxHeartbeats 8000000 in
theorem cuts_any (w : World) (B : Nat) (hB : B ≤ w.heap.size) (A : Option Addr) (n c : Nat) (Ls : List Ash) (h : ListsIn w B A n Ls) (hok : ∀ x ∈ Ls, ∀ a ∈ x.l, 0 ≤ a.1 ∧ a.1 ≤ a.2.1 ∧ a.2.1 ≤ 255) :
    Calls Tryd.prog 29 #[.slice A n c] w fun e w' => ∃ (A' : Option Addr) (q c' : Nat), e = .returned (.slice A' q c') ∧ w'.ownsRow w.heap.size 3 1 (.slice A' q c') q ((Lib.compact (sorted (cutL Ls))).map (.int .i64)) ∧ Below w.heap.size w w' := by
  have HS := Lib.hid h
  have HOK := Lib.hid hok
  have hlen := h.len
  have hnb := h.nb
  clear h hok
  go_enter Tryd.func29, Tryd.ntmps29
  go_wp2_with fail
  have HO0 : Hid ((w.alloc (.cells #[.int .i64 0, .int .i64 256] 3)).ownsRow w.heap.size 3 1 (.slice (some ⟨w.heap.size, 0, none⟩) 2 2) 2 (([0, 256] : List Int).map (.int .i64))) := own_new w #[.int .i64 0, .int .i64 256] 3 1 2 rfl (by unfold maxLen; omega) rfl (Nat.le_refl _)
  have HB0 := Lib.hid (bnew (brefl w) (.cells #[.int .i64 0, .int .i64 256] 3))
  go_loopw [3, 11] (fun ov iv wr => ∃ (i q co : Nat) (Ao : Option Addr) (O : List Int), iv = .int .i64 i ∧ ov = .slice Ao q co ∧ i ≤ n ∧ q ≤ 2 + 2097152 * i ∧ Hid (O = [0, 256] ++ ((Ls.take i).flatMap (·.l)).flatMap cutA) ∧ Hid (wr.ownsRow w.heap.size 3 1 (.slice Ao q co) q (O.map (.int .i64))) ∧ Hid (Below w.heap.size w wr)) (fun _ iv _ => n - (intOf iv).toNat)
  case atStart => exact ⟨0, 2, 2, _, [0, 256], rfl, rfl, Nat.zero_le _, by omega, rfl, HO0, HB0⟩
  case round =>
    clear HO0 HB0
    obtain ⟨i, q, co, Ao, O, rfl, rfl, hin, hqb, HO, HR, HB⟩ := hrel
    by_cases hlt : i < n
    · have HW := Lib.hid (HS.out.keep HB.out hB)
      obtain ⟨x, hx⟩ : ∃ x, Ls[i]? = some x := ⟨Ls[i]'(by omega), List.getElem?_eq_getElem _⟩
      obtain ⟨lb, loff, rfl, hlb, hlc⟩ := HW.out.at_ (by omega)
      obtain ⟨m, hm⟩ : ∃ m, x.l.length = m := ⟨_, rfl⟩
      have hxm := List.mem_of_getElem? hx
      have l0 : wr.cell? ⟨lb, loff + i, none⟩ = some (.slice x.A m x.c) := by rw [← hm]; exact hlc i x hx
      have hm20 := (HS.out.ar x hxm).2
      rw [hm] at hm20
      obtain ⟨hm20, hmc⟩ := hm20
      have HM := Lib.hid hm
      have HXM := Lib.hid hxm
      have HTK : Hid ((Ls.take (i + 1)).flatMap (·.l) = (Ls.take i).flatMap (·.l) ++ x.l) := by show _ = _; rw [List.take_add_one, hx, List.flatMap_append]; simp
      clear hx hlc hxm hm
      go_wp2_with fail
      go_loopw [3, 17] (fun ov jv wj => ∃ (j q co : Nat) (Ao : Option Addr) (O : List Int), jv = .int .i64 j ∧ ov = .slice Ao q co ∧ j ≤ m ∧ q ≤ 2 + 2097152 * i + 2 * j ∧ Hid (O = [0, 256] ++ ((Ls.take i).flatMap (·.l) ++ x.l.take j).flatMap cutA) ∧ Hid (wj.ownsRow w.heap.size 3 1 (.slice Ao q co) q (O.map (.int .i64))) ∧ Hid (Below w.heap.size w wj)) (fun _ jv _ => m - (intOf jv).toNat)
      case atStart => exact ⟨0, q, co, Ao, O, rfl, rfl, Nat.zero_le _, by omega, by rw [List.take_zero, List.append_nil]; exact HO, HR, HB⟩
      case round =>
        clear HO HR HB HW l0
        obtain ⟨j, q, co, Ao, O, rfl, rfl, hjm, hqb, HO, HR, HB⟩ := hrel
        by_cases hjl : j < m
        · have HWJ := (HS.out.keep HB.out hB)
          obtain ⟨a, ha⟩ : ∃ a, x.l[j]? = some a := ⟨x.l[j]'(by rw [HM.out]; exact hjl), List.getElem?_eq_getElem _⟩
          obtain ⟨ab, aoff, hxA, hab, hac⟩ := (HWJ.ar x HXM.out).1.at_ (by rw [HM.out]; omega)
          obtain ⟨a0, a1, a2⟩ := hac j a ha
          have habw : ab < wr.heap.size := Nat.lt_of_lt_of_le hab (Nat.le_trans hB HB.out.size)
          have haok := HOK.out x HXM.out a (List.mem_of_getElem? ha)
          have HTJ : Hid (x.l.take (j + 1) = x.l.take j ++ [a]) := by show _ = _; rw [List.take_add_one, ha]; rfl
          rw [hxA]
          obtain ⟨lo, hi, tt⟩ := a
          simp only at a0 a1 a2 haok
          have q1 : IntKind.i64.wrap (hi + 1) = hi + 1 := IntWalk.i64_in _ (by omega)
          have HR1 := Lib.hid (own_kept HR.out (bnew (brefl wr) (.cells #[.int .i64 lo, .int .i64 hi, .int .i64 tt] 41)))
          have HB1 := Lib.hid (bnew HB.out (.cells #[.int .i64 lo, .int .i64 hi, .int .i64 tt] 41))
          have hbs1 := HB1.out.size
          clear hac ha HWJ
          go_wp2_with (at_builtin; refine wpList_pushm w (wr.alloc (.cells #[.int .i64 lo, .int .i64 hi, .int .i64 tt] 41)) _ rfl _ _ _ rfl el_int _ _ _ rfl HR1.out (m := 2) rfl (by simp) rfl (by simp [Value.oneCell']) (by unfold maxLen; omega) (by omega) hbs1 HB1.out ?_; intro v9 w9 hown9 hb9 _ _; obtain ⟨A9, c9, rfl, _⟩ := own_shape hown9; have HO9 := Lib.hid hown9; have HB9 := Lib.hid hb9; clear hown9 hb9)
          have HON : Hid (O ++ [lo, hi + 1] = [0, 256] ++ ((Ls.take i).flatMap (·.l) ++ x.l.take (j + 1)).flatMap cutA) := by
            show _ = _
            rw [HTJ.out, HO.out, ← List.append_assoc, List.flatMap_append, List.flatMap_append, List.flatMap_append]
            simp [cutA]
          have HR9 : Hid (w9.ownsRow w.heap.size 3 1 (.slice A9 (q + 2) c9) (q + 2) ((O ++ [lo, hi + 1]).map (.int .i64))) := by
            rw [List.map_append]
            exact HO9.out
          clear HO9 HR HR1 HO
          go_wp2_with fail
          go_roundw
          case rel => exact ⟨j + 1, q + 2, c9, A9, O ++ [lo, hi + 1], by go_num, rfl, by omega, by omega, HON, HR9, HB9⟩
          case measure => simp [intOf]; omega
        · obtain rfl : m = j := by omega
          have HON : Hid (O = [0, 256] ++ ((Ls.take (i + 1)).flatMap (·.l)).flatMap cutA) := by
            have h1 := HO.out
            have htk : x.l.take m = x.l := List.take_of_length_le (by rw [HM.out]; exact Nat.le_refl _)
            rw [htk] at h1
            show _ = _
            rw [HTK.out]
            exact h1
          clear HO
          go_wp2_with fail
          go_roundw
          case rel => exact ⟨i + 1, q, co, Ao, O, by go_num, rfl, by omega, by omega, HON, HR, HB⟩
          case measure => simp [intOf]; omega
    · obtain rfl : n = i := by omega
      have HOE : Hid (O = cutL Ls) := by
        have h1 := HO.out
        rw [List.take_of_length_le (by omega)] at h1
        exact h1
      have hq0 : 0 < q := by
        have h1 := HR.out.1
        rw [List.length_map, HOE.out, cutL, List.length_append] at h1
        simp at h1
        omega
      have HBS := Lib.hid HB.out.size
      clear HO
      go_wp2_with fail
      refine (sort_own HR.out (by omega)).mono ?_
      rintro e w7 ⟨rfl, hown7, hg7⟩
      have HO7 := Lib.hid hown7
      have HB7 := Lib.hid (HB.out.grown hg7 HB.out.size (fun r hr => (HR.out.lt r hr).1))
      clear hown7 hg7 HR
      go_wp2_with fail
      refine (compact_own HO7.out (by omega) hq0).mono ?_
      rintro e w8 ⟨rfl, hown8, hg8⟩
      have HO8 := Lib.hid hown8
      have HB8 := Lib.hid (HB7.out.grown hg8 HB7.out.size (fun r hr => (HO7.out.lt r hr).1))
      clear hown8 hg8 HO7
      have HLE := Lib.hid HOE.out
      go_wp2_with fail
      go_ret
      exact ⟨_, _, _, rfl, by rw [← HLE.out]; exact HO8.out, HB8.out⟩
end Go.Proofs.YtebdffabfimmkaaDoor
/- The automaton of sets of loose states; the bytes at which it may change (plain Lean). -/
namespace Go.Proofs.YtebdffabfimmkaaDoor
open Go.RowKit

def arcsAt (l : List Lst) (z : Int) : List Arc3 := ((l[z.toNat]?).map (·.arcs)).getD []
def finAt (l : List Lst) (z : Int) : Bool := ((l[z.toNat]?).map (·.fin)).getD false
/-- Where a byte leads from a set. -/
def overP (l : List Lst) (S : List Int) (c : Nat) (x : Nat) : Prop := ∃ z ∈ S, ∃ a ∈ arcsAt l z, a.1 ≤ (c : Int) ∧ (c : Int) ≤ a.2.1 ∧ a.2.2 = (x : Int)
open Classical in
noncomputable def stepS (l : List Lst) (S : List Int) (c : Nat) : Option (List Int) := if ∃ x, overP l S c x then some (setL l.length (Clo l (overP l S c))) else none
def finS (l : List Lst) (S : List Int) : Bool := S.any (finAt l)
noncomputable def subW (l : List Lst) : Bfs (List Int) := ⟨stepS l, fun z y => decide (z = y), id⟩
theorem subW_plain (l : List Lst) : Plain (subW l) := ⟨fun _ _ => rfl, fun _ => rfl⟩
theorem stepS_congr {l : List Lst} {S : List Int} {c c' : Nat} (h : ∀ x, overP l S c x ↔ overP l S c' x) : stepS l S c = stepS l S c' := by
  have e : overP l S c = overP l S c' := funext fun x => propext (h x)
  unfold stepS
  rw [e]
/-- What a list of states says, and where bytes lead. -/
theorem stepS_list {l : List Lst} {S : List Int} {c : Nat} {T : List Int} (hT : ∀ z, z ∈ T ↔ ∃ y ∈ S, ∃ a ∈ arcsAt l y, a.1 ≤ (c : Int) ∧ (c : Int) ≤ a.2.1 ∧ a.2.2 = z) (hpos : ∀ z ∈ T, 0 ≤ z) :
    stepS l S c = if T = [] then none else some (setL l.length (Clo l fun x => ((x : Nat) : Int) ∈ T)) := by
  have e : overP l S c = fun x => ((x : Nat) : Int) ∈ T := funext fun x => propext ((hT (x : Int)).symm)
  unfold stepS
  rw [e]
  by_cases h : T = []
  · rw [if_pos h, if_neg]
    rintro ⟨x, hx⟩
    rw [h] at hx
    cases hx
  · rw [if_neg h, if_pos]
    obtain ⟨z, hz⟩ := List.exists_mem_of_ne_nil _ h
    refine ⟨z.toNat, ?_⟩
    have := hpos z hz
    show ((z.toNat : Nat) : Int) ∈ T
    rw [show ((z.toNat : Nat) : Int) = z by omega]
    exact hz
/-- Rising numbers: nothing lies between neighbours. -/
theorem lt_gap {L : List Int} (h : L.Pairwise fun x y => x < y) {k : Nat} {u v : Int} (hu : L[k]? = some u) (hv : L[k + 1]? = some v) {z : Int} (hz : z ∈ L) : z ≤ u ∨ v ≤ z := by
  obtain ⟨j, hj⟩ := List.mem_iff_getElem?.1 hz
  have hjl := (List.getElem?_eq_some_iff.1 hj)
  have hkl := (List.getElem?_eq_some_iff.1 hu)
  have hvl := (List.getElem?_eq_some_iff.1 hv)
  rcases Nat.lt_trichotomy j k with h1 | h1 | h1
  · have := List.pairwise_iff_getElem.1 h j k hjl.1 hkl.1 h1
    rw [hjl.2, hkl.2] at this
    omega
  · subst h1
    rw [hu] at hj
    injection hj with hj
    omega
  · by_cases e : j = k + 1
    · subst e
      rw [hv] at hj
      injection hj with hj
      omega
    · have := List.pairwise_iff_getElem.1 h (k + 1) j hvl.1 hjl.1 (by omega)
      rw [hjl.2, hvl.2] at this
      omega
/-- The bytes at which something may change. -/
structure CutP (l : List Lst) (S : List Int) (C : List Int) : Prop where
  lt : C.Pairwise fun x y => x < y
  in_ : ∀ x ∈ C, 0 ≤ x ∧ x ≤ 256
  zero : C[0]? = some 0
  last : C[C.length - 1]? = some 256
  two : 2 ≤ C.length
  arc : ∀ z ∈ S, ∀ a ∈ arcsAt l z, a.1 ∈ C ∧ a.2.1 + 1 ∈ C
theorem cut_first {C : List Int} (h : C.Pairwise fun x y => x < y) (hin : ∀ x ∈ C, 0 ≤ x ∧ x ≤ 256) (h0 : (0 : Int) ∈ C) : C[0]? = some 0 := by
  cases C with
  | nil => cases h0
  | cons x r =>
    rcases List.mem_cons.1 h0 with e | hr
    · rw [← e]; rfl
    · have := (List.pairwise_cons.1 h).1 0 hr
      have := hin x (List.mem_cons_self ..)
      omega
theorem cut_last {C : List Int} (h : C.Pairwise fun x y => x < y) (hin : ∀ x ∈ C, 0 ≤ x ∧ x ≤ 256) (h0 : (256 : Int) ∈ C) : C[C.length - 1]? = some 256 := by
  obtain ⟨j, hj⟩ := List.mem_iff_getElem?.1 h0
  obtain ⟨h1, h2⟩ := List.getElem?_eq_some_iff.1 hj
  by_cases e : j = C.length - 1
  · rw [← e]; exact hj
  · have h3 := List.pairwise_iff_getElem.1 h j (C.length - 1) h1 (by omega) (by omega)
    have h4 := hin _ (List.getElem_mem (show C.length - 1 < C.length by omega))
    rw [h2] at h3
    omega
theorem cutP_of {l : List Lst} {S : List Int} {Ls : List Ash} (hg : LGood l) (hLs : Ls.map (·.l) = S.map (arcsAt l)) : CutP l S (Lib.compact (sorted (cutL Ls))) := by
  obtain ⟨h1, h2⟩ := compact_sorted (sorted_le (cutL Ls))
  have hmem : ∀ x, x ∈ Lib.compact (sorted (cutL Ls)) ↔ x ∈ cutL Ls := fun x => (h2 x).trans (sorted_mem _ x)
  have hcut : ∀ x, x ∈ cutL Ls ↔ x = 0 ∨ x = 256 ∨ ∃ z ∈ S, ∃ a ∈ arcsAt l z, x = a.1 ∨ x = a.2.1 + 1 := fun x => by
    unfold cutL
    rw [List.mem_append, List.mem_flatMap]
    have e : Ls.flatMap (·.l) = (S.map (arcsAt l)).flatten := by rw [← hLs, List.flatMap_def]
    rw [e]
    constructor
    · rintro (h | ⟨a, ha, hx⟩)
      · simp at h
        rcases h with h | h
        · exact .inl h
        · exact .inr (.inl h)
      · rw [List.mem_flatten] at ha
        obtain ⟨L, hL, haL⟩ := ha
        obtain ⟨z, hz, rfl⟩ := List.mem_map.1 hL
        simp [cutA] at hx
        exact .inr (.inr ⟨z, hz, a, haL, hx⟩)
    · rintro (h | h | ⟨z, hz, a, ha, hx⟩)
      · left; simp [h]
      · left; simp [h]
      · right
        refine ⟨a, ?_, by simpa [cutA] using hx⟩
        rw [List.mem_flatten]
        exact ⟨_, List.mem_map_of_mem hz, ha⟩
  have hok : ∀ z, ∀ a ∈ arcsAt l z, 0 ≤ a.1 ∧ a.1 ≤ a.2.1 ∧ a.2.1 ≤ 255 := fun z a ha => by
    unfold arcsAt at ha
    cases hz : l[z.toNat]? with
    | none => rw [hz] at ha; cases ha
    | some s =>
      rw [hz] at ha
      have := hg.arc s (List.mem_of_getElem? hz) a ha
      exact ⟨this.1, this.2.1, this.2.2.1⟩
  have hin : ∀ x ∈ Lib.compact (sorted (cutL Ls)), 0 ≤ x ∧ x ≤ 256 := fun x hx => by
    rcases (hcut x).1 ((hmem x).1 hx) with h | h | ⟨z, _, a, ha, h⟩
    · omega
    · omega
    · have := hok z a ha
      rcases h with h | h <;> omega
  have h0 : (0 : Int) ∈ Lib.compact (sorted (cutL Ls)) := (hmem 0).2 ((hcut 0).2 (.inl rfl))
  have h256 : (256 : Int) ∈ Lib.compact (sorted (cutL Ls)) := (hmem 256).2 ((hcut 256).2 (.inr (.inl rfl)))
  have hz := cut_first h1 hin h0
  have hl := cut_last h1 hin h256
  refine ⟨h1, hin, hz, hl, ?_, fun z hz a ha => ⟨(hmem _).2 ((hcut _).2 (.inr (.inr ⟨z, hz, a, ha, .inl rfl⟩))), (hmem _).2 ((hcut _).2 (.inr (.inr ⟨z, hz, a, ha, .inr rfl⟩)))⟩⟩
  apply Classical.byContradiction
  intro hn
  have : (Lib.compact (sorted (cutL Ls))).length - 1 = 0 := by omega
  rw [this, hz] at hl
  injection hl with hl
  exact absurd hl (by decide)
/-- Between two cuts bytes lead to the same. -/
theorem CutP.same {l : List Lst} {S C : List Int} (h : CutP l S C) {k u v : Nat} (hu : C[k]? = some ((u : Nat) : Int)) (hv : C[k + 1]? = some ((v : Nat) : Int)) {c : Nat} (h1 : u ≤ c) (h2 : c < v) : stepS l S c = stepS l S u := by
  refine stepS_congr fun x => ?_
  unfold overP
  constructor
  · rintro ⟨z, hz, a, ha, a1, a2, a3⟩
    obtain ⟨b1, b2⟩ := h.arc z hz a ha
    have c1 := lt_gap h.lt hu hv b1
    have c2 := lt_gap h.lt hu hv b2
    exact ⟨z, hz, a, ha, by omega, by omega, a3⟩
  · rintro ⟨z, hz, a, ha, a1, a2, a3⟩
    obtain ⟨b1, b2⟩ := h.arc z hz a ha
    have c1 := lt_gap h.lt hu hv b1
    have c2 := lt_gap h.lt hu hv b2
    exact ⟨z, hz, a, ha, by omega, by omega, a3⟩
theorem run_head {σ : Type} (W : Bfs σ) (x0 : σ) : ∀ f, (W.run f 0 [x0])[0]? = some x0
  | 0 => rfl
  | f + 1 => by
    have ih := run_head W x0 f
    rw [W.run_succ]
    split
    · rename_i x _
      obtain ⟨more, hm⟩ := W.row_pre x (W.run f 0 [x0]) 256
      have hl := (List.getElem?_eq_some_iff.1 ih).1
      rw [hm, List.getElem?_append_left hl]
      exact ih
    · exact ih
theorem out_good {σ : Type} (W : Bfs σ) (fin : σ → Bool) {met : List σ} (h0 : met ≠ []) (hl : met.length ≤ 20000) : Good (W.out fin met) := by
  have hlen : (W.out fin met).length = met.length := by unfold Bfs.out; rw [List.length_map]
  refine ⟨fun e => h0 (List.map_eq_nil_iff.1 e), by rw [hlen]; exact hl, fun s hs => ?_, fun s hs a ha => ?_⟩
  · obtain ⟨x, _, rfl⟩ := List.mem_map.1 hs
    exact (runs_asc _ 256).1
  · obtain ⟨x, _, rfl⟩ := List.mem_map.1 hs
    obtain ⟨c, k, _, hg, hk⟩ := runs_mem _ 256 a ha
    obtain ⟨y, _, hf⟩ := Option.bind_eq_some_iff.1 hg
    obtain ⟨z, hz, _⟩ := findI_some hf
    have := (List.getElem?_eq_some_iff.1 hz).1
    rw [hlen]
    omega
theorem MadeP.leq {W : Bfs (List Int)} {fin fin0 : List Int → Bool} {x0 : List Int} {i : Nat} {met : List (List Int)} {ds : List St} (hW : Plain W) (h : MadeP W fin fin0 x0 i met ds) (hi : i = met.length) : Leq (auOf ds) 0 ⟨fin, W.step⟩ x0 := by
  obtain ⟨e, hm, _⟩ := h.last hW hi
  rw [e]
  intro s
  refine out_leq W fin (fun z y hzy => ?_) hm s 0 x0 ?_
  · rw [hW.eqv, decide_eq_true_eq] at hzy
    rw [hzy]
    exact Leq.refl _ _
  · rw [h.run]
    exact run_head W x0 i
theorem MadeP.good {W : Bfs (List Int)} {fin fin0 : List Int → Bool} {x0 : List Int} {i : Nat} {met : List (List Int)} {ds : List St} (hW : Plain W) (h : MadeP W fin fin0 x0 i met ds) (hi : i = met.length) (hl : met.length ≤ 20000) : Good ds := by
  obtain ⟨e, _, _⟩ := h.last hW hi
  rw [e]
  refine out_good W fin (fun e => ?_) hl
  have := run_head W x0 i
  rw [← h.run, e] at this
  cases this
end Go.Proofs.YtebdffabfimmkaaDoor
