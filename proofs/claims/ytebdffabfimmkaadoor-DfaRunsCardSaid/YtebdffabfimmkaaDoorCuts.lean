/- dfa.cuts: the bytes at which something may change. -/
import Derived.Test.YtebdffabfimmkaaDoorFree
import Derived.Test.YtebdffabfimmkaaDoorAliv
namespace Go.Proofs.YtebdffabfimmkaaDoor
open Go.RowKit

/-- A list of arcs that is read, and where it lies. -/
structure Ash where
  A : Option Addr
  c : Nat
  l : List Arc3
def Ash.val (x : Ash) : Value := .slice x.A x.l.length x.c
/-- A row of such lists. -/
structure ListsIn (w : World) (B : Nat) (A : Option Addr) (n : Nat) (Ls : List Ash) : Prop where
  len : Ls.length = n
  sl : Sl w w.heap.size 1 A n (Ls.map Ash.val)
  ar : ∀ x ∈ Ls, ArcsIn w B x.A x.l.length x.c x.l ∧ x.l.length ≤ 1048576 ∧ x.l.length ≤ x.c
  nb : n ≤ 20000
theorem ListsIn.keep {w w' : World} {B n : Nat} {A : Option Addr} {Ls : List Ash} (h : ListsIn w B A n Ls) (hb : Below w.heap.size w w') (hB : B ≤ w.heap.size) : ListsIn w' B A n Ls :=
  ⟨h.len, (h.sl.below hb).more hb.size, fun x hx => ⟨(h.ar x hx).1.keep (hb.mono hB) (Nat.le_refl _), (h.ar x hx).2⟩, h.nb⟩
theorem ListsIn.at_ {w : World} {B n : Nat} {A : Option Addr} {Ls : List Ash} (h : ListsIn w B A n Ls) (hn : 0 < n) : ∃ b off, A = some ⟨b, off, none⟩ ∧ b < w.heap.size ∧ ∀ k x, Ls[k]? = some x → w.cell? ⟨b, off + k, none⟩ = some x.val := by
  obtain ⟨b, off, hA, hb, hc⟩ := h.sl.at_ hn
  exact ⟨b, off, hA, hb, fun k x hx => hc k _ (by rw [List.getElem?_map, hx]; rfl)⟩
def cutA (a : Arc3) : List Int := [a.1, a.2.1 + 1]
def cutL (Ls : List Ash) : List Int := [0, 256] ++ (Ls.flatMap (·.l)).flatMap cutA
set_option maxRecDepth 100000 in
set_option maxHeartbeats 8000000 in
theorem cuts_any (w : World) (B : Nat) (hB : B ≤ w.heap.size) (A : Option Addr) (n c : Nat) (Ls : List Ash) (h : ListsIn w B A n Ls) (hok : ∀ x ∈ Ls, ∀ a ∈ x.l, 0 ≤ a.1 ∧ a.1 ≤ a.2.1 ∧ a.2.1 ≤ 255) :
    Calls Tryd.prog 29 #[.slice A n c] w fun e w' => ∃ (A' : Option Addr) (q c' : Nat), e = .returned (.slice A' q c') ∧ w'.ownsRow w.heap.size 3 1 (.slice A' q c') q ((Lib.compact (sorted (cutL Ls))).map (.int .i64)) ∧ Below w.heap.size w w' := by
  have HS := Lib.hid h
  have HOK := Lib.hid hok
  have hlen := h.len
  have hnb := h.nb
  clear h hok
  go_enter Tryd.func29, Tryd.ntmps29
  go_wp2_with fail
  have HO0 : Hid ((w.alloc (.cells #[.int .i64 0, .int .i64 256] 3)).ownsRow w.heap.size 3 1 (.slice (some ⟨w.heap.size, 0, none⟩) 2 2) 2 (([0, 256] : List Int).map (.int .i64))) := own_new w #[.int .i64 0, .int .i64 256] 3 1 2 rfl (by unfold maxLen; omega) rfl (Nat.le_refl _)
  have HB0 := Lib.hid (bnew (brefl w) (.cells #[.int .i64 0, .int .i64 256] 3))
  go_loopw [3, 11] (fun ov iv wr => ∃ (i q co : Nat) (Ao : Option Addr) (O : List Int), iv = .int .i64 i ∧ ov = .slice Ao q co ∧ i ≤ n ∧ q ≤ 2 + 2097152 * i ∧ Hid (O = [0, 256] ++ ((Ls.take i).flatMap (·.l)).flatMap cutA) ∧ Hid (wr.ownsRow w.heap.size 3 1 (.slice Ao q co) q (O.map (.int .i64))) ∧ Hid (Below w.heap.size w wr)) (fun _ iv _ => n - (intOf iv).toNat)
  case atStart => exact ⟨0, 2, 2, _, [0, 256], rfl, rfl, Nat.zero_le _, by omega, rfl, HO0, HB0⟩
  case round =>
    clear HO0 HB0
    obtain ⟨i, q, co, Ao, O, rfl, rfl, hin, hqb, HO, HR, HB⟩ := hrel
    by_cases hlt : i < n
    · have HW := Lib.hid (HS.out.keep HB.out hB)
      obtain ⟨x, hx⟩ : ∃ x, Ls[i]? = some x := ⟨Ls[i]'(by omega), List.getElem?_eq_getElem _⟩
      obtain ⟨lb, loff, rfl, hlb, hlc⟩ := HW.out.at_ (by omega)
      obtain ⟨m, hm⟩ : ∃ m, x.l.length = m := ⟨_, rfl⟩
      have hxm := List.mem_of_getElem? hx
      have l0 : wr.cell? ⟨lb, loff + i, none⟩ = some (.slice x.A m x.c) := by rw [← hm]; exact hlc i x hx
      have hm20 := (HS.out.ar x hxm).2
      rw [hm] at hm20
      obtain ⟨hm20, hmc⟩ := hm20
      have HM := Lib.hid hm
      have HXM := Lib.hid hxm
      have HTK : Hid ((Ls.take (i + 1)).flatMap (·.l) = (Ls.take i).flatMap (·.l) ++ x.l) := by show _ = _; rw [List.take_add_one, hx, List.flatMap_append]; simp
      clear hx hlc hxm hm
      go_wp2_with fail
      go_loopw [3, 17] (fun ov jv wj => ∃ (j q co : Nat) (Ao : Option Addr) (O : List Int), jv = .int .i64 j ∧ ov = .slice Ao q co ∧ j ≤ m ∧ q ≤ 2 + 2097152 * i + 2 * j ∧ Hid (O = [0, 256] ++ ((Ls.take i).flatMap (·.l) ++ x.l.take j).flatMap cutA) ∧ Hid (wj.ownsRow w.heap.size 3 1 (.slice Ao q co) q (O.map (.int .i64))) ∧ Hid (Below w.heap.size w wj)) (fun _ jv _ => m - (intOf jv).toNat)
      case atStart => exact ⟨0, q, co, Ao, O, rfl, rfl, Nat.zero_le _, by omega, by rw [List.take_zero, List.append_nil]; exact HO, HR, HB⟩
      case round =>
        clear HO HR HB HW l0
        obtain ⟨j, q, co, Ao, O, rfl, rfl, hjm, hqb, HO, HR, HB⟩ := hrel
        by_cases hjl : j < m
        · have HWJ := (HS.out.keep HB.out hB)
          obtain ⟨a, ha⟩ : ∃ a, x.l[j]? = some a := ⟨x.l[j]'(by rw [HM.out]; exact hjl), List.getElem?_eq_getElem _⟩
          obtain ⟨ab, aoff, hxA, hab, hac⟩ := (HWJ.ar x HXM.out).1.at_ (by rw [HM.out]; omega)
          obtain ⟨a0, a1, a2⟩ := hac j a ha
          have habw : ab < wr.heap.size := Nat.lt_of_lt_of_le hab (Nat.le_trans hB HB.out.size)
          have haok := HOK.out x HXM.out a (List.mem_of_getElem? ha)
          have HTJ : Hid (x.l.take (j + 1) = x.l.take j ++ [a]) := by show _ = _; rw [List.take_add_one, ha]; rfl
          rw [hxA]
          obtain ⟨lo, hi, tt⟩ := a
          simp only at a0 a1 a2 haok
          have q1 : IntKind.i64.wrap (hi + 1) = hi + 1 := IntWalk.i64_in _ (by omega)
          have HR1 := Lib.hid (own_kept HR.out (bnew (brefl wr) (.cells #[.int .i64 lo, .int .i64 hi, .int .i64 tt] 41)))
          have HB1 := Lib.hid (bnew HB.out (.cells #[.int .i64 lo, .int .i64 hi, .int .i64 tt] 41))
          have hbs1 := HB1.out.size
          clear hac ha HWJ
          go_wp2_with (at_builtin; refine wpList_pushm w (wr.alloc (.cells #[.int .i64 lo, .int .i64 hi, .int .i64 tt] 41)) _ rfl _ _ _ rfl el_int _ _ _ rfl HR1.out (m := 2) rfl (by simp) rfl (by simp [Value.oneCell']) (by unfold maxLen; omega) (by omega) hbs1 HB1.out ?_; intro v9 w9 hown9 hb9 _ _; obtain ⟨A9, c9, rfl, _⟩ := own_shape hown9; have HO9 := Lib.hid hown9; have HB9 := Lib.hid hb9; clear hown9 hb9)
          have HON : Hid (O ++ [lo, hi + 1] = [0, 256] ++ ((Ls.take i).flatMap (·.l) ++ x.l.take (j + 1)).flatMap cutA) := by
            show _ = _
            rw [HTJ.out, HO.out, ← List.append_assoc, List.flatMap_append, List.flatMap_append, List.flatMap_append]
            simp [cutA]
          have HR9 : Hid (w9.ownsRow w.heap.size 3 1 (.slice A9 (q + 2) c9) (q + 2) ((O ++ [lo, hi + 1]).map (.int .i64))) := by
            rw [List.map_append]
            exact HO9.out
          clear HO9 HR HR1 HO
          go_wp2_with fail
          go_roundw
          case rel => exact ⟨j + 1, q + 2, c9, A9, O ++ [lo, hi + 1], by go_num, rfl, by omega, by omega, HON, HR9, HB9⟩
          case measure => simp [intOf]; omega
        · obtain rfl : m = j := by omega
          have HON : Hid (O = [0, 256] ++ ((Ls.take (i + 1)).flatMap (·.l)).flatMap cutA) := by
            have h1 := HO.out
            have htk : x.l.take m = x.l := List.take_of_length_le (by rw [HM.out]; exact Nat.le_refl _)
            rw [htk] at h1
            show _ = _
            rw [HTK.out]
            exact h1
          clear HO
          go_wp2_with fail
          go_roundw
          case rel => exact ⟨i + 1, q, co, Ao, O, by go_num, rfl, by omega, by omega, HON, HR, HB⟩
          case measure => simp [intOf]; omega
    · obtain rfl : n = i := by omega
      have HOE : Hid (O = cutL Ls) := by
        have h1 := HO.out
        rw [List.take_of_length_le (by omega)] at h1
        exact h1
      have hq0 : 0 < q := by
        have h1 := HR.out.1
        rw [List.length_map, HOE.out, cutL, List.length_append] at h1
        simp at h1
        omega
      have HBS := Lib.hid HB.out.size
      clear HO
      go_wp2_with fail
      refine (sort_own HR.out (by omega)).mono ?_
      rintro e w7 ⟨rfl, hown7, hg7⟩
      have HO7 := Lib.hid hown7
      have HB7 := Lib.hid (HB.out.grown hg7 HB.out.size (fun r hr => (HR.out.lt r hr).1))
      clear hown7 hg7 HR
      go_wp2_with fail
      refine (compact_own HO7.out (by omega) hq0).mono ?_
      rintro e w8 ⟨rfl, hown8, hg8⟩
      have HO8 := Lib.hid hown8
      have HB8 := Lib.hid (HB7.out.grown hg8 HB7.out.size (fun r hr => (HO7.out.lt r hr).1))
      clear hown8 hg8 HO7
      have HLE := Lib.hid HOE.out
      go_wp2_with fail
      go_ret
      exact ⟨_, _, _, rfl, by rw [← HLE.out]; exact HO8.out, HB8.out⟩
end Go.Proofs.YtebdffabfimmkaaDoor
