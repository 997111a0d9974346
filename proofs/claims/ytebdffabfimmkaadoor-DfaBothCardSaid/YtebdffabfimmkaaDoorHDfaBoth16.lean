/- Loose states in memory; dfa.loose. -/
import Derived.Test.YtebdffabfimmkaaDoorHDfaBoth8
import Derived.Test.YtebdffabfimmkaaDoorHDfaBoth7
import Derived.Test.YtebdffabfimmkaaDoorHDfaBoth10
import Derived.Test.YtebdffabfimmkaaDoorHDfaBoth13
namespace Go.Proofs.YtebdffabfimmkaaDoor
open Go.RowKit

/-- A loose state. -/
structure Lst where
  fin : Bool
  arcs : List Arc3
  free : List Int
def okArc (n : Nat) (a : Arc3) : Bool := decide (0 ≤ a.1 ∧ a.1 ≤ a.2.1 ∧ a.2.1 ≤ 255 ∧ 0 ≤ a.2.2 ∧ a.2.2 < (n : Int))
def okTo (n : Nat) (t : Int) : Bool := decide (0 ≤ t ∧ t < (n : Int))
def looseB (l : List Lst) : Bool := !l.isEmpty && l.all fun s => s.arcs.all (okArc l.length) && s.free.all (okTo l.length)
/-- .. and where its arcs and its free steps lie. -/
structure Lsh where
  d : Lst
  A : Option Addr
  c : Nat
  F : Option Addr
  e : Nat
def Lsh.hdr (x : Lsh) : List Value := [.bool x.d.fin, .slice x.A x.d.arcs.length x.c, .slice x.F x.d.free.length x.e]
structure LoIn (w : World) (B : Nat) (A : Option Addr) (n c : Nat) (H : List Lsh) : Prop where
  len : H.length = n
  sl : Sl w B 3 A n (H.flatMap Lsh.hdr)
  nc : n ≤ c
  cm : n ≤ 1048576
  ar : ∀ x ∈ H, Sl w B 3 x.A x.d.arcs.length (arcsC x.d.arcs) ∧ x.d.arcs.length ≤ x.c ∧ x.d.arcs.length ≤ 1048576
  fr : ∀ x ∈ H, Sl w B 1 x.F x.d.free.length (x.d.free.map (.int .i64)) ∧ x.d.free.length ≤ x.e ∧ x.d.free.length ≤ 1048576 ∧ (x.F = none → x.d.free.length = 0)
section
variable {w w' : World} {B B' : Nat} {A : Option Addr} {n c : Nat} {H : List Lsh}
theorem LoIn.keep (h : LoIn w B A n c H) (hb : Below B w w') (hB : B ≤ B') : LoIn w' B' A n c H :=
  ⟨h.len, (h.sl.below hb).more hB, h.nc, h.cm, fun x hx => ⟨((h.ar x hx).1.below hb).more hB, (h.ar x hx).2⟩, fun x hx => ⟨((h.fr x hx).1.below hb).more hB, (h.fr x hx).2⟩⟩
theorem LoIn.at_ (h : LoIn w B A n c H) (hn : 0 < n) : ∃ b off, A = some ⟨b, off, none⟩ ∧ b < B ∧ ∀ k x, H[k]? = some x → w.cell? ⟨b, off + k * 3, none⟩ = some (.bool x.d.fin) ∧ w.cell? ⟨b, off + k * 3 + 1, none⟩ = some (.slice x.A x.d.arcs.length x.c) ∧ w.cell? ⟨b, off + k * 3 + 2, none⟩ = some (.slice x.F x.d.free.length x.e) := by
  obtain ⟨b, off, hA, hb, hc⟩ := h.sl.at_ hn
  refine ⟨b, off, hA, hb, fun k e he => ?_⟩
  have g : ∀ j u, e.hdr[j]? = some u → j < 3 → w.cell? ⟨b, off + (k * 3 + j), none⟩ = some u := fun j u hu hj =>
    hc _ _ (by rw [flat_at Lsh.hdr 3 (fun _ => rfl) H k j e he hj]; exact hu)
  exact ⟨g 0 _ rfl (by omega), by have := g 1 _ rfl (by omega); rwa [← Nat.add_assoc] at this, by have := g 2 _ rfl (by omega); rwa [← Nat.add_assoc] at this⟩
theorem LoIn.arcs (h : LoIn w B A n c H) {x : Lsh} (hx : x ∈ H) : ArcsIn w B x.A x.d.arcs.length x.c x.d.arcs := ⟨rfl, (h.ar x hx).1, by have := (h.ar x hx).2.2; omega⟩
theorem LoIn.frees (h : LoIn w B A n c H) {x : Lsh} (hx : x ∈ H) (hn : 0 < x.d.free.length) : ∃ b off, x.F = some ⟨b, off, none⟩ ∧ b < B ∧ ∀ k z, x.d.free[k]? = some z → w.cell? ⟨b, off + k, none⟩ = some (.int .i64 z) := by
  obtain ⟨b, off, hA, hb, hc⟩ := (h.fr x hx).1.at_ hn
  exact ⟨b, off, hA, hb, fun k z hz => hc k _ (by rw [List.getElem?_map, hz]; rfl)⟩
end
set_option maxRecDepth 100000 in
set_option maxHeartbeats 8000000 in
theorem loose_any (w : World) (B : Nat) (hB : B ≤ w.heap.size) (A : Option Addr) (n c : Nat) (H : List Lsh) (h : LoIn w B A n c H) :
    Calls Tryd.prog 26 #[.slice A n c] w fun e w' => e = .returned (.bool (looseB (H.map (·.d)))) ∧ Below w.heap.size w w' := by
  have HS := Lib.hid h
  have hlen := h.len
  have hcm := h.cm
  clear h
  go_enter Tryd.func26, Tryd.ntmps26
  go_wp2_with fail
  have HBAD : Hid (∀ x ∈ H, (x.d.arcs.all (okArc n) && x.d.free.all (okTo n)) = false → looseB (H.map (·.d)) = false) := fun x hx hf => by
    unfold looseB
    have : (H.map (·.d)).all (fun s => s.arcs.all (okArc (H.map (·.d)).length) && s.free.all (okTo (H.map (·.d)).length)) = false := by
      rw [List.all_eq_false]
      refine ⟨x.d, List.mem_map_of_mem hx, ?_⟩
      rw [List.length_map, hlen, hf]
      simp
    rw [this, Bool.and_false]
  go_loopw [11] (fun iv wr => ∃ k : Nat, k ≤ n ∧ iv = .int .i64 k ∧ Hid (∀ x ∈ H.take k, (x.d.arcs.all (okArc n) && x.d.free.all (okTo n)) = true) ∧ Hid (Below w.heap.size w wr)) (fun iv _ => n - (intOf iv).toNat)
  case atStart => exact ⟨0, Nat.zero_le _, rfl, fun x hx => by simp at hx, brefl w⟩
  case round =>
    obtain ⟨k, hk, rfl, HK, HB⟩ := hrel
    by_cases hlt : k < n
    · have HW := Lib.hid (HS.out.keep (HB.out.mono hB) (Nat.le_refl _))
      obtain ⟨b, off, rfl, hb, hcell⟩ := HW.out.at_ (by omega)
      obtain ⟨x, hx⟩ : ∃ x, H[k]? = some x := ⟨H[k]'(by omega), List.getElem?_eq_getElem _⟩
      obtain ⟨k0, k1, k2⟩ := hcell k x hx
      have hbw : b < wr.heap.size := Nat.lt_of_lt_of_le hb (Nat.le_trans hB HB.out.size)
      have hxm := List.mem_of_getElem? hx
      obtain ⟨m, hm⟩ : ∃ m, x.d.arcs.length = m := ⟨_, rfl⟩
      obtain ⟨q, hq⟩ : ∃ m, x.d.free.length = m := ⟨_, rfl⟩
      have hma := (HS.out.ar x hxm).2
      have hmf := (HS.out.fr x hxm).2
      rw [hm] at k1 hma
      rw [hq] at k2 hmf
      obtain ⟨hmc, hm20⟩ := hma
      obtain ⟨hqc, hq20, _⟩ := hmf
      have HM := Lib.hid hm
      have HQ := Lib.hid hq
      have HXM := Lib.hid hxm
      have HXK := Lib.hid hx
      clear hcell hx hxm hm hq
      go_wp2_with fail
      have HB1 := Lib.hid (bnew HB.out (.cells #[.bool x.d.fin, .slice x.A m x.c, .slice x.F q x.e] 56))
      have HC1 := Lib.hid (heap_alloc_new wr (.cells #[.bool x.d.fin, .slice x.A m x.c, .slice x.F q x.e] 56))
      clear k0 k1 k2 hbw HW
      generalize wr.heap.size = sp at *
      go_loopw [18] (fun jv wj => ∃ j : Nat, j ≤ m ∧ jv = .int .i64 j ∧ Hid ((x.d.arcs.take j).all (okArc n) = true) ∧ Hid (wj.heap[sp]? = some (.cells #[.bool x.d.fin, .slice x.A m x.c, .slice x.F q x.e] 56 (0, 0))) ∧ Hid (Below w.heap.size w wj)) (fun jv _ => m - (intOf jv).toNat)
      case atStart => exact ⟨0, Nat.zero_le _, rfl, rfl, HC1, HB1⟩
      case round =>
        clear HB1 HC1
        obtain ⟨j, hj, rfl, HO, HC, HBJ⟩ := hrel
        by_cases hjm : j < m
        · have HWJ := HS.out.keep (HBJ.out.mono hB) (Nat.le_refl _)
          obtain ⟨ab, aoff, hxA, hab, hac⟩ := (HWJ.arcs HXM.out).at_ (by rw [HM.out]; omega)
          obtain ⟨a, ha⟩ : ∃ a, x.d.arcs[j]? = some a := ⟨x.d.arcs[j]'(by rw [HM.out]; exact hjm), List.getElem?_eq_getElem _⟩
          obtain ⟨a0, a1, a2⟩ := hac j a ha
          have habw : ab < wr.heap.size := Nat.lt_of_lt_of_le hab (Nat.le_trans hB HBJ.out.size)
          have HTK : Hid (x.d.arcs.take (j + 1) = x.d.arcs.take j ++ [a]) := by show _ = _; rw [List.take_add_one, ha]; rfl
          have HBN := Lib.hid (bnew HBJ.out (.cells #[.int .i64 a.1, .int .i64 a.2.1, .int .i64 a.2.2] 41))
          have HCN : Hid ((wr.alloc (.cells #[.int .i64 a.1, .int .i64 a.2.1, .int .i64 a.2.2] 41)).heap[sp]? = some (.cells #[.bool x.d.fin, .slice x.A m x.c, .slice x.F q x.e] 56 (0, 0))) := ((bnew (brefl wr) _).block _ (Array.getElem?_eq_some_iff.1 HC.out).1).trans HC.out
          have HFL : Hid (okArc n a = false → looseB (H.map (·.d)) = false) := fun hf => HBAD.out x HXM.out (by
            have : x.d.arcs.all (okArc n) = false := List.all_eq_false.2 ⟨a, List.mem_of_getElem? ha, by rw [hf]; simp⟩
            rw [this, Bool.false_and])
          rw [hxA]
          rw [hxA] at HCN
          clear hac HWJ ha
          obtain ⟨lo, hi, tt⟩ := a
          simp only at a0 a1 a2 HBN HCN
          by_cases c1 : lo < 0
          · have p1 : decide (lo < 0) = true := decide_eq_true c1
            have HF := Lib.hid (HFL.out (decide_eq_false (by show ¬ (0 ≤ lo ∧ _); omega)))
            clear c1
            go_wp2_with fail
            go_ret
            exact ⟨by rw [HF.out]; rfl, HBN.out⟩
          have p1 : decide (lo < 0) = false := decide_eq_false c1
          by_cases c2 : hi < lo
          · have p2 : decide (hi < lo) = true := decide_eq_true c2
            have HF := Lib.hid (HFL.out (decide_eq_false (by show ¬ (0 ≤ lo ∧ lo ≤ hi ∧ _); omega)))
            clear c1 c2
            go_wp2_with fail
            go_ret
            exact ⟨by rw [HF.out]; rfl, HBN.out⟩
          have p2 : decide (hi < lo) = false := decide_eq_false c2
          by_cases c3 : 255 < hi
          · have p3 : decide (hi > 255) = true := decide_eq_true c3
            have HF := Lib.hid (HFL.out (decide_eq_false (by show ¬ (0 ≤ lo ∧ lo ≤ hi ∧ hi ≤ 255 ∧ _); omega)))
            clear c1 c2 c3
            go_wp2_with fail
            go_ret
            exact ⟨by rw [HF.out]; rfl, HBN.out⟩
          have p3 : decide (hi > 255) = false := decide_eq_false c3
          by_cases c4 : tt < 0
          · have p4 : decide (tt < 0) = true := decide_eq_true c4
            have HF := Lib.hid (HFL.out (decide_eq_false (by show ¬ (0 ≤ lo ∧ lo ≤ hi ∧ hi ≤ 255 ∧ 0 ≤ tt ∧ _); omega)))
            clear c1 c2 c3 c4
            go_wp2_with fail
            go_ret
            exact ⟨by rw [HF.out]; rfl, HBN.out⟩
          have p4 : decide (tt < 0) = false := decide_eq_false c4
          by_cases c5 : (n : Int) ≤ tt
          · have p5 : decide (tt ≥ (n : Int)) = true := decide_eq_true c5
            have HF := Lib.hid (HFL.out (decide_eq_false (by show ¬ (0 ≤ lo ∧ lo ≤ hi ∧ hi ≤ 255 ∧ 0 ≤ tt ∧ tt < (n : Int)); omega)))
            clear c1 c2 c3 c4 c5
            go_wp2_with fail
            go_ret
            exact ⟨by rw [HF.out]; rfl, HBN.out⟩
          have p5 : decide (tt ≥ (n : Int)) = false := decide_eq_false c5
          have HON : Hid ((x.d.arcs.take (j + 1)).all (okArc n) = true) := by
            show _ = _
            rw [HTK.out, List.all_append, HO.out, Bool.true_and, List.all_cons, List.all_nil, Bool.and_true]
            exact decide_eq_true (by show 0 ≤ lo ∧ lo ≤ hi ∧ hi ≤ 255 ∧ 0 ≤ tt ∧ tt < (n : Int); omega)
          clear c1 c2 c3 c4 c5
          go_wp2_with fail
          go_roundw
          case rel => exact ⟨j + 1, by omega, by go_num, HON, HCN, HBN⟩
          case measure => simp [intOf]; omega
        · obtain rfl : m = j := by omega
          have HAR : Hid (x.d.arcs.all (okArc n) = true) := by
            have := HO.out
            rw [List.take_of_length_le (by rw [HM.out]; exact Nat.le_refl _)] at this
            exact this
          have c2 := cell_of_row _ sp 2 _ _ (0, 0) HC.out
          have hsl := (Array.getElem?_eq_some_iff.1 HC.out).1
          simp at c2
          clear HO
          go_wp2_with fail
          go_loopw [53] (fun jv wj => ∃ j : Nat, j ≤ q ∧ jv = .int .i64 j ∧ Hid ((x.d.free.take j).all (okTo n) = true) ∧ Hid (Below w.heap.size w wj)) (fun jv _ => q - (intOf jv).toNat)
          case atStart => exact ⟨0, Nat.zero_le _, rfl, rfl, HBJ⟩
          case round =>
            clear HBJ HC c2 hsl
            obtain ⟨j, hj, rfl, HO, HBJ⟩ := hrel
            by_cases hjm : j < q
            · have HWJ := HS.out.keep (HBJ.out.mono hB) (Nat.le_refl _)
              obtain ⟨ab, aoff, hxA, hab, hac⟩ := HWJ.frees HXM.out (by rw [HQ.out]; omega)
              obtain ⟨tt, ha⟩ : ∃ a, x.d.free[j]? = some a := ⟨x.d.free[j]'(by rw [HQ.out]; exact hjm), List.getElem?_eq_getElem _⟩
              have a0 := hac j tt ha
              have habw : ab < wr.heap.size := Nat.lt_of_lt_of_le hab (Nat.le_trans hB HBJ.out.size)
              have HTK : Hid (x.d.free.take (j + 1) = x.d.free.take j ++ [tt]) := by show _ = _; rw [List.take_add_one, ha]; rfl
              have HFL : Hid (okTo n tt = false → looseB (H.map (·.d)) = false) := fun hf => HBAD.out x HXM.out (by
                have : x.d.free.all (okTo n) = false := List.all_eq_false.2 ⟨tt, List.mem_of_getElem? ha, by rw [hf]; simp⟩
                rw [this, Bool.and_false])
              rw [hxA]
              clear hac HWJ ha
              by_cases c4 : tt < 0
              · have p4 : decide (tt < 0) = true := decide_eq_true c4
                have HF := Lib.hid (HFL.out (decide_eq_false (by show ¬ (0 ≤ tt ∧ _); omega)))
                clear c4
                go_wp2_with fail
                go_ret
                exact ⟨by rw [HF.out]; rfl, HBJ.out⟩
              have p4 : decide (tt < 0) = false := decide_eq_false c4
              by_cases c5 : (n : Int) ≤ tt
              · have p5 : decide (tt ≥ (n : Int)) = true := decide_eq_true c5
                have HF := Lib.hid (HFL.out (decide_eq_false (by show ¬ (0 ≤ tt ∧ tt < (n : Int)); omega)))
                clear c4 c5
                go_wp2_with fail
                go_ret
                exact ⟨by rw [HF.out]; rfl, HBJ.out⟩
              have p5 : decide (tt ≥ (n : Int)) = false := decide_eq_false c5
              have HON : Hid ((x.d.free.take (j + 1)).all (okTo n) = true) := by
                show _ = _
                rw [HTK.out, List.all_append, HO.out, Bool.true_and, List.all_cons, List.all_nil, Bool.and_true]
                exact decide_eq_true (by show 0 ≤ tt ∧ tt < (n : Int); omega)
              clear c4 c5
              go_wp2_with fail
              go_roundw
              case rel => exact ⟨j + 1, by omega, by go_num, HON, HBJ⟩
              case measure => simp [intOf]; omega
            · obtain rfl : q = j := by omega
              have HFR : Hid (x.d.free.all (okTo n) = true) := by
                have := HO.out
                rw [List.take_of_length_le (by rw [HQ.out]; exact Nat.le_refl _)] at this
                exact this
              have HKN : Hid (∀ y ∈ H.take (k + 1), (y.d.arcs.all (okArc n) && y.d.free.all (okTo n)) = true) := fun y hy => by
                rw [List.take_add_one, HXK.out] at hy
                rcases List.mem_append.1 hy with hy | hy
                · exact HK.out y hy
                · have : y = x := by simpa using hy
                  rw [this, HAR.out, HFR.out]
                  rfl
              clear HO
              go_wp2_with fail
              go_roundw
              case rel => exact ⟨k + 1, by omega, by go_num, HKN, HBJ⟩
              case measure => simp [intOf]; omega
    · obtain rfl : n = k := by omega
      have hall : H.take n = H := List.take_of_length_le (by omega)
      rw [hall] at HK
      have HE : Hid (looseB (H.map (·.d)) = decide (0 < n)) := by
        show _ = _
        unfold looseB
        have : (H.map (·.d)).all (fun s => s.arcs.all (okArc (H.map (·.d)).length) && s.free.all (okTo (H.map (·.d)).length)) = true := by
          rw [List.all_eq_true]
          intro s hs
          obtain ⟨y, hy, rfl⟩ := List.mem_map.1 hs
          rw [List.length_map, hlen]
          exact HK.out y hy
        rw [this, Bool.and_true]
        cases hH : H with
        | nil => rw [hH] at hlen; rw [← hlen]; rfl
        | cons y r => rw [hH] at hlen; rw [← hlen]; simp
      clear hall
      have q1 : decide ((n : Int) > 0) = decide (0 < n) := decide_eq_decide.2 (by omega)
      go_wp2_with fail
      go_ret
      exact ⟨by rw [HE.out]; first | rfl | (simp; done), HB.out⟩
end Go.Proofs.YtebdffabfimmkaaDoor
/- What is reached by free steps (plain Lean). -/
namespace Go.Proofs.YtebdffabfimmkaaDoor
open Go.RowKit

/-- What some lead to by nothing, and these. -/
inductive Clo (l : List Lst) (P : Nat → Prop) : Nat → Prop
  | base {x : Nat} (h : P x) : Clo l P x
  | step {y x : Nat} {s : Lst} (hy : Clo l P y) (hs : l[y]? = some s) (hx : ((x : Nat) : Int) ∈ s.free) : Clo l P x
open Classical in
/-- A set as a rising list. -/
noncomputable def setL (n : Nat) (P : Nat → Prop) : List Int := ((List.range n).filter fun x => decide (P x)).map fun x : Nat => (x : Int)
open Classical in
theorem setL_mem {n : Nat} {P : Nat → Prop} {z : Int} : z ∈ setL n P ↔ ∃ x : Nat, z = (x : Int) ∧ x < n ∧ P x := by
  unfold setL
  rw [List.mem_map]
  constructor
  · rintro ⟨x, hx, rfl⟩
    rw [List.mem_filter, List.mem_range] at hx
    exact ⟨x, rfl, hx.1, of_decide_eq_true hx.2⟩
  · rintro ⟨x, rfl, h1, h2⟩
    exact ⟨x, by rw [List.mem_filter, List.mem_range]; exact ⟨h1, decide_eq_true h2⟩, rfl⟩
theorem setL_nat {n : Nat} {P : Nat → Prop} {x : Nat} : ((x : Nat) : Int) ∈ setL n P ↔ x < n ∧ P x := by
  rw [setL_mem]
  constructor
  · rintro ⟨y, h, h1, h2⟩
    have : x = y := by omega
    rw [this]
    exact ⟨h1, h2⟩
  · rintro ⟨h1, h2⟩
    exact ⟨x, rfl, h1, h2⟩
open Classical in
theorem setL_lt (n : Nat) (P : Nat → Prop) : (setL n P).Pairwise fun x y => x < y := by
  unfold setL
  rw [List.pairwise_map]
  refine List.Pairwise.filter _ ?_
  refine List.pairwise_lt_range.imp fun h => ?_
  omega
theorem setL_congr {n : Nat} {P Q : Nat → Prop} (h : ∀ x, x < n → (P x ↔ Q x)) : setL n P = setL n Q := by
  refine lt_ext (setL_lt n P) (setL_lt n Q) fun z => ?_
  rw [setL_mem, setL_mem]
  constructor
  · rintro ⟨x, h1, h2, h3⟩; exact ⟨x, h1, h2, (h x h2).1 h3⟩
  · rintro ⟨x, h1, h2, h3⟩; exact ⟨x, h1, h2, (h x h2).2 h3⟩
theorem setL_len (n : Nat) (P : Nat → Prop) : (setL n P).length ≤ n := by
  unfold setL
  rw [List.length_map]
  exact Nat.le_trans (List.length_filter_le _ _) (by rw [List.length_range]; exact Nat.le_refl _)
/-- Loose states that are such. -/
structure LGood (l : List Lst) : Prop where
  ne : l ≠ []
  arc : ∀ s ∈ l, ∀ a ∈ s.arcs, 0 ≤ a.1 ∧ a.1 ≤ a.2.1 ∧ a.2.1 ≤ 255 ∧ 0 ≤ a.2.2 ∧ a.2.2 < (l.length : Int)
  fre : ∀ s ∈ l, ∀ t ∈ s.free, 0 ≤ t ∧ t < (l.length : Int)
theorem loose_iff (l : List Lst) : looseB l = true ↔ LGood l := by
  unfold looseB
  rw [Bool.and_eq_true, List.all_eq_true]
  constructor
  · rintro ⟨h1, h2⟩
    refine ⟨fun e => (by rw [e] at h1; cases h1), fun s hs a ha => ?_, fun s hs t ht => ?_⟩
    · have := h2 s hs
      rw [Bool.and_eq_true, List.all_eq_true, List.all_eq_true] at this
      exact of_decide_eq_true (this.1 a ha)
    · have := h2 s hs
      rw [Bool.and_eq_true, List.all_eq_true, List.all_eq_true] at this
      exact of_decide_eq_true (this.2 t ht)
  · intro h
    refine ⟨?_, fun s hs => ?_⟩
    · cases l with
      | nil => exact absurd rfl h.ne
      | cons a r => rfl
    · rw [Bool.and_eq_true, List.all_eq_true, List.all_eq_true]
      exact ⟨fun a ha => decide_eq_true (h.arc s hs a ha), fun t ht => decide_eq_true (h.fre s hs t ht)⟩
/-- How much is still to come at most. -/
def mu : List Lst → List Bool → Nat
  | s :: r, b :: t => (if b then 0 else s.free.length + 1) + mu r t
  | _, _ => 0
theorem mu_set : ∀ {l : List Lst} {L : List Bool} {k : Nat} {s : Lst}, l[k]? = some s → L[k]? = some false → mu l (L.set k true) + (s.free.length + 1) = mu l L
  | [], _, _, _, h, _ => by cases h
  | _ :: _, [], _, _, _, h => by cases h
  | s :: r, b :: t, 0, s', h, hb => by
    simp at h hb
    subst h hb
    simp [mu]
    omega
  | s :: r, b :: t, k + 1, s', h, hb => by
    have := mu_set (l := r) (L := t) (k := k) (s := s') (by simpa using h) (by simpa using hb)
    simp only [List.set_cons_succ, mu]
    omega
theorem mu_le : ∀ {l : List Lst} {L : List Bool}, (∀ s ∈ l, s.free.length ≤ 1048576) → mu l L ≤ l.length * 1048577
  | [], _, _ => Nat.zero_le _
  | _ :: _, [], _ => Nat.zero_le _
  | s :: r, b :: t, h => by
    have h1 := mu_le (l := r) (L := t) fun x hx => h x (List.mem_cons_of_mem _ hx)
    have h2 := h s (List.mem_cons_self ..)
    rw [mu, List.length_cons, Nat.add_mul]
    split <;> omega
/-- What free holds. -/
structure FreP (l : List Lst) (F0 : List Int) (L : List Bool) (O F : List Int) : Prop where
  len : L.length = l.length
  nd : O.Nodup
  iff : ∀ x : Nat, x < l.length → (L[x]? = some true ↔ ((x : Nat) : Int) ∈ O)
  oin : ∀ y ∈ O, ∃ k : Nat, y = (k : Int) ∧ k < l.length ∧ Clo l (fun x => ((x : Nat) : Int) ∈ F0) k
  fin : ∀ y ∈ F, ∃ k : Nat, y = (k : Int) ∧ k < l.length ∧ Clo l (fun x => ((x : Nat) : Int) ∈ F0) k
  bas : ∀ y ∈ F0, y ∈ O ∨ y ∈ F
  cls : ∀ (k : Nat) s, ((k : Nat) : Int) ∈ O → l[k]? = some s → ∀ y ∈ s.free, y ∈ O ∨ y ∈ F
theorem FreP.start {l : List Lst} {F0 : List Int} (h : ∀ y ∈ F0, ∃ k : Nat, y = (k : Int) ∧ k < l.length) : FreP l F0 (List.replicate l.length false) [] F0 := by
  refine ⟨by simp, List.Pairwise.nil, fun x hx => ?_, fun y hy => absurd hy List.not_mem_nil, fun y hy => ?_, fun y hy => .inr hy, fun k s hk => absurd hk List.not_mem_nil⟩
  · rw [List.getElem?_replicate, if_pos hx]
    exact ⟨fun h => (by cases h), fun h => absurd h List.not_mem_nil⟩
  · obtain ⟨k, rfl, hk⟩ := h y hy
    exact ⟨k, rfl, hk, .base hy⟩
theorem FreP.skip {l : List Lst} {F0 O F : List Int} {L : List Bool} {x : Nat} (h : FreP l F0 L O (F ++ [(x : Int)])) (hx : L[x]? = some true) : FreP l F0 L O F := by
  have hxl : x < l.length := by rw [← h.len]; exact (List.getElem?_eq_some_iff.1 hx).1
  have hxO := (h.iff x hxl).1 hx
  have key : ∀ y, y ∈ O ∨ y ∈ F ++ [(x : Int)] → y ∈ O ∨ y ∈ F := fun y hy => by
    rcases hy with hy | hy
    · exact .inl hy
    · rcases List.mem_append.1 hy with hy | hy
      · exact .inr hy
      · rw [List.mem_singleton.1 hy]; exact .inl hxO
  exact ⟨h.len, h.nd, h.iff, h.oin, fun y hy => h.fin y (List.mem_append_left _ hy), fun y hy => key y (h.bas y hy), fun k s hk hs y hy => key y (h.cls k s hk hs y hy)⟩
theorem FreP.take {l : List Lst} {F0 O F : List Int} {L : List Bool} {x : Nat} {s : Lst} (hg : LGood l) (h : FreP l F0 L O (F ++ [(x : Int)])) (hx : L[x]? = some false) (hs : l[x]? = some s) : FreP l F0 (L.set x true) (O ++ [(x : Int)]) (F ++ s.free) := by
  have hxl : x < L.length := (List.getElem?_eq_some_iff.1 hx).1
  have hxn : x < l.length := by rw [← h.len]; exact hxl
  have hxO : ((x : Nat) : Int) ∉ O := fun hm => by
    have := (h.iff x hxn).2 hm
    rw [hx] at this
    cases this
  have hclo : Clo l (fun x => ((x : Nat) : Int) ∈ F0) x := by
    obtain ⟨k, hk, _, hc⟩ := h.fin (x : Int) (List.mem_append_right _ (List.mem_singleton.2 rfl))
    have : x = k := by omega
    rw [this]
    exact hc
  have key : ∀ y, y ∈ O ∨ y ∈ F ++ [(x : Int)] → y ∈ O ++ [(x : Int)] ∨ y ∈ F ++ s.free := fun y hy => by
    rcases hy with hy | hy
    · exact .inl (List.mem_append_left _ hy)
    · rcases List.mem_append.1 hy with hy | hy
      · exact .inr (List.mem_append_left _ hy)
      · exact .inl (List.mem_append_right _ hy)
  refine ⟨by rw [List.length_set]; exact h.len, ?_, fun y hy => ?_, fun y hy => ?_, fun y hy => ?_, fun y hy => key y (h.bas y hy), fun k s' hk hs' y hy => ?_⟩
  · refine List.nodup_append.2 ⟨h.nd, List.pairwise_singleton _ _, fun a ha b hb => ?_⟩
    rw [List.mem_singleton.1 hb]
    exact fun e => hxO (by rw [← e]; exact ha)
  · rw [List.getElem?_set]
    by_cases e : x = y
    · subst e
      rw [if_pos rfl, if_pos hxl]
      exact ⟨fun _ => List.mem_append_right _ (List.mem_singleton.2 rfl), fun _ => rfl⟩
    · rw [if_neg e, h.iff y hy]
      constructor
      · exact fun hm => List.mem_append_left _ hm
      · intro hm
        rcases List.mem_append.1 hm with hm | hm
        · exact hm
        · have := List.mem_singleton.1 hm; omega
  · rcases List.mem_append.1 hy with hy | hy
    · exact h.oin y hy
    · rw [List.mem_singleton.1 hy]
      exact ⟨x, rfl, hxn, hclo⟩
  · rcases List.mem_append.1 hy with hy | hy
    · exact h.fin y (List.mem_append_left _ hy)
    · have hb := hg.fre s (List.mem_of_getElem? hs) y hy
      refine ⟨y.toNat, by omega, by omega, .step hclo hs ?_⟩
      rw [show ((y.toNat : Nat) : Int) = y by omega]
      exact hy
  · rcases List.mem_append.1 hk with hk | hk
    · exact key y (h.cls k s' hk hs' y hy)
    · have : k = x := by have := List.mem_singleton.1 hk; omega
      subst this
      rw [hs] at hs'
      injection hs' with hs'
      subst hs'
      exact .inr (List.mem_append_right _ hy)
theorem FreP.last {l : List Lst} {F0 O : List Int} {L : List Bool} (h : FreP l F0 L O []) : sorted O = setL l.length (Clo l fun x => ((x : Nat) : Int) ∈ F0) := by
  refine lt_ext (sorted_lt h.nd) (setL_lt _ _) fun z => ?_
  rw [sorted_mem, setL_mem]
  constructor
  · intro hz
    obtain ⟨k, h1, h2, h3⟩ := h.oin z hz
    exact ⟨k, h1, h2, h3⟩
  · rintro ⟨k, rfl, hk, hc⟩
    have : ∀ x, Clo l (fun x => ((x : Nat) : Int) ∈ F0) x → ((x : Nat) : Int) ∈ O := by
      intro x hx
      induction hx with
      | base hb =>
        rcases h.bas _ hb with h1 | h1
        · exact h1
        · exact absurd h1 List.not_mem_nil
      | step _ hs hx ih =>
        rcases h.cls _ _ ih hs _ hx with h1 | h1
        · exact h1
        · exact absurd h1 List.not_mem_nil
    exact this k hc
theorem FreP.few {l : List Lst} {F0 O F : List Int} {L : List Bool} (h : FreP l F0 L O F) : O.length ≤ l.length := by
  have h1 : ∀ z, z ∈ sorted O → ∃ x : Nat, z = (x : Int) ∧ x < l.length := fun z hz => by
    obtain ⟨k, h1, h2, _⟩ := h.oin z ((sorted_mem O z).1 hz)
    exact ⟨k, h1, h2⟩
  have h2 : sorted O = setL l.length fun x => ((x : Nat) : Int) ∈ O := by
    refine lt_ext (sorted_lt h.nd) (setL_lt _ _) fun z => ?_
    rw [sorted_mem, setL_mem]
    constructor
    · intro hz
      obtain ⟨k, e, hk⟩ := h1 z ((sorted_mem O z).2 hz)
      exact ⟨k, e, hk, by rw [← e]; exact hz⟩
    · rintro ⟨k, rfl, _, hm⟩
      exact hm
  have h3 := setL_len l.length fun x => ((x : Nat) : Int) ∈ O
  rw [← h2, sorted_len] at h3
  exact h3
end Go.Proofs.YtebdffabfimmkaaDoor
