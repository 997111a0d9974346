/- Loose states in memory; dfa.loose. -/
import Derived.Test.YtclahhkcbkpofaaDoorHWild12
import Derived.Test.YtclahhkcbkpofaaDoorHWild11
import Derived.Test.YtclahhkcbkpofaaDoorHWild8
namespace Go.Proofs.YtclahhkcbkpofaaDoor
open Go.RowKit

/-- A loose state. -/
structure Lst where
  fin : Bool
  arcs : List Arc3
  free : List Int
def okArc (n : Nat) (a : Arc3) : Bool := decide (0 ≤ a.1 ∧ a.1 ≤ a.2.1 ∧ a.2.1 ≤ 255 ∧ 0 ≤ a.2.2 ∧ a.2.2 < (n : Int))
def okTo (n : Nat) (t : Int) : Bool := decide (0 ≤ t ∧ t < (n : Int))
def looseB (l : List Lst) : Bool := !l.isEmpty && l.all fun s => s.arcs.all (okArc l.length) && s.free.all (okTo l.length)
/-- .. and where its arcs and its free steps lie. -/
structure Lsh where
  d : Lst
  A : Option Addr
  c : Nat
  F : Option Addr
  e : Nat
def Lsh.hdr (x : Lsh) : List Value := [.bool x.d.fin, .slice x.A x.d.arcs.length x.c, .slice x.F x.d.free.length x.e]
structure LoIn (w : World) (B : Nat) (A : Option Addr) (n c : Nat) (H : List Lsh) : Prop where
  len : H.length = n
  sl : Sl w B 3 A n (H.flatMap Lsh.hdr)
  nc : n ≤ c
  cm : n ≤ 2097152
  ar : ∀ x ∈ H, Sl w B 3 x.A x.d.arcs.length (arcsC x.d.arcs) ∧ x.d.arcs.length ≤ x.c ∧ x.d.arcs.length ≤ 2097152
  fr : ∀ x ∈ H, Sl w B 1 x.F x.d.free.length (x.d.free.map (.int .i64)) ∧ x.d.free.length ≤ x.e ∧ x.d.free.length ≤ 2097152 ∧ (x.F = none → x.d.free.length = 0)
section
variable {w w' : World} {B B' : Nat} {A : Option Addr} {n c : Nat} {H : List Lsh}
theorem LoIn.keep (h : LoIn w B A n c H) (hb : Below B w w') (hB : B ≤ B') : LoIn w' B' A n c H :=
  ⟨h.len, (h.sl.below hb).more hB, h.nc, h.cm, fun x hx => ⟨((h.ar x hx).1.below hb).more hB, (h.ar x hx).2⟩, fun x hx => ⟨((h.fr x hx).1.below hb).more hB, (h.fr x hx).2⟩⟩
theorem LoIn.at_ (h : LoIn w B A n c H) (hn : 0 < n) : ∃ b off, A = some ⟨b, off, none⟩ ∧ b < B ∧ ∀ k x, H[k]? = some x → w.cell? ⟨b, off + k * 3, none⟩ = some (.bool x.d.fin) ∧ w.cell? ⟨b, off + k * 3 + 1, none⟩ = some (.slice x.A x.d.arcs.length x.c) ∧ w.cell? ⟨b, off + k * 3 + 2, none⟩ = some (.slice x.F x.d.free.length x.e) := by
  obtain ⟨b, off, hA, hb, hc⟩ := h.sl.at_ hn
  refine ⟨b, off, hA, hb, fun k e he => ?_⟩
  have g : ∀ j u, e.hdr[j]? = some u → j < 3 → w.cell? ⟨b, off + (k * 3 + j), none⟩ = some u := fun j u hu hj =>
    hc _ _ (by rw [flat_at Lsh.hdr 3 (fun _ => rfl) H k j e he hj]; exact hu)
  exact ⟨g 0 _ rfl (by omega), by have := g 1 _ rfl (by omega); rwa [← Nat.add_assoc] at this, by have := g 2 _ rfl (by omega); rwa [← Nat.add_assoc] at this⟩
theorem LoIn.arcs (h : LoIn w B A n c H) {x : Lsh} (hx : x ∈ H) : ArcsIn w B x.A x.d.arcs.length x.c x.d.arcs := ⟨rfl, (h.ar x hx).1, by have := (h.ar x hx).2.2; omega⟩
theorem LoIn.frees (h : LoIn w B A n c H) {x : Lsh} (hx : x ∈ H) (hn : 0 < x.d.free.length) : ∃ b off, x.F = some ⟨b, off, none⟩ ∧ b < B ∧ ∀ k z, x.d.free[k]? = some z → w.cell? ⟨b, off + k, none⟩ = some (.int .i64 z) := by
  obtain ⟨b, off, hA, hb, hc⟩ := (h.fr x hx).1.at_ hn
  exact ⟨b, off, hA, hb, fun k z hz => hc k _ (by rw [List.getElem?_map, hz]; rfl)⟩
end
set_option maxRecDepth 100000 in
set_option maxHeartbeats 8000000 in
theorem loose_any (w : World) (B : Nat) (hB : B ≤ w.heap.size) (A : Option Addr) (n c : Nat) (H : List Lsh) (h : LoIn w B A n c H) :
    Calls Tryd.prog 37 #[.slice A n c] w fun e w' => e = .returned (.bool (looseB (H.map (·.d)))) ∧ Below w.heap.size w w' := by
  have HS := Lib.hid h
  have hlen := h.len
  have hcm := h.cm
  clear h
  go_enter Tryd.func37, Tryd.ntmps37
  go_wp2_with fail
  have HBAD : Hid (∀ x ∈ H, (x.d.arcs.all (okArc n) && x.d.free.all (okTo n)) = false → looseB (H.map (·.d)) = false) := fun x hx hf => by
    unfold looseB
    have : (H.map (·.d)).all (fun s => s.arcs.all (okArc (H.map (·.d)).length) && s.free.all (okTo (H.map (·.d)).length)) = false := by
      rw [List.all_eq_false]
      refine ⟨x.d, List.mem_map_of_mem hx, ?_⟩
      rw [List.length_map, hlen, hf]
      simp
    rw [this, Bool.and_false]
  go_loopw [11] (fun iv wr => ∃ k : Nat, k ≤ n ∧ iv = .int .i64 k ∧ Hid (∀ x ∈ H.take k, (x.d.arcs.all (okArc n) && x.d.free.all (okTo n)) = true) ∧ Hid (Below w.heap.size w wr)) (fun iv _ => n - (intOf iv).toNat)
  case atStart => exact ⟨0, Nat.zero_le _, rfl, fun x hx => by simp at hx, brefl w⟩
  case round =>
    obtain ⟨k, hk, rfl, HK, HB⟩ := hrel
    by_cases hlt : k < n
    · have HW := Lib.hid (HS.out.keep (HB.out.mono hB) (Nat.le_refl _))
      obtain ⟨b, off, rfl, hb, hcell⟩ := HW.out.at_ (by omega)
      obtain ⟨x, hx⟩ : ∃ x, H[k]? = some x := ⟨H[k]'(by omega), List.getElem?_eq_getElem _⟩
      obtain ⟨k0, k1, k2⟩ := hcell k x hx
      have hbw : b < wr.heap.size := Nat.lt_of_lt_of_le hb (Nat.le_trans hB HB.out.size)
      have hxm := List.mem_of_getElem? hx
      obtain ⟨m, hm⟩ : ∃ m, x.d.arcs.length = m := ⟨_, rfl⟩
      obtain ⟨q, hq⟩ : ∃ m, x.d.free.length = m := ⟨_, rfl⟩
      have hma := (HS.out.ar x hxm).2
      have hmf := (HS.out.fr x hxm).2
      rw [hm] at k1 hma
      rw [hq] at k2 hmf
      obtain ⟨hmc, hm20⟩ := hma
      obtain ⟨hqc, hq20, _⟩ := hmf
      have HM := Lib.hid hm
      have HQ := Lib.hid hq
      have HXM := Lib.hid hxm
      have HXK := Lib.hid hx
      clear hcell hx hxm hm hq
      go_wp2_with fail
      have HB1 := Lib.hid (bnew HB.out (.cells #[.bool x.d.fin, .slice x.A m x.c, .slice x.F q x.e] 25))
      have HC1 := Lib.hid (heap_alloc_new wr (.cells #[.bool x.d.fin, .slice x.A m x.c, .slice x.F q x.e] 25))
      clear k0 k1 k2 hbw HW
      generalize wr.heap.size = sp at *
      go_loopw [18] (fun jv wj => ∃ j : Nat, j ≤ m ∧ jv = .int .i64 j ∧ Hid ((x.d.arcs.take j).all (okArc n) = true) ∧ Hid (wj.heap[sp]? = some (.cells #[.bool x.d.fin, .slice x.A m x.c, .slice x.F q x.e] 25 (0, 0))) ∧ Hid (Below w.heap.size w wj)) (fun jv _ => m - (intOf jv).toNat)
      case atStart => exact ⟨0, Nat.zero_le _, rfl, rfl, HC1, HB1⟩
      case round =>
        clear HB1 HC1
        obtain ⟨j, hj, rfl, HO, HC, HBJ⟩ := hrel
        by_cases hjm : j < m
        · have HWJ := HS.out.keep (HBJ.out.mono hB) (Nat.le_refl _)
          obtain ⟨ab, aoff, hxA, hab, hac⟩ := (HWJ.arcs HXM.out).at_ (by rw [HM.out]; omega)
          obtain ⟨a, ha⟩ : ∃ a, x.d.arcs[j]? = some a := ⟨x.d.arcs[j]'(by rw [HM.out]; exact hjm), List.getElem?_eq_getElem _⟩
          obtain ⟨a0, a1, a2⟩ := hac j a ha
          have habw : ab < wr.heap.size := Nat.lt_of_lt_of_le hab (Nat.le_trans hB HBJ.out.size)
          have HTK : Hid (x.d.arcs.take (j + 1) = x.d.arcs.take j ++ [a]) := by show _ = _; rw [List.take_add_one, ha]; rfl
          have HBN := Lib.hid (bnew HBJ.out (.cells #[.int .i64 a.1, .int .i64 a.2.1, .int .i64 a.2.2] 63))
          have HCN : Hid ((wr.alloc (.cells #[.int .i64 a.1, .int .i64 a.2.1, .int .i64 a.2.2] 63)).heap[sp]? = some (.cells #[.bool x.d.fin, .slice x.A m x.c, .slice x.F q x.e] 25 (0, 0))) := ((bnew (brefl wr) _).block _ (Array.getElem?_eq_some_iff.1 HC.out).1).trans HC.out
          have HFL : Hid (okArc n a = false → looseB (H.map (·.d)) = false) := fun hf => HBAD.out x HXM.out (by
            have : x.d.arcs.all (okArc n) = false := List.all_eq_false.2 ⟨a, List.mem_of_getElem? ha, by rw [hf]; simp⟩
            rw [this, Bool.false_and])
          rw [hxA]
          rw [hxA] at HCN
          clear hac HWJ ha
          obtain ⟨lo, hi, tt⟩ := a
          simp only at a0 a1 a2 HBN HCN
          by_cases c1 : lo < 0
          · have p1 : decide (lo < 0) = true := decide_eq_true c1
            have HF := Lib.hid (HFL.out (decide_eq_false (by show ¬ (0 ≤ lo ∧ _); omega)))
            clear c1
            go_wp2_with fail
            go_ret
            exact ⟨by rw [HF.out]; rfl, HBN.out⟩
          have p1 : decide (lo < 0) = false := decide_eq_false c1
          by_cases c2 : hi < lo
          · have p2 : decide (hi < lo) = true := decide_eq_true c2
            have HF := Lib.hid (HFL.out (decide_eq_false (by show ¬ (0 ≤ lo ∧ lo ≤ hi ∧ _); omega)))
            clear c1 c2
            go_wp2_with fail
            go_ret
            exact ⟨by rw [HF.out]; rfl, HBN.out⟩
          have p2 : decide (hi < lo) = false := decide_eq_false c2
          by_cases c3 : 255 < hi
          · have p3 : decide (hi > 255) = true := decide_eq_true c3
            have HF := Lib.hid (HFL.out (decide_eq_false (by show ¬ (0 ≤ lo ∧ lo ≤ hi ∧ hi ≤ 255 ∧ _); omega)))
            clear c1 c2 c3
            go_wp2_with fail
            go_ret
            exact ⟨by rw [HF.out]; rfl, HBN.out⟩
          have p3 : decide (hi > 255) = false := decide_eq_false c3
          by_cases c4 : tt < 0
          · have p4 : decide (tt < 0) = true := decide_eq_true c4
            have HF := Lib.hid (HFL.out (decide_eq_false (by show ¬ (0 ≤ lo ∧ lo ≤ hi ∧ hi ≤ 255 ∧ 0 ≤ tt ∧ _); omega)))
            clear c1 c2 c3 c4
            go_wp2_with fail
            go_ret
            exact ⟨by rw [HF.out]; rfl, HBN.out⟩
          have p4 : decide (tt < 0) = false := decide_eq_false c4
          by_cases c5 : (n : Int) ≤ tt
          · have p5 : decide (tt ≥ (n : Int)) = true := decide_eq_true c5
            have HF := Lib.hid (HFL.out (decide_eq_false (by show ¬ (0 ≤ lo ∧ lo ≤ hi ∧ hi ≤ 255 ∧ 0 ≤ tt ∧ tt < (n : Int)); omega)))
            clear c1 c2 c3 c4 c5
            go_wp2_with fail
            go_ret
            exact ⟨by rw [HF.out]; rfl, HBN.out⟩
          have p5 : decide (tt ≥ (n : Int)) = false := decide_eq_false c5
          have HON : Hid ((x.d.arcs.take (j + 1)).all (okArc n) = true) := by
            show _ = _
            rw [HTK.out, List.all_append, HO.out, Bool.true_and, List.all_cons, List.all_nil, Bool.and_true]
            exact decide_eq_true (by show 0 ≤ lo ∧ lo ≤ hi ∧ hi ≤ 255 ∧ 0 ≤ tt ∧ tt < (n : Int); omega)
          clear c1 c2 c3 c4 c5
          go_wp2_with fail
          go_roundw
          case rel => exact ⟨j + 1, by omega, by go_num, HON, HCN, HBN⟩
          case measure => simp [intOf]; omega
        · obtain rfl : m = j := by omega
          have HAR : Hid (x.d.arcs.all (okArc n) = true) := by
            have := HO.out
            rw [List.take_of_length_le (by rw [HM.out]; exact Nat.le_refl _)] at this
            exact this
          have c2 := cell_of_row _ sp 2 _ _ (0, 0) HC.out
          have hsl := (Array.getElem?_eq_some_iff.1 HC.out).1
          simp at c2
          clear HO
          go_wp2_with fail
          go_loopw [53] (fun jv wj => ∃ j : Nat, j ≤ q ∧ jv = .int .i64 j ∧ Hid ((x.d.free.take j).all (okTo n) = true) ∧ Hid (Below w.heap.size w wj)) (fun jv _ => q - (intOf jv).toNat)
          case atStart => exact ⟨0, Nat.zero_le _, rfl, rfl, HBJ⟩
          case round =>
            clear HBJ HC c2 hsl
            obtain ⟨j, hj, rfl, HO, HBJ⟩ := hrel
            by_cases hjm : j < q
            · have HWJ := HS.out.keep (HBJ.out.mono hB) (Nat.le_refl _)
              obtain ⟨ab, aoff, hxA, hab, hac⟩ := HWJ.frees HXM.out (by rw [HQ.out]; omega)
              obtain ⟨tt, ha⟩ : ∃ a, x.d.free[j]? = some a := ⟨x.d.free[j]'(by rw [HQ.out]; exact hjm), List.getElem?_eq_getElem _⟩
              have a0 := hac j tt ha
              have habw : ab < wr.heap.size := Nat.lt_of_lt_of_le hab (Nat.le_trans hB HBJ.out.size)
              have HTK : Hid (x.d.free.take (j + 1) = x.d.free.take j ++ [tt]) := by show _ = _; rw [List.take_add_one, ha]; rfl
              have HFL : Hid (okTo n tt = false → looseB (H.map (·.d)) = false) := fun hf => HBAD.out x HXM.out (by
                have : x.d.free.all (okTo n) = false := List.all_eq_false.2 ⟨tt, List.mem_of_getElem? ha, by rw [hf]; simp⟩
                rw [this, Bool.and_false])
              rw [hxA]
              clear hac HWJ ha
              by_cases c4 : tt < 0
              · have p4 : decide (tt < 0) = true := decide_eq_true c4
                have HF := Lib.hid (HFL.out (decide_eq_false (by show ¬ (0 ≤ tt ∧ _); omega)))
                clear c4
                go_wp2_with fail
                go_ret
                exact ⟨by rw [HF.out]; rfl, HBJ.out⟩
              have p4 : decide (tt < 0) = false := decide_eq_false c4
              by_cases c5 : (n : Int) ≤ tt
              · have p5 : decide (tt ≥ (n : Int)) = true := decide_eq_true c5
                have HF := Lib.hid (HFL.out (decide_eq_false (by show ¬ (0 ≤ tt ∧ tt < (n : Int)); omega)))
                clear c4 c5
                go_wp2_with fail
                go_ret
                exact ⟨by rw [HF.out]; rfl, HBJ.out⟩
              have p5 : decide (tt ≥ (n : Int)) = false := decide_eq_false c5
              have HON : Hid ((x.d.free.take (j + 1)).all (okTo n) = true) := by
                show _ = _
                rw [HTK.out, List.all_append, HO.out, Bool.true_and, List.all_cons, List.all_nil, Bool.and_true]
                exact decide_eq_true (by show 0 ≤ tt ∧ tt < (n : Int); omega)
              clear c4 c5
              go_wp2_with fail
              go_roundw
              case rel => exact ⟨j + 1, by omega, by go_num, HON, HBJ⟩
              case measure => simp [intOf]; omega
            · obtain rfl : q = j := by omega
              have HFR : Hid (x.d.free.all (okTo n) = true) := by
                have := HO.out
                rw [List.take_of_length_le (by rw [HQ.out]; exact Nat.le_refl _)] at this
                exact this
              have HKN : Hid (∀ y ∈ H.take (k + 1), (y.d.arcs.all (okArc n) && y.d.free.all (okTo n)) = true) := fun y hy => by
                rw [List.take_add_one, HXK.out] at hy
                rcases List.mem_append.1 hy with hy | hy
                · exact HK.out y hy
                · have : y = x := by simpa using hy
                  rw [this, HAR.out, HFR.out]
                  rfl
              clear HO
              go_wp2_with fail
              go_roundw
              case rel => exact ⟨k + 1, by omega, by go_num, HKN, HBJ⟩
              case measure => simp [intOf]; omega
    · obtain rfl : n = k := by omega
      have hall : H.take n = H := List.take_of_length_le (by omega)
      rw [hall] at HK
      have HE : Hid (looseB (H.map (·.d)) = decide (0 < n)) := by
        show _ = _
        unfold looseB
        have : (H.map (·.d)).all (fun s => s.arcs.all (okArc (H.map (·.d)).length) && s.free.all (okTo (H.map (·.d)).length)) = true := by
          rw [List.all_eq_true]
          intro s hs
          obtain ⟨y, hy, rfl⟩ := List.mem_map.1 hs
          rw [List.length_map, hlen]
          exact HK.out y hy
        rw [this, Bool.and_true]
        cases hH : H with
        | nil => rw [hH] at hlen; rw [← hlen]; rfl
        | cons y r => rw [hH] at hlen; rw [← hlen]; simp
      clear hall
      have q1 : decide ((n : Int) > 0) = decide (0 < n) := decide_eq_decide.2 (by omega)
      go_wp2_with fail
      go_ret
      exact ⟨by rw [HE.out]; first | rfl | (simp; done), HB.out⟩
end Go.Proofs.YtclahhkcbkpofaaDoor
/- strings.Builder: WriteByte at this program. -/
namespace Go.Proofs.YtclahhkcbkpofaaDoor
open Go.RowKit Go.Shelf

theorem el_u8 : Elem Tryd.prog 91 5 1 1 := Elem.mk_ Tryd.underlying91 (z := .int .u8 0) (by kernel_rfl) rfl (by omega)
set_option maxRecDepth 100000 in
set_option maxHeartbeats 4000000 in
theorem writeb_any (B b : Nat) (bs : List Value) (ch : Int) (w : World) (h : Lib.IsBuilder 93 5 B b bs w) (hlen : bs.length + 1 ≤ 1407374883553) (hBw : B ≤ w.heap.size) :
    Calls Tryd.prog 57 #[.pointer (some ⟨b, 0, none⟩), .int .u8 ch] w fun e w' => e = .returned .nilIface ∧ (Lib.IsBuilder 93 5 B b (bs ++ [.int .u8 ch]) w' ∧ Below B w w' ∧ OthersStand b w w') := by
  go_enter Tryd.func57, Tryd.ntmps57
  go_wp2_with fail
  refine (check_any B b bs _ h).mono ?_
  rintro e w1 ⟨rfl, h1, hb1, ho1⟩
  obtain ⟨hB, v, hbk, hown, hne⟩ := h1
  have c0 : w1.cell? ⟨b, 0, none⟩ = some (.pointer (some ⟨b, 0, none⟩)) := by rw [Lib.cell_of_heap hbk]; rfl
  have c1 : w1.cell? ⟨b, 1, none⟩ = some v := by rw [Lib.cell_of_heap hbk]; rfl
  have hlt : b < w1.heap.size := by
    rcases Nat.lt_or_ge b w1.heap.size with h' | h'
    · exact h'
    · simp [Array.getElem?_eq_none h'] at hbk
  have hbw1 : B ≤ w1.heap.size := Nat.le_trans hBw hb1.size
  obtain ⟨A1, cap1, rfl, _⟩ := own_shape hown
  have hkeep : ∀ w2 : World, w1.grownBy w2 (Value.slice A1 bs.length cap1).ownBlock → w2.heap[b]? = some (.cells #[.pointer (some ⟨b, 0, none⟩), .slice A1 bs.length cap1] 93 (0, 0)) := fun w2 hg => by
    rw [hg.block b hlt (fun e => hne e.symm)]
    exact hbk
  go_wp2_with (at_builtin; refine wpList_push w1 w1 _ rfl _ _ _ rfl el_u8 (.slice A1 bs.length cap1) bs.length bs rfl hown rfl (by simp) rfl (by simp [Value.oneCell']) (by unfold maxLen; omega) (by omega) hbw1 (Below.refl _ _) ?_; intro v' w2 hown' hb2' hgrow _; obtain ⟨A2, cap2, rfl, _⟩ := own_shape hown'; have hb2 := hkeep w2 hgrow; have d1 : w2.cell? ⟨b, 1, none⟩ = some (.slice A1 bs.length cap1) := (Lib.cell_of_heap hb2 1).trans rfl; have f1 : w2.frozen? ⟨b, 1, none⟩ = false := Lib.frozen_of_heap hb2 1)
  go_ret
  refine ⟨rfl, .inr ?_, ?_, ?_⟩
  · exact Lib.BuilderAt.put (T := 93) (e := 5) hB hb2 (bs' := bs ++ [.int .u8 ch]) (by simpa using hown') (by decide)
  · exact (hb1.trans hb2').setCell (p := ⟨b, 1, none⟩) hB _
  · refine ho1.trans fun k cs t f h1 h2 h3 => ?_
    rw [Below.heap_setCell _ _ _ _ h1, hgrow.block k (Array.getElem?_eq_some_iff.1 h3).1 ?_]
    · exact h3
    · intro e
      rcases hown.2 with ⟨hv, _⟩ | ⟨g, cap', cur, hv, _, hg, _⟩
      · injection hv with hv _ _
        subst hv
        cases e
      · injection hv with hv _ _
        subst hv
        simp only [Value.ownBlock, Option.some.injEq] at e
        subst e
        rw [hg] at h3
        injection h3 with h3
        injection h3 with _ h3 _
        exact h2 h3.symm
end Go.Proofs.YtclahhkcbkpofaaDoor
