/- Characters as bytes: the plain text, and the contract of utf.Whole and utf.Encode. -/
import Derived.Test.YtnccbmbicgkhmaaMore
import Derived.Test.YtnccbmbicgkhmaaProg
namespace Go.Proofs.Ytnccbmbicgkhmaa
open Go.RowKit

def wholeB (c : Int) : Bool := decide (0 ≤ c ∧ c ≤ 1114111 ∧ (c < 55296 ∨ 57343 < c))
theorem wholeB_yes {c : Int} (h : 0 ≤ c ∧ c ≤ 1114111 ∧ (c < 55296 ∨ 57343 < c)) : wholeB c = true := decide_eq_true h
theorem wholeB_no {c : Int} (h : ¬ (0 ≤ c ∧ c ≤ 1114111 ∧ (c < 55296 ∨ 57343 < c))) : wholeB c = false := decide_eq_false h
theorem whole_of {c : Int} (h : wholeB c = true) : 0 ≤ c ∧ c ≤ 1114111 ∧ (c < 55296 ∨ 57343 < c) := of_decide_eq_true h
/-- The bytes of a character. -/
def encC (c : Int) : List Int :=
  if c < 128 then [c] else if c < 2048 then [192 + c / 64, 128 + c % 64] else if c < 65536 then [224 + c / 4096, 128 + c / 64 % 64, 128 + c % 64]
  else [240 + c / 262144, 128 + c / 4096 % 64, 128 + c / 64 % 64, 128 + c % 64]
def encL (l : List Int) : List Int := l.flatMap encC
theorem encL_snoc (l : List Int) (c : Int) : encL (l ++ [c]) = encL l ++ encC c := by simp [encL]
theorem encC_len (c : Int) : 1 ≤ (encC c).length ∧ (encC c).length ≤ 4 := by
  unfold encC
  split
  · simp
  · split
    · simp
    · split <;> simp
theorem encL_len (l : List Int) : (encL l).length ≤ 4 * l.length := by
  unfold encL
  induction l with
  | nil => simp
  | cons c l ih =>
    have := (encC_len c).2
    rw [List.flatMap_cons, List.length_append, List.length_cons]
    omega

set_option maxHeartbeats 1000000 in
theorem whole_any (c : Int) (w : World) : Calls Try.prog 20 #[.int .i64 c] w fun e w' => e = .returned (.bool (wholeB c)) ∧ w = w' := by
  by_cases h : 0 ≤ c ∧ c ≤ 1114111 ∧ (c < 55296 ∨ 57343 < c)
  · rw [wholeB_yes h]
    obtain ⟨h1, h2, h3⟩ := h
    by_cases h4 : c < 55296
    all_goals
      have q : 57343 < c ∨ c < 55296 := by omega
      go_enter Try.func20, Try.ntmps20
      go_wp2
      go_ret
      refine ⟨ret_bool ?_, rfl⟩
      simp
      try omega
  · rw [wholeB_no h]
    go_enter Try.func20, Try.ntmps20
    go_wp2
    all_goals
      go_ret
      refine ⟨ret_bool ?_, rfl⟩
      simp
      try omega

theorem el_u8 : Elem Try.prog 54 5 1 1 := Elem.mk_ Try.underlying54 (z := .int .u8 0) (by kernel_rfl) rfl (by omega)

/-- The walk's own spelling of a character's bytes. -/
theorem b2 {c : Int} (h0 : 128 ≤ c) (h1 : c < 2048) : bits .or .i64 192 (c / 64) % 256 = 192 + c / 64 ∧ bits .or .i64 128 (bits .and .i64 c 63) % 256 = 128 + c % 64 := by
  have a := and_low 6 (by omega) c (by omega) (by omega)
  have b := or_join 6 128 (c % 64) (by omega) (by decide) (by omega) (by omega) (by omega) (by omega)
  have d := or_join 6 192 (c / 64) (by omega) (by decide) (by omega) (by omega) (by omega) (by omega)
  simp only [Int.reducePow, Int.reduceSub] at a
  rw [a, b, d]
  omega
theorem b3 {c : Int} (h0 : 2048 ≤ c) (h1 : c < 65536) : bits .or .i64 224 (c / 4096) % 256 = 224 + c / 4096 ∧ bits .or .i64 128 (bits .and .i64 (c / 64) 63) % 256 = 128 + c / 64 % 64 ∧ bits .or .i64 128 (bits .and .i64 c 63) % 256 = 128 + c % 64 := by
  have a := and_low 6 (by omega) c (by omega) (by omega)
  have a2 := and_low 6 (by omega) (c / 64) (by omega) (by omega)
  have b := or_join 6 128 (c % 64) (by omega) (by decide) (by omega) (by omega) (by omega) (by omega)
  have b2 := or_join 6 128 (c / 64 % 64) (by omega) (by decide) (by omega) (by omega) (by omega) (by omega)
  have d := or_join 5 224 (c / 4096) (by omega) (by decide) (by omega) (by omega) (by omega) (by omega)
  simp only [Int.reducePow, Int.reduceSub] at a a2
  rw [a, b, a2, b2, d]
  omega
theorem b4 {c : Int} (h0 : 65536 ≤ c) (h1 : c ≤ 1114111) : bits .or .i64 240 (c / 262144) % 256 = 240 + c / 262144 ∧ bits .or .i64 128 (bits .and .i64 (c / 4096) 63) % 256 = 128 + c / 4096 % 64 ∧ bits .or .i64 128 (bits .and .i64 (c / 64) 63) % 256 = 128 + c / 64 % 64 ∧ bits .or .i64 128 (bits .and .i64 c 63) % 256 = 128 + c % 64 := by
  have a := and_low 6 (by omega) c (by omega) (by omega)
  have a2 := and_low 6 (by omega) (c / 64) (by omega) (by omega)
  have a3 := and_low 6 (by omega) (c / 4096) (by omega) (by omega)
  have b := or_join 6 128 (c % 64) (by omega) (by decide) (by omega) (by omega) (by omega) (by omega)
  have b2 := or_join 6 128 (c / 64 % 64) (by omega) (by decide) (by omega) (by omega) (by omega) (by omega)
  have b3 := or_join 6 128 (c / 4096 % 64) (by omega) (by decide) (by omega) (by omega) (by omega) (by omega)
  have d := or_join 4 240 (c / 262144) (by omega) (by decide) (by omega) (by omega) (by omega) (by omega)
  simp only [Int.reducePow, Int.reduceSub] at a a2 a3
  rw [a, b, a2, b2, a3, b3, d]
  omega
def encOk (l : List Int) : Bool := l.all wholeB
def encS (l : List Int) : ByteArray := if encOk l then strOfNums (encL l) else ByteArray.empty
def encE (l : List Int) : Int := if encOk l then 0 else 1

theorem take_snoc' {l : List Int} {k : Nat} {c : Int} (h : l[k]? = some c) : l.take (k + 1) = l.take k ++ [c] := by
  obtain ⟨hk, rfl⟩ := List.getElem?_eq_some_iff.1 h
  rw [List.take_succ_eq_append_getElem hk]

/-- What the loop has done behind k characters. -/
def EncR (w : World) (l : List Int) (n : Nat) (v i : Value) (wr : World) : Prop :=
  ∃ k : Nat, k ≤ n ∧ i = .int .i64 k ∧ wr.ownsRow w.heap.size 5 1 v (encL (l.take k)).length ((encL (l.take k)).map (.int .u8)) ∧ Below w.heap.size w wr ∧ (l.take k).all wholeB = true
theorem EncR.step {w wr : World} {l : List Int} {n k : Nat} {v : Value} {c : Int} {bs : List Int} (hb : encC c = bs) (hk : k < n) (hc : l[k]? = some c) (hw : wholeB c = true) (ha : (l.take k).all wholeB = true)
    (hown : wr.ownsRow w.heap.size 5 1 v ((encL (l.take k)).length + bs.length) ((encL (l.take k)).map (.int .u8) ++ bs.map (.int .u8))) (hB : Below w.heap.size w wr) : EncR w l n v (.int .i64 ((k : Int) + 1)) wr := by
  subst hb
  refine ⟨k + 1, by omega, by go_num, ?_, hB, ?_⟩
  · rw [take_snoc' hc, encL_snoc, List.length_append, List.map_append]
    exact hown
  · rw [take_snoc' hc, List.all_append, ha, List.all_cons, hw]
    rfl
set_option maxRecDepth 100000 in
set_option maxHeartbeats 4000000 in
theorem encode_any (w : World) (A : Option Addr) (n cp : Nat) (l : List Int) (B : Nat) (hB : B ≤ w.heap.size) (hs : Sl w B 1 A n (l.map (.int .i64))) (hl : n ≤ 17592186044416) :
    Calls Try.prog 18 #[.slice A n cp] w fun e w' => e = .returned (.tuple #[.string (encS l), .int .i64 (encE l)]) ∧ Below w.heap.size w w' := by
  have hln : l.length = n := by have := hs.1; simpa using this
  go_enter Try.func18, Try.ntmps18
  go_wp2_with fail
  go_loopw [4, 10] (fun v i wr => EncR w l n v i wr) (fun _ i _ => n - (intOf i).toNat)
  case atStart => exact ⟨0, Nat.zero_le _, rfl, by simpa [encL] using own_lit w 5 1 rfl (Nat.le_refl _), bnew (brefl w) _, rfl⟩
  case round =>
    obtain ⟨k, hk, rfl, hown, hbl, hall⟩ := hrel
    by_cases hlt : k < n
    · obtain ⟨b, off, rfl, hbB, hcell⟩ := hs.at_ hlt
      obtain ⟨c, hc⟩ : ∃ c, l[k]? = some c := ⟨l[k], List.getElem?_eq_getElem (by omega)⟩
      have hcw : wr.cell? ⟨b, off + k, none⟩ = some (.int .i64 c) := (hbl.cell (p := ⟨b, off + k, none⟩) (by show b < _; omega)).trans (hcell k _ (by simp [hc]))
      have hw := Lib.hid (whole_any c)
      have hlen4 := encL_len (l.take k)
      rw [List.length_take] at hlen4
      have hsz := hbl.size
      have HB := Lib.hid hbl
      have HO := Lib.hid hown
      have HA := Lib.hid hall
      have HC := Lib.hid hc
      obtain ⟨hB2, hS2, hL2, hN2⟩ : (b < wr.heap.size) ∧ (w.heap.size ≤ wr.heap.size) ∧ ((encL (l.take k)).length ≤ 4 * k) ∧ k + 1 ≤ 17592186044416 := ⟨by omega, hsz, by omega, by omega⟩
      clear hcell hs hlen4 hsz hbl hown hall hc hl
      by_cases hwh : 0 ≤ c ∧ c ≤ 1114111 ∧ (c < 55296 ∨ 57343 < c)
      · have hy := Lib.hid (wholeB_yes hwh)
        obtain ⟨c0, c1, _⟩ := hwh
        by_cases c2 : c < 128
        · have eb := Lib.hid (show encC c = [c] by unfold encC; rw [if_pos c2])
          have e1 := Lib.hid (show c % 256 = c by omega)
          go_wp2_with (first
            | (go_at_call 20; refine (hw.out _).mono ?_; rw [hy.out]; rintro e w' ⟨rfl, rfl⟩)
            | (at_builtin; refine wpList_pushm w _ _ rfl _ _ _ rfl el_u8 _ _ _ rfl HO.out (m := 1) rfl rfl rfl (by simp [Value.oneCell']) (by unfold maxLen; omega) (by omega) hS2 HB.out ?_; intro v1 w1 hown1 hb1 _ _))
          go_roundw
          case rel => exact EncR.step eb.out hlt HC.out hy.out HA.out (by first | exact hown1 | (rw [e1.out] at hown1; exact hown1)) hb1
          case measure => simp [intOf]; omega
        by_cases c3 : c < 2048
        · have eb := Lib.hid (show encC c = [192 + c / 64, 128 + c % 64] by unfold encC; rw [if_neg c2, if_pos c3])
          have e1 := Lib.hid (b2 (c := c) (by omega) (by omega))
          go_wp2_with (first
            | (go_at_call 20; refine (hw.out _).mono ?_; rw [hy.out]; rintro e w' ⟨rfl, rfl⟩)
            | (at_builtin; refine wpList_pushm w _ _ rfl _ _ _ rfl el_u8 _ _ _ rfl HO.out (m := 2) rfl rfl rfl (by simp [Value.oneCell']) (by unfold maxLen; omega) (by omega) hS2 HB.out ?_; intro v1 w1 hown1 hb1 _ _))
          go_roundw
          case rel => exact EncR.step eb.out hlt HC.out hy.out HA.out (by have h := hown1; simp only [e1.out] at h; exact h) hb1
          case measure => simp [intOf]; omega
        by_cases c4 : c < 65536
        · have eb := Lib.hid (show encC c = [224 + c / 4096, 128 + c / 64 % 64, 128 + c % 64] by unfold encC; rw [if_neg c2, if_neg c3, if_pos c4])
          have e1 := Lib.hid (b3 (c := c) (by omega) (by omega))
          go_wp2_with (first
            | (go_at_call 20; refine (hw.out _).mono ?_; rw [hy.out]; rintro e w' ⟨rfl, rfl⟩)
            | (at_builtin; refine wpList_pushm w _ _ rfl _ _ _ rfl el_u8 _ _ _ rfl HO.out (m := 3) rfl rfl rfl (by simp [Value.oneCell']) (by unfold maxLen; omega) (by omega) hS2 HB.out ?_; intro v1 w1 hown1 hb1 _ _))
          go_roundw
          case rel => exact EncR.step eb.out hlt HC.out hy.out HA.out (by have h := hown1; simp only [e1.out] at h; exact h) hb1
          case measure => simp [intOf]; omega
        · have eb := Lib.hid (show encC c = [240 + c / 262144, 128 + c / 4096 % 64, 128 + c / 64 % 64, 128 + c % 64] by unfold encC; rw [if_neg c2, if_neg c3, if_neg c4])
          have e1 := Lib.hid (b4 (c := c) (by omega) (by omega))
          go_wp2_with (first
            | (go_at_call 20; refine (hw.out _).mono ?_; rw [hy.out]; rintro e w' ⟨rfl, rfl⟩)
            | (at_builtin; refine wpList_pushm w _ _ rfl _ _ _ rfl el_u8 _ _ _ rfl HO.out (m := 4) rfl rfl rfl (by simp [Value.oneCell']) (by unfold maxLen; omega) (by omega) hS2 HB.out ?_; intro v1 w1 hown1 hb1 _ _))
          go_roundw
          case rel => exact EncR.step eb.out hlt HC.out hy.out HA.out (by have h := hown1; simp only [e1.out] at h; exact h) hb1
          case measure => simp [intOf]; omega
      · have hy := Lib.hid (wholeB_no hwh)
        clear hwh
        have hr : encS l = ByteArray.empty ∧ encE l = 1 := by
          have : encOk l = false := by
            unfold encOk
            rw [List.all_eq_false]
            exact ⟨c, List.mem_of_getElem? HC.out, by rw [hy.out]; simp⟩
          unfold encS encE
          rw [this]
          exact ⟨rfl, rfl⟩
        have HR := Lib.hid hr
        clear hr
        go_wp2_with (go_at_call 20; refine (hw.out _).mono ?_; rw [hy.out]; rintro e w' ⟨rfl, rfl⟩)
        go_ret2
        exact ⟨by rw [HR.out.1, HR.out.2]; rfl, HB.out⟩
    · obtain rfl : k = n := by omega
      have hall' : l.take k = l := List.take_of_length_le (by omega)
      rw [hall'] at hown hall
      have hr : encS l = strOfNums (encL l) ∧ encE l = 0 := by
        have : encOk l = true := hall
        unfold encS encE
        rw [this]
        exact ⟨rfl, rfl⟩
      have HR := Lib.hid hr
      have HB := Lib.hid hbl
      have kc := convert_own (P := Try.prog) Try.underlying54 Try.underlying5 (dst := 9) Try.underlying9 hown
      clear hown hall hall' hbl hr hs hln hlt
      go_wp2_with fail
      go_ret2
      exact ⟨by rw [HR.out.1, HR.out.2]; rfl, HB.out⟩
end Go.Proofs.Ytnccbmbicgkhmaa
