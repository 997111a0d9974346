/- Characters as bytes: the plain text, and the contract of utf.Whole and utf.Encode. -/
import Derived.Test.YtclahhkcbkpofaaDoorHFz1
import Derived.Test.YtclahhkcbkpofaaDoorProg
import Derived.Deep.RegionHeld3
import Derived.Lib.SlBytesRow
namespace Go.Proofs.YtclahhkcbkpofaaDoor.Sp
open Go.RowKit
def wholeB (c : Int) : Bool := decide (0 ≤ c ∧ c ≤ 1114111 ∧ (c < 55296 ∨ 57343 < c))
theorem wholeB_yes {c : Int} (h : 0 ≤ c ∧ c ≤ 1114111 ∧ (c < 55296 ∨ 57343 < c)) : wholeB c = true := decide_eq_true h
theorem wholeB_no {c : Int} (h : ¬ (0 ≤ c ∧ c ≤ 1114111 ∧ (c < 55296 ∨ 57343 < c))) : wholeB c = false := decide_eq_false h
theorem whole_of {c : Int} (h : wholeB c = true) : 0 ≤ c ∧ c ≤ 1114111 ∧ (c < 55296 ∨ 57343 < c) := of_decide_eq_true h
/-- The bytes of a character. -/
def encC (c : Int) : List Int :=
  if c < 128 then [c] else if c < 2048 then [192 + c / 64, 128 + c % 64] else if c < 65536 then [224 + c / 4096, 128 + c / 64 % 64, 128 + c % 64]
  else [240 + c / 262144, 128 + c / 4096 % 64, 128 + c / 64 % 64, 128 + c % 64]
def encL (l : List Int) : List Int := l.flatMap encC
theorem encL_snoc (l : List Int) (c : Int) : encL (l ++ [c]) = encL l ++ encC c := by simp [encL]
theorem encC_len (c : Int) : 1 ≤ (encC c).length ∧ (encC c).length ≤ 4 := by
  unfold encC
  split
  · simp
  · split
    · simp
    · split <;> simp
theorem encL_len (l : List Int) : (encL l).length ≤ 4 * l.length := by
  unfold encL
  induction l with
  | nil => simp
  | cons c l ih =>
    have := (encC_len c).2
    rw [List.flatMap_cons, List.length_append, List.length_cons]
    omega

set_option maxHeartbeats 1000000 in
theorem whole_any (c : Int) (w : World) : Calls Tryd.prog 78 #[.int .i64 c] w fun e w' => e = .returned (.bool (wholeB c)) ∧ w = w' := by
  by_cases h : 0 ≤ c ∧ c ≤ 1114111 ∧ (c < 55296 ∨ 57343 < c)
  · rw [wholeB_yes h]
    obtain ⟨h1, h2, h3⟩ := h
    by_cases h4 : c < 55296
    all_goals
      have q : 57343 < c ∨ c < 55296 := by omega
      go_enter Tryd.func78, Tryd.ntmps78
      go_wp2
      go_ret
      refine ⟨ret_bool ?_, rfl⟩
      simp
      try omega
  · rw [wholeB_no h]
    go_enter Tryd.func78, Tryd.ntmps78
    go_wp2
    all_goals
      go_ret
      refine ⟨ret_bool ?_, rfl⟩
      simp
      try omega

theorem el_u8 : Elem Tryd.prog 91 5 1 1 := Elem.mk_ Tryd.underlying91 (z := .int .u8 0) (by kernel_rfl) rfl (by omega)

/-- The walk's own spelling of a character's bytes. -/
theorem b2 {c : Int} (h0 : 128 ≤ c) (h1 : c < 2048) : bits .or .i64 192 (c / 64) % 256 = 192 + c / 64 ∧ bits .or .i64 128 (bits .and .i64 c 63) % 256 = 128 + c % 64 := by
  have a := and_low 6 (by omega) c (by omega) (by omega)
  have b := or_join 6 128 (c % 64) (by omega) (by decide) (by omega) (by omega) (by omega) (by omega)
  have d := or_join 6 192 (c / 64) (by omega) (by decide) (by omega) (by omega) (by omega) (by omega)
  simp only [Int.reducePow, Int.reduceSub] at a
  rw [a, b, d]
  omega
theorem b3 {c : Int} (h0 : 2048 ≤ c) (h1 : c < 65536) : bits .or .i64 224 (c / 4096) % 256 = 224 + c / 4096 ∧ bits .or .i64 128 (bits .and .i64 (c / 64) 63) % 256 = 128 + c / 64 % 64 ∧ bits .or .i64 128 (bits .and .i64 c 63) % 256 = 128 + c % 64 := by
  have a := and_low 6 (by omega) c (by omega) (by omega)
  have a2 := and_low 6 (by omega) (c / 64) (by omega) (by omega)
  have b := or_join 6 128 (c % 64) (by omega) (by decide) (by omega) (by omega) (by omega) (by omega)
  have b2 := or_join 6 128 (c / 64 % 64) (by omega) (by decide) (by omega) (by omega) (by omega) (by omega)
  have d := or_join 5 224 (c / 4096) (by omega) (by decide) (by omega) (by omega) (by omega) (by omega)
  simp only [Int.reducePow, Int.reduceSub] at a a2
  rw [a, b, a2, b2, d]
  omega
theorem b4 {c : Int} (h0 : 65536 ≤ c) (h1 : c ≤ 1114111) : bits .or .i64 240 (c / 262144) % 256 = 240 + c / 262144 ∧ bits .or .i64 128 (bits .and .i64 (c / 4096) 63) % 256 = 128 + c / 4096 % 64 ∧ bits .or .i64 128 (bits .and .i64 (c / 64) 63) % 256 = 128 + c / 64 % 64 ∧ bits .or .i64 128 (bits .and .i64 c 63) % 256 = 128 + c % 64 := by
  have a := and_low 6 (by omega) c (by omega) (by omega)
  have a2 := and_low 6 (by omega) (c / 64) (by omega) (by omega)
  have a3 := and_low 6 (by omega) (c / 4096) (by omega) (by omega)
  have b := or_join 6 128 (c % 64) (by omega) (by decide) (by omega) (by omega) (by omega) (by omega)
  have b2 := or_join 6 128 (c / 64 % 64) (by omega) (by decide) (by omega) (by omega) (by omega) (by omega)
  have b3 := or_join 6 128 (c / 4096 % 64) (by omega) (by decide) (by omega) (by omega) (by omega) (by omega)
  have d := or_join 4 240 (c / 262144) (by omega) (by decide) (by omega) (by omega) (by omega) (by omega)
  simp only [Int.reducePow, Int.reduceSub] at a a2 a3
  rw [a, b, a2, b2, a3, b3, d]
  omega
def encOk (l : List Int) : Bool := l.all wholeB
def encS (l : List Int) : ByteArray := if encOk l then strOfNums (encL l) else ByteArray.empty
def encE (l : List Int) : Int := if encOk l then 0 else 1

theorem take_snoc' {l : List Int} {k : Nat} {c : Int} (h : l[k]? = some c) : l.take (k + 1) = l.take k ++ [c] := by
  obtain ⟨hk, rfl⟩ := List.getElem?_eq_some_iff.1 h
  rw [List.take_succ_eq_append_getElem hk]

/-- What the loop has done behind k characters. -/
def EncR (w : World) (l : List Int) (n : Nat) (v i : Value) (wr : World) : Prop :=
  ∃ k : Nat, k ≤ n ∧ i = .int .i64 k ∧ wr.ownsRow w.heap.size 5 1 v (encL (l.take k)).length ((encL (l.take k)).map (.int .u8)) ∧ Below w.heap.size w wr ∧ (l.take k).all wholeB = true
theorem EncR.step {w wr : World} {l : List Int} {n k : Nat} {v : Value} {c : Int} {bs : List Int} (hb : encC c = bs) (hk : k < n) (hc : l[k]? = some c) (hw : wholeB c = true) (ha : (l.take k).all wholeB = true)
    (hown : wr.ownsRow w.heap.size 5 1 v ((encL (l.take k)).length + bs.length) ((encL (l.take k)).map (.int .u8) ++ bs.map (.int .u8))) (hB : Below w.heap.size w wr) : EncR w l n v (.int .i64 ((k : Int) + 1)) wr := by
  subst hb
  refine ⟨k + 1, by omega, by go_num, ?_, hB, ?_⟩
  · rw [take_snoc' hc, encL_snoc, List.length_append, List.map_append]
    exact hown
  · rw [take_snoc' hc, List.all_append, ha, List.all_cons, hw]
    rfl
set_option maxRecDepth 100000 in
set_option maxHeartbeats 4000000 in
theorem encode_any (w : World) (A : Option Addr) (n cp : Nat) (l : List Int) (B : Nat) (hB : B ≤ w.heap.size) (hs : Sl w B 1 A n (l.map (.int .i64))) (hl : n ≤ 17592186044416) :
    Calls Tryd.prog 71 #[.slice A n cp] w fun e w' => e = .returned (.tuple #[.string (encS l), .int .i64 (encE l)]) ∧ Below w.heap.size w w' := by
  have hln : l.length = n := by have := hs.1; simpa using this
  go_enter Tryd.func71, Tryd.ntmps71
  go_wp2_with fail
  go_loopw [4, 10] (fun v i wr => EncR w l n v i wr) (fun _ i _ => n - (intOf i).toNat)
  case atStart => exact ⟨0, Nat.zero_le _, rfl, by simpa [encL] using own_lit w 5 1 rfl (Nat.le_refl _), bnew (brefl w) _, rfl⟩
  case round =>
    obtain ⟨k, hk, rfl, hown, hbl, hall⟩ := hrel
    by_cases hlt : k < n
    · obtain ⟨b, off, rfl, hbB, hcell⟩ := hs.at_ hlt
      obtain ⟨c, hc⟩ : ∃ c, l[k]? = some c := ⟨l[k], List.getElem?_eq_getElem (by omega)⟩
      have hcw : wr.cell? ⟨b, off + k, none⟩ = some (.int .i64 c) := (hbl.cell (p := ⟨b, off + k, none⟩) (by show b < _; omega)).trans (hcell k _ (by simp [hc]))
      have hw := Lib.hid (whole_any c)
      have hlen4 := encL_len (l.take k)
      rw [List.length_take] at hlen4
      have hsz := hbl.size
      have HB := Lib.hid hbl
      have HO := Lib.hid hown
      have HA := Lib.hid hall
      have HC := Lib.hid hc
      obtain ⟨hB2, hS2, hL2, hN2⟩ : (b < wr.heap.size) ∧ (w.heap.size ≤ wr.heap.size) ∧ ((encL (l.take k)).length ≤ 4 * k) ∧ k + 1 ≤ 17592186044416 := ⟨by omega, hsz, by omega, by omega⟩
      clear hcell hs hlen4 hsz hbl hown hall hc hl
      by_cases hwh : 0 ≤ c ∧ c ≤ 1114111 ∧ (c < 55296 ∨ 57343 < c)
      · have hy := Lib.hid (wholeB_yes hwh)
        obtain ⟨c0, c1, _⟩ := hwh
        by_cases c2 : c < 128
        · have eb := Lib.hid (show encC c = [c] by unfold encC; rw [if_pos c2])
          have e1 := Lib.hid (show c % 256 = c by omega)
          go_wp2_with (first
            | (go_at_call 78; refine (hw.out _).mono ?_; rw [hy.out]; rintro e w' ⟨rfl, rfl⟩)
            | (at_builtin; refine wpList_pushm w _ _ rfl _ _ _ rfl el_u8 _ _ _ rfl HO.out (m := 1) rfl rfl rfl (by simp [Value.oneCell']) (by unfold maxLen; omega) (by omega) hS2 HB.out ?_; intro v1 w1 hown1 hb1 _ _))
          go_roundw
          case rel => exact EncR.step eb.out hlt HC.out hy.out HA.out (by first | exact hown1 | (rw [e1.out] at hown1; exact hown1)) hb1
          case measure => simp [intOf]; omega
        by_cases c3 : c < 2048
        · have eb := Lib.hid (show encC c = [192 + c / 64, 128 + c % 64] by unfold encC; rw [if_neg c2, if_pos c3])
          have e1 := Lib.hid (b2 (c := c) (by omega) (by omega))
          go_wp2_with (first
            | (go_at_call 78; refine (hw.out _).mono ?_; rw [hy.out]; rintro e w' ⟨rfl, rfl⟩)
            | (at_builtin; refine wpList_pushm w _ _ rfl _ _ _ rfl el_u8 _ _ _ rfl HO.out (m := 2) rfl rfl rfl (by simp [Value.oneCell']) (by unfold maxLen; omega) (by omega) hS2 HB.out ?_; intro v1 w1 hown1 hb1 _ _))
          go_roundw
          case rel => exact EncR.step eb.out hlt HC.out hy.out HA.out (by have h := hown1; simp only [e1.out] at h; exact h) hb1
          case measure => simp [intOf]; omega
        by_cases c4 : c < 65536
        · have eb := Lib.hid (show encC c = [224 + c / 4096, 128 + c / 64 % 64, 128 + c % 64] by unfold encC; rw [if_neg c2, if_neg c3, if_pos c4])
          have e1 := Lib.hid (b3 (c := c) (by omega) (by omega))
          go_wp2_with (first
            | (go_at_call 78; refine (hw.out _).mono ?_; rw [hy.out]; rintro e w' ⟨rfl, rfl⟩)
            | (at_builtin; refine wpList_pushm w _ _ rfl _ _ _ rfl el_u8 _ _ _ rfl HO.out (m := 3) rfl rfl rfl (by simp [Value.oneCell']) (by unfold maxLen; omega) (by omega) hS2 HB.out ?_; intro v1 w1 hown1 hb1 _ _))
          go_roundw
          case rel => exact EncR.step eb.out hlt HC.out hy.out HA.out (by have h := hown1; simp only [e1.out] at h; exact h) hb1
          case measure => simp [intOf]; omega
        · have eb := Lib.hid (show encC c = [240 + c / 262144, 128 + c / 4096 % 64, 128 + c / 64 % 64, 128 + c % 64] by unfold encC; rw [if_neg c2, if_neg c3, if_neg c4])
          have e1 := Lib.hid (b4 (c := c) (by omega) (by omega))
          go_wp2_with (first
            | (go_at_call 78; refine (hw.out _).mono ?_; rw [hy.out]; rintro e w' ⟨rfl, rfl⟩)
            | (at_builtin; refine wpList_pushm w _ _ rfl _ _ _ rfl el_u8 _ _ _ rfl HO.out (m := 4) rfl rfl rfl (by simp [Value.oneCell']) (by unfold maxLen; omega) (by omega) hS2 HB.out ?_; intro v1 w1 hown1 hb1 _ _))
          go_roundw
          case rel => exact EncR.step eb.out hlt HC.out hy.out HA.out (by have h := hown1; simp only [e1.out] at h; exact h) hb1
          case measure => simp [intOf]; omega
      · have hy := Lib.hid (wholeB_no hwh)
        clear hwh
        have hr : encS l = ByteArray.empty ∧ encE l = 1 := by
          have : encOk l = false := by
            unfold encOk
            rw [List.all_eq_false]
            exact ⟨c, List.mem_of_getElem? HC.out, by rw [hy.out]; simp⟩
          unfold encS encE
          rw [this]
          exact ⟨rfl, rfl⟩
        have HR := Lib.hid hr
        clear hr
        go_wp2_with (go_at_call 78; refine (hw.out _).mono ?_; rw [hy.out]; rintro e w' ⟨rfl, rfl⟩)
        go_ret2
        exact ⟨by rw [HR.out.1, HR.out.2]; rfl, HB.out⟩
    · obtain rfl : k = n := by omega
      have hall' : l.take k = l := List.take_of_length_le (by omega)
      rw [hall'] at hown hall
      have hr : encS l = strOfNums (encL l) ∧ encE l = 0 := by
        have : encOk l = true := hall
        unfold encS encE
        rw [this]
        exact ⟨rfl, rfl⟩
      have HR := Lib.hid hr
      have HB := Lib.hid hbl
      have kc := convert_own (P := Tryd.prog) Tryd.underlying91 Tryd.underlying5 (dst := 9) Tryd.underlying9 hown
      clear hown hall hall' hbl hr hs hln hlt
      go_wp2_with fail
      go_ret2
      exact ⟨by rw [HR.out.1, HR.out.2]; rfl, HB.out⟩
end Go.Proofs.YtclahhkcbkpofaaDoor.Sp
/- The rows of a range: the plain text and its laws. -/
namespace Go.Proofs.YtclahhkcbkpofaaDoor.Sp
def szC (c : Int) : Int := if c < 128 then 1 else if c < 2048 then 2 else if c < 65536 then 3 else 4
theorem szC_len (c : Int) : ((encC c).length : Int) = szC c := by
  unfold encC szC
  split
  · rfl
  · split
    · rfl
    · split <;> rfl
/-- Where a range is cut, if it is. -/
def cutC (lo hi : Int) : Option Int :=
  if lo / 64 ≠ hi / 64 ∧ 1 < szC lo ∧ lo % 64 ≠ 0 then some (lo - lo % 64 + 64)
  else if lo / 64 ≠ hi / 64 ∧ 1 < szC lo ∧ hi % 64 ≠ 63 then some (hi - hi % 64)
  else if lo / 4096 ≠ hi / 4096 ∧ 2 < szC lo ∧ lo % 4096 ≠ 0 then some (lo - lo % 4096 + 4096)
  else if lo / 4096 ≠ hi / 4096 ∧ 2 < szC lo ∧ hi % 4096 ≠ 4095 then some (hi - hi % 4096)
  else if lo / 262144 ≠ hi / 262144 ∧ 3 < szC lo ∧ lo % 262144 ≠ 0 then some (lo - lo % 262144 + 262144)
  else if lo / 262144 ≠ hi / 262144 ∧ 3 < szC lo ∧ hi % 262144 ≠ 262143 then some (hi - hi % 262144)
  else none
theorem cut_in {lo hi c : Int} (h : lo ≤ hi) (hc : cutC lo hi = some c) : lo < c ∧ c ≤ hi := by
  unfold cutC at hc
  split at hc
  · injection hc; omega
  split at hc
  · injection hc; omega
  split at hc
  · injection hc; omega
  split at hc
  · injection hc; omega
  split at hc
  · injection hc; omega
  split at hc
  · injection hc; omega
  · cases hc
def leafC (lo hi : Int) : List (Int × Int) := (encC lo).zip (encC hi)
def rowsF : Nat → Int → Int → List (List (Int × Int))
  | 0, _, _ => []
  | n + 1, lo, hi => match cutC lo hi with
    | some c => rowsF n lo (c - 1) ++ rowsF n c hi
    | none => [leafC lo hi]
theorem rowsF_more : ∀ (n m : Nat) (lo hi : Int), lo ≤ hi → (hi - lo).toNat < n → n ≤ m → rowsF m lo hi = rowsF n lo hi
  | 0, _, _, _, _, h, _ => by omega
  | n + 1, 0, _, _, _, _, h => by omega
  | n + 1, m + 1, lo, hi, h, hn, hm => by
    rw [rowsF, rowsF]
    cases hc : cutC lo hi with
    | none => rfl
    | some c =>
      obtain ⟨h1, h2⟩ := cut_in h hc
      simp only
      rw [rowsF_more n m lo (c - 1) (by omega) (by omega) (by omega), rowsF_more n m c hi (by omega) (by omega) (by omega)]
def rowsP (lo hi : Int) : List (List (Int × Int)) := rowsF ((hi - lo).toNat + 1) lo hi
theorem rowsP_cut {lo hi c : Int} (h : lo ≤ hi) (hc : cutC lo hi = some c) : rowsP lo hi = rowsP lo (c - 1) ++ rowsP c hi := by
  obtain ⟨h1, h2⟩ := cut_in h hc
  unfold rowsP
  rw [rowsF, hc]
  simp only
  rw [rowsF_more ((c - 1 - lo).toNat + 1) _ lo (c - 1) (by omega) (by omega) (by omega), rowsF_more ((hi - c).toNat + 1) _ c hi (by omega) (by omega) (by omega)]
theorem rowsP_leaf {lo hi : Int} (hc : cutC lo hi = none) : rowsP lo hi = [leafC lo hi] := by
  unfold rowsP
  rw [rowsF, hc]
/-- A range within one class of characters. -/
def Cls (lo hi : Int) : Prop := (0 ≤ lo ∧ hi ≤ 127) ∨ (128 ≤ lo ∧ hi ≤ 2047) ∨ (2048 ≤ lo ∧ hi ≤ 55295) ∨ (57344 ≤ lo ∧ hi ≤ 65535) ∨ (65536 ≤ lo ∧ hi ≤ 1114111)
theorem rows_ind {motive : Int → Int → Prop} (cut : ∀ lo hi c, lo ≤ hi → Cls lo hi → cutC lo hi = some c → lo < c → c ≤ hi → motive lo (c - 1) → motive c hi → motive lo hi)
    (leaf : ∀ lo hi, lo ≤ hi → Cls lo hi → cutC lo hi = none → motive lo hi) : ∀ lo hi, lo ≤ hi → Cls lo hi → motive lo hi := by
  have key : ∀ n : Nat, ∀ lo hi, (hi - lo).toNat < n → lo ≤ hi → Cls lo hi → motive lo hi := by
    intro n
    induction n with
    | zero => intro lo hi h; omega
    | succ n ih =>
      intro lo hi hn h hk
      cases hc : cutC lo hi with
      | none => exact leaf lo hi h hk hc
      | some c =>
        obtain ⟨h1, h2⟩ := cut_in h hc
        exact cut lo hi c h hk hc h1 h2 (ih lo (c - 1) (by omega) (by omega) (by unfold Cls at *; omega)) (ih c hi (by omega) (by omega) (by unfold Cls at *; omega))
  intro lo hi h hk
  exact key _ lo hi (Nat.lt_succ_self _) h hk
end Go.Proofs.YtclahhkcbkpofaaDoor.Sp
/- The contract of spans.size; the rows in memory. -/
namespace Go.Proofs.YtclahhkcbkpofaaDoor.Sp
open Go.RowKit
theorem encS_one {c : Int} (h : wholeB c = true) : encS [c] = strOfNums (encC c) ∧ encE [c] = 0 := by
  have : encOk [c] = true := by simp [encOk, h]
  unfold encS encE
  rw [this]
  exact ⟨by simp [encL], rfl⟩
theorem sl_one (w : World) (x : Value) (e : TypeId) : Sl (w.alloc (.cells #[x] e)) (w.heap.size + 1) 1 (some ⟨w.heap.size, 0, none⟩) 1 [x] :=
  ⟨rfl, fun _ => ⟨w.heap.size, 0, rfl, by omega, fun j u hu => by
    have h := news_at w #[x] e j u hu
    rwa [Addr.add_lit] at h⟩⟩
/-- Encode of one character, in the form that the walks meet. -/
theorem encode_one (w : World) (c : Int) (hw : wholeB c = true) : Calls Tryd.prog 71 #[.slice (some ⟨w.heap.size, 0, none⟩) 1 1] (w.alloc (.cells #[.int .i64 c] 3)) fun e w' => e = .returned (.tuple #[.string (strOfNums (encC c)), .int .i64 0]) ∧ Below w.heap.size w w' := by
  refine (encode_any (w.alloc (.cells #[.int .i64 c] 3)) _ 1 1 [c] (w.heap.size + 1) (by simp) (sl_one w _ _) (by omega)).mono ?_
  rintro e w' ⟨rfl, hb⟩
  obtain ⟨h1, h2⟩ := encS_one hw
  rw [h1, h2]
  exact ⟨rfl, bcall (bnew (brefl w) _) hb⟩
theorem size_any (c : Int) (hw : wholeB c = true) (w : World) : Calls Tryd.prog 70 #[.int .i64 c] w fun e w' => e = .returned (.int .i64 (szC c)) ∧ Below w.heap.size w w' := by
  have HC := Lib.hid (encode_one w c hw)
  have hz : (((strOfNums (encC c)).size : Nat) : Int) = szC c := by rw [strOfNums_size, szC_len]
  generalize strOfNums (encC c) = s at *
  have HZ := Lib.hid hz
  clear hz hw
  go_enter Tryd.func70, Tryd.ntmps70
  go_wp2_with fail
  refine HC.out.mono ?_
  rintro e w1 ⟨rfl, hb1⟩
  go_wp2_with fail
  go_ret
  exact ⟨ret_int HZ.out, hb1⟩
end Go.Proofs.YtclahhkcbkpofaaDoor.Sp
/- rows: its walk. -/
namespace Go.Proofs.YtclahhkcbkpofaaDoor.Sp
open Go.RowKit
/-- A row of ranges, in memory. -/
structure RR where
  b : Nat
  cap : Nat
  r : List (Int × Int)
def flatR (r : List (Int × Int)) : List Value := r.flatMap fun p => [.int .i64 p.1, .int .i64 p.2]
def RR.val (R : RR) : Value := .slice (some ⟨R.b, 0, none⟩) R.r.length R.cap
structure RowsAt (w : World) (base : Nat) (v : Value) (l : List RR) : Prop where
  own : w.ownsRow base 59 1 v l.length (l.map RR.val)
  inn : ∀ R ∈ l, 0 < R.r.length ∧ w.ownsRow base 61 2 R.val R.r.length (flatR R.r)
  nod : (l.map RR.b).Nodup
def RowsOf (w : World) (rs : List (List (Int × Int))) (e : Ending) (w' : World) : Prop := ∃ v l, e = .returned v ∧ RowsAt w' w.heap.size v l ∧ l.map RR.r = rs ∧ Below w.heap.size w w'

theorem RowsAt.kept {w w' : World} {base : Nat} {v : Value} {l : List RR} (h : RowsAt w base v l) (hb : Below w.heap.size w w') : RowsAt w' base v l :=
  ⟨own_kept h.own hb, fun R hR => ⟨(h.inn R hR).1, own_kept (h.inn R hR).2 hb⟩, h.nod⟩
theorem RR.lt {w : World} {base : Nat} {R : RR} (h : w.ownsRow base 61 2 R.val R.r.length (flatR R.r)) : base ≤ R.b ∧ R.b < w.heap.size := h.lt R.b rfl
theorem el_row : Elem Tryd.prog 57 59 1 24 := Elem.mk_ Tryd.underlying57 (z := .slice none 0 0) (by kernel_rfl) rfl (by omega)
theorem el_range : Elem Tryd.prog 59 61 2 16 := Elem.mk_ Tryd.underlying59 (z := .agg #[.int .i64 0, .int .i64 0]) (by kernel_rfl) rfl (by omega)
theorem vals_one (l : List RR) : ∀ u ∈ l.map RR.val, u.oneCell' = true := by
  intro u hu
  obtain ⟨R, _, rfl⟩ := List.mem_map.1 hu
  rfl
/-- Rows behind rows: what the append of two results is. -/
theorem RowsAt.join {w w2 w3 : World} {base : Nat} {v1 v2 v3 : Value} {l1 l2 : List RR} (h1 : RowsAt w base v1 l1) (hb : Below w.heap.size w w2) (h2 : RowsAt w2 w.heap.size v2 l2)
    (ho : w3.ownsRow base 59 1 v3 (l1.length + l2.length) (l1.map RR.val ++ l2.map RR.val)) (hg : w2.grownBy w3 v1.ownBlock) (hbase : base ≤ w.heap.size) : RowsAt w3 base v3 (l1 ++ l2) := by
  have h1' := h1.kept hb
  refine ⟨by rw [List.length_append, List.map_append]; exact ho, fun R hR => ?_, ?_⟩
  · rcases List.mem_append.1 hR with h | h
    · obtain ⟨a, b⟩ := h1'.inn R h
      exact ⟨a, b.kept hg (own_types h1'.own b (by decide))⟩
    · obtain ⟨a, b⟩ := h2.inn R h
      exact ⟨a, (b.mono hbase).kept hg (own_types h1'.own b (by decide))⟩
  · rw [List.map_append, List.nodup_append]
    refine ⟨h1.nod, h2.nod, ?_⟩
    intro x hx y hy e
    obtain ⟨R, hR, rfl⟩ := List.mem_map.1 hx
    obtain ⟨S, hS, rfl⟩ := List.mem_map.1 hy
    have a := (RR.lt (h1.inn R hR).2).2
    have b := (RR.lt (h2.inn S hS).2).1
    omega
theorem rows_len {lo hi : Int} (h : lo ≤ hi) (hk : Cls lo hi) : ((rowsP lo hi).length : Int) ≤ hi - lo + 1 := by
  refine rows_ind (motive := fun lo hi => ((rowsP lo hi).length : Int) ≤ hi - lo + 1) ?_ ?_ lo hi h hk
  · intro lo hi c h1 _ hc _ _ a b
    rw [rowsP_cut h1 hc, List.length_append]
    omega
  · intro lo hi h1 _ hc
    rw [rowsP_leaf hc]
    simp
    omega

/-- Where the loop over the bytes stands. -/
def NoCut (j lo hi : Int) : Prop :=
  (2 ≤ j → lo / 64 = hi / 64 ∨ szC lo ≤ 1 ∨ (lo % 64 = 0 ∧ hi % 64 = 63)) ∧ (3 ≤ j → lo / 4096 = hi / 4096 ∨ szC lo ≤ 2 ∨ (lo % 4096 = 0 ∧ hi % 4096 = 4095)) ∧
  (4 ≤ j → lo / 262144 = hi / 262144 ∨ szC lo ≤ 3 ∨ (lo % 262144 = 0 ∧ hi % 262144 = 262143))
def RowsR (w : World) (lo hi : Int) (k : Value) (wr : World) : Prop :=
  ∃ j : Int, (j = 1 ∨ j = 2 ∨ j = 3 ∨ j = 4) ∧ k = .int .i64 j ∧ NoCut j lo hi ∧ Below w.heap.size w wr

theorem nocut_next1 {lo hi : Int} (h : NoCut 1 lo hi) (h2 : lo / 64 = hi / 64 ∨ szC lo ≤ 1 ∨ (lo % 64 = 0 ∧ hi % 64 = 63)) : NoCut 2 lo hi := by
  obtain ⟨a, b, c⟩ := h
  refine ⟨fun g => ?_, fun g => ?_, fun g => ?_⟩
  all_goals first | exact h2 | exact a (by omega) | exact b (by omega) | exact c (by omega) | omega
theorem cut_lo1 {lo hi : Int} (h : NoCut 1 lo hi) (h1 : lo / 64 ≠ hi / 64) (h2 : 1 < szC lo) (h3 : lo % 64 ≠ 0) : cutC lo hi = some (lo - lo % 64 + 64) := by
  obtain ⟨a, b, c⟩ := h
  unfold cutC

  rw [if_pos ⟨h1, h2, h3⟩]
theorem cut_hi1 {lo hi : Int} (h : NoCut 1 lo hi) (h1 : lo / 64 ≠ hi / 64) (h2 : 1 < szC lo) (h3 : lo % 64 = 0) (h4 : hi % 64 ≠ 63) : cutC lo hi = some (hi - hi % 64) := by
  obtain ⟨a, b, c⟩ := h
  unfold cutC

  rw [if_neg (by omega), if_pos ⟨h1, h2, h4⟩]
theorem nocut_next2 {lo hi : Int} (h : NoCut 2 lo hi) (h2 : lo / 4096 = hi / 4096 ∨ szC lo ≤ 2 ∨ (lo % 4096 = 0 ∧ hi % 4096 = 4095)) : NoCut 3 lo hi := by
  obtain ⟨a, b, c⟩ := h
  refine ⟨fun g => ?_, fun g => ?_, fun g => ?_⟩
  all_goals first | exact h2 | exact a (by omega) | exact b (by omega) | exact c (by omega) | omega
theorem cut_lo2 {lo hi : Int} (h : NoCut 2 lo hi) (h1 : lo / 4096 ≠ hi / 4096) (h2 : 2 < szC lo) (h3 : lo % 4096 ≠ 0) : cutC lo hi = some (lo - lo % 4096 + 4096) := by
  obtain ⟨a, b, c⟩ := h
  unfold cutC
  rw [if_neg (by have := a (by omega); omega), if_neg (by have := a (by omega); omega)]
  rw [if_pos ⟨h1, h2, h3⟩]
theorem cut_hi2 {lo hi : Int} (h : NoCut 2 lo hi) (h1 : lo / 4096 ≠ hi / 4096) (h2 : 2 < szC lo) (h3 : lo % 4096 = 0) (h4 : hi % 4096 ≠ 4095) : cutC lo hi = some (hi - hi % 4096) := by
  obtain ⟨a, b, c⟩ := h
  unfold cutC
  rw [if_neg (by have := a (by omega); omega), if_neg (by have := a (by omega); omega)]
  rw [if_neg (by omega), if_pos ⟨h1, h2, h4⟩]
theorem nocut_next3 {lo hi : Int} (h : NoCut 3 lo hi) (h2 : lo / 262144 = hi / 262144 ∨ szC lo ≤ 3 ∨ (lo % 262144 = 0 ∧ hi % 262144 = 262143)) : NoCut 4 lo hi := by
  obtain ⟨a, b, c⟩ := h
  refine ⟨fun g => ?_, fun g => ?_, fun g => ?_⟩
  all_goals first | exact h2 | exact a (by omega) | exact b (by omega) | exact c (by omega) | omega
theorem cut_lo3 {lo hi : Int} (h : NoCut 3 lo hi) (h1 : lo / 262144 ≠ hi / 262144) (h2 : 3 < szC lo) (h3 : lo % 262144 ≠ 0) : cutC lo hi = some (lo - lo % 262144 + 262144) := by
  obtain ⟨a, b, c⟩ := h
  unfold cutC
  rw [if_neg (by have := a (by omega); omega), if_neg (by have := a (by omega); omega)]
  rw [if_neg (by have := b (by omega); omega), if_neg (by have := b (by omega); omega)]
  rw [if_pos ⟨h1, h2, h3⟩]
theorem cut_hi3 {lo hi : Int} (h : NoCut 3 lo hi) (h1 : lo / 262144 ≠ hi / 262144) (h2 : 3 < szC lo) (h3 : lo % 262144 = 0) (h4 : hi % 262144 ≠ 262143) : cutC lo hi = some (hi - hi % 262144) := by
  obtain ⟨a, b, c⟩ := h
  unfold cutC
  rw [if_neg (by have := a (by omega); omega), if_neg (by have := a (by omega); omega)]
  rw [if_neg (by have := b (by omega); omega), if_neg (by have := b (by omega); omega)]
  rw [if_neg (by omega), if_pos ⟨h1, h2, h4⟩]
theorem cut_none {lo hi : Int} (h : NoCut 4 lo hi) : cutC lo hi = none := by
  obtain ⟨a, b, c⟩ := h
  unfold cutC
  rw [if_neg (by have := a (by omega); omega), if_neg (by have := a (by omega); omega), if_neg (by have := b (by omega); omega), if_neg (by have := b (by omega); omega), if_neg (by have := c (by omega); omega), if_neg (by have := c (by omega); omega)]

theorem cls_whole {lo hi : Int} (h : lo ≤ hi) (hk : Cls lo hi) : wholeB lo = true ∧ wholeB hi = true := by
  unfold Cls at hk
  exact ⟨wholeB_yes (by omega), wholeB_yes (by omega)⟩
theorem szC_bounds (c : Int) : 1 ≤ szC c ∧ szC c ≤ 4 := by
  unfold szC
  split
  · omega
  · split
    · omega
    · split <;> omega


theorem cls_len {lo hi : Int} (h : lo ≤ hi) (hk : Cls lo hi) : (encC lo).length = (encC hi).length := by
  have a := szC_len lo
  have b := szC_len hi
  have e : szC lo = szC hi := by
    unfold Cls at hk
    unfold szC
    repeat' split
    all_goals omega
  omega
/-- The ranges of two texts' bytes. -/
def zipS (s1 s2 : ByteArray) : List (Int × Int) := (s1.data.toList.zip s2.data.toList).map fun p => ((p.1.toNat : Int), (p.2.toNat : Int))
theorem zip_snoc {s1 s2 : ByteArray} {k : Nat} (h1 : k < s1.size) (h2 : k < s2.size) : flatR ((zipS s1 s2).take (k + 1)) = flatR ((zipS s1 s2).take k) ++ [.int .i64 (s1[k].toNat : Nat), .int .i64 (s2[k].toNat : Nat)] := by
  have hk : (zipS s1 s2)[k]? = some (((s1[k].toNat : Nat) : Int), ((s2[k].toNat : Nat) : Int)) := by
    unfold zipS
    have a1 : s1.data.toList[k]? = some s1[k] := byte_at s1 k h1
    have a2 : s2.data.toList[k]? = some s2[k] := byte_at s2 k h2
    rw [List.getElem?_map, List.getElem?_zip_eq_some.2 (show s1.data.toList[k]? = some (s1[k], s2[k]).1 ∧ s2.data.toList[k]? = some (s1[k], s2[k]).2 from ⟨a1, a2⟩)]
    rfl
  obtain ⟨hl, he⟩ := List.getElem?_eq_some_iff.1 hk
  rw [List.take_succ_eq_append_getElem hl, he]
  simp [flatR]
theorem encC_byte {c : Int} (h0 : 0 ≤ c) (h1 : c ≤ 1114111) : ∀ z ∈ encC c, 0 ≤ z ∧ z ≤ 255 := by
  intro z hz
  unfold encC at hz
  split at hz
  · simp at hz; omega
  · split at hz
    · simp at hz; omega
    · split at hz
      · simp at hz; omega
      · simp at hz; omega
theorem zip_strs {a b : List Int} (ha : ∀ z ∈ a, 0 ≤ z ∧ z ≤ 255) (hb : ∀ z ∈ b, 0 ≤ z ∧ z ≤ 255) : zipS (strOfNums a) (strOfNums b) = a.zip b := by
  unfold zipS
  rw [strOfNums_data, strOfNums_data]
  induction a generalizing b with
  | nil => simp
  | cons x a ih =>
    cases b with
    | nil => simp
    | cons y b =>
      have hx := ha x (List.mem_cons_self ..)
      have hy := hb y (List.mem_cons_self ..)
      simp only [List.map_cons, List.zip_cons_cons]
      rw [ih (fun z hz => ha z (List.mem_cons_of_mem _ hz)) (fun z hz => hb z (List.mem_cons_of_mem _ hz))]
      have e1 : ((UInt8.ofNat x.toNat).toNat : Int) = x := by rw [UInt8.toNat_ofNat']; omega
      have e2 : ((UInt8.ofNat y.toNat).toNat : Int) = y := by rw [UInt8.toNat_ofNat']; omega
      rw [e1, e2]
theorem leaf_rows {w w2 wr : World} {A : Option Addr} {c : Nat} {r : List (Int × Int)} {n : Nat} {rs : List (List (Int × Int))} (hB : Below w.heap.size w w2) (hb : Below w2.heap.size w2 wr) (ho : wr.ownsRow w2.heap.size 61 2 (.slice A r.length c) r.length (flatR r)) (hp : 0 < r.length) (hn : r.length = n) (hr : rs = [r]) :
    RowsOf w rs (.returned (.slice (some ⟨wr.heap.size, 0, none⟩) 1 1)) (wr.alloc (.cells #[.slice A n c] 59)) := by
  subst hn
  obtain ⟨g, rfl, hg1, hg2⟩ := own_head ho hp
  have hbw := bcall hB hb
  have h1 := hB.size
  refine ⟨_, [⟨g, c, r⟩], rfl, ⟨own_new wr #[.slice (some ⟨g, 0, none⟩) r.length c] 59 1 1 rfl (by unfold maxLen; omega) rfl hbw.size, ?_, by simp⟩, by rw [hr]; rfl, bnew hbw _⟩
  intro R hR
  rw [List.mem_singleton] at hR
  subst hR
  exact ⟨hp, (ho.mono h1).alloc _⟩
def LeafR (w2 : World) (s1 s2 : ByteArray) (i v : Value) (wq : World) : Prop :=
  ∃ k : Nat, k ≤ s1.size ∧ i = .int .i64 k ∧ wq.ownsRow w2.heap.size 61 2 v k (flatR ((zipS s1 s2).take k)) ∧ Below w2.heap.size w2 wq

end Go.Proofs.YtclahhkcbkpofaaDoor.Sp
