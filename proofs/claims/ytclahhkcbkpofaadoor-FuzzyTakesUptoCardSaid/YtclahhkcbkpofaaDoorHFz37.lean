/- wild.Letters and the reference's: the characters of a pattern, or the refusal. -/
import Derived.Test.YtclahhkcbkpofaaDoorHFz36
import Derived.Test.YtclahhkcbkpofaaDoorHFz23
namespace Go.Proofs.YtclahhkcbkpofaaDoor
open Go.RowKit
open Sp
set_option linter.unusedVariables false
/-- A character that may stand in a pattern. -/
def okC (m : List UInt8) (c : Int) : Bool := letB c || m.any fun b => c == (b.toNat : Int)
/-- What is answered of folded characters. -/
def letsE (l : List Int) (m : List UInt8) : Int := if 16 < l.length then 4 else if l.length = 0 then 20 else if l.all (okC m) then 0 else 20
/-- What Letters answers. -/
def LetsP (w : World) (t m : List UInt8) : Ending → World → Prop := fun e w' => Below w.heap.size w w' ∧
  ((∃ v l, e = .returned (.tuple #[v, .int .i64 0]) ∧ Dec (bytesN t) l ∧ letsE (l.map foldI) m = 0 ∧ w'.ownsRow w.heap.size 3 1 v l.length ((l.map foldI).map (.int .i64))) ∨
   (∃ l z, e = .returned (.tuple #[.slice none 0 0, .int .i64 z]) ∧ z ≠ 0 ∧ Dec (bytesN t) l ∧ letsE (l.map foldI) m = z) ∨
   (e = .returned (.tuple #[.slice none 0 0, .int .i64 7]) ∧ ∀ l, ¬ Dec (bytesN t) l))
theorem any_take {m : List UInt8} {c : Int} {j : Nat} {b : UInt8} (h : m[j]? = some b) : (m.take (j + 1)).any (fun b => c == (b.toNat : Int)) = ((m.take j).any (fun b => c == (b.toNat : Int)) || c == (b.toNat : Int)) := by
  obtain ⟨hj, rfl⟩ := List.getElem?_eq_some_iff.1 h
  rw [List.take_succ_eq_append_getElem hj, List.any_append]
  simp
theorem mark_at {m : List UInt8} {j : Nat} {b : UInt8} (h : m[j]? = some b) (h2 : j < (⟨m.toArray⟩ : ByteArray).size) : (((⟨m.toArray⟩ : ByteArray)[j]'h2).toNat : Int) = (b.toNat : Int) := by
  obtain ⟨hj, rfl⟩ := List.getElem?_eq_some_iff.1 h
  rfl
theorem all_take {l : List Int} {m : List UInt8} {j : Nat} {c : Int} (h : l[j]? = some c) (ha : (l.take j).all (okC m) = true) (hc : okC m c = true) : (l.take (j + 1)).all (okC m) = true := by
  obtain ⟨hj, rfl⟩ := List.getElem?_eq_some_iff.1 h
  rw [List.take_succ_eq_append_getElem hj, List.all_append, ha]
  simp [hc]
theorem all_no {l : List Int} {m : List UInt8} {c : Int} (h : c ∈ l) (hc : okC m c = false) : l.all (okC m) = false := by
  rw [List.all_eq_false]
  exact ⟨c, h, by rw [hc]; exact Bool.false_ne_true⟩
set_option maxRecDepth 100000 in
set_option maxHeartbeats 8000000 in
theorem letters_any (w : World) (t m : List UInt8) (ht : t.length ≤ 17592186044414) (hm : m.length ≤ 17592186044414) : Calls Tryd.prog 17 #[.string ⟨t.toArray⟩, .string ⟨m.toArray⟩] w (LetsP w t m) := by
  have HD := Lib.hid (folded_any w t ht)
  have hz : (⟨m.toArray⟩ : ByteArray).size = m.length := by show m.toArray.size = _; simp
  have HBY := Lib.hid (fun j b h => @mark_at m j b h)
  obtain ⟨M, hM⟩ : ∃ M, m.length = M := ⟨_, rfl⟩
  rw [hM] at hz hm
  have HML := Lib.hid hM
  clear hM ht
  go_enter Tryd.func17, Tryd.ntmps17
  go_wp2_with fail
  refine HD.out.mono ?_
  rintro e w1 ⟨hb1, ⟨v, l, rfl, hd1, ho1⟩ | ⟨rfl, hno⟩⟩
  · have HB1 := Lib.hid hb1
    have HDE := Lib.hid hd1
    obtain ⟨A, cp, rfl, hcp⟩ := own_shape ho1
    obtain ⟨f, hf⟩ : ∃ f, l.map foldI = f := ⟨_, rfl⟩
    have hfl : f.length = l.length := by rw [← hf, List.length_map]
    obtain ⟨n, hn⟩ : ∃ n, l.length = n := ⟨_, rfl⟩
    have HPB : Hid (∀ z : Int, z ≠ 0 → letsE f m = z → ∀ W, Below w1.heap.size w1 W → LetsP w t m (.returned (.tuple #[.slice none 0 0, .int .i64 z])) W) := fun z hz h W hW => ⟨bcall hb1 hW, .inr (.inl ⟨l, z, rfl, hz, hd1, by rw [hf]; exact h⟩)⟩
    have HPO : Hid (letsE f m = 0 → ∀ W, Below w1.heap.size w1 W → LetsP w t m (.returned (.tuple #[.slice A n cp, .int .i64 0])) W) := fun h W hW => ⟨bcall hb1 hW, .inl ⟨.slice A n cp, l, rfl, hd1, by rw [hf]; exact h, by have := own_kept ho1 hW; rwa [hn] at this ⊢⟩⟩
    rw [hf, hn] at ho1
    rw [hn] at hfl hcp ⊢
    have HO1 := Lib.hid (Sl.of_own ho1)
    have HFL := Lib.hid hfl
    clear hb1 hd1 ho1 hn HD hf hfl HDE
    by_cases c1 : 16 < n
    · have HX := Lib.hid (HPB.out 4 (by omega) (by unfold letsE; rw [if_pos (by rw [HFL.out]; exact c1)]) w1 (brefl w1))
      have q1 : decide (16 < n) = true := decide_eq_true c1
      have q2 : decide ((n : Int) > 16) = true := decide_eq_true (by omega)
      go_wp2_with fail
      go_ret2
      exact HX.out
    have q1 : decide (16 < n) = false := decide_eq_false c1
    have q2 : decide ((n : Int) > 16) = false := decide_eq_false (by omega)
    by_cases c2 : n = 0
    · have HX := Lib.hid (HPB.out 20 (by omega) (by unfold letsE; rw [HFL.out, if_neg c1, if_pos c2]) w1 (brefl w1))
      subst c2
      go_wp2_with fail
      go_ret2
      exact HX.out
    have q3 : ((n : Int) == 0) = false := by rw [beq_eq_false_iff_ne]; omega
    have q4 : (n == 0) = false := by rw [beq_eq_false_iff_ne]; exact c2
    have HNB : Hid (f.all (okC m) = false → letsE f m = 20) := fun h => by unfold letsE; rw [HFL.out, if_neg c1, if_neg c2, h]; rfl
    have HNG : Hid (f.all (okC m) = true → letsE f m = 0) := fun h => by unfold letsE; rw [HFL.out, if_neg c1, if_neg c2, h]; rfl
    have hn16 : n ≤ 16 := by omega
    clear c1
    go_wp2_with fail
    go_loopw [28] (fun iv wr => ∃ j : Nat, j ≤ n ∧ iv = .int .i64 (j : Int) ∧ Hid (Below w1.heap.size w1 wr) ∧ Hid ((f.take j).all (okC m) = true)) (fun iv _ => n - (intOf iv).toNat)
    case atStart => exact ⟨0, Nat.zero_le _, rfl, brefl w1, rfl⟩
    case round =>
      obtain ⟨j, hj, rfl, HB, HA⟩ := hrel
      by_cases hjn : j < n
      · obtain ⟨c, hc⟩ : ∃ c, f[j]? = some c := ⟨f[j]'(by rw [HFL.out]; exact hjn), List.getElem?_eq_getElem _⟩
        obtain ⟨b0, off, hA, hb0, hcl⟩ := (HO1.out.below HB.out).at_ hjn
        have r0 := hcl j (.int .i64 c) (by rw [List.getElem?_map, hc]; rfl)
        rw [hA]
        have hbw : b0 < wr.heap.size := Nat.lt_of_lt_of_le hb0 HB.out.size
        have hq : decide (j < n) = true := decide_eq_true hjn
        have HC := Lib.hid hc
        clear hcl hc
        go_wp2_with fail
        refine (letter_any c _).mono ?_
        rintro e w2 ⟨rfl, rfl⟩
        go_wp2_with fail
        go_loopw [10, 36] (fun okv iv w3 => ∃ k : Nat, k ≤ M ∧ iv = .int .i64 (k : Int) ∧ okv = .bool (letB c || (m.take k).any fun b => c == (b.toNat : Int)) ∧ w3 = wr) (fun _ iv _ => M - (intOf iv).toNat)
        case atStart => exact ⟨0, Nat.zero_le _, rfl, by simp, rfl⟩
        case round =>
          obtain ⟨k, hk, rfl, rfl, rfl⟩ := hrel
          obtain ⟨ob, hob⟩ : ∃ ob, (letB c || (m.take k).any fun b => c == (b.toNat : Int)) = ob := ⟨_, rfl⟩
          have HOB := Lib.hid hob
          simp only [hob]
          clear hob
          by_cases hkm : k < M
          · obtain ⟨b, hb⟩ : ∃ b, m[k]? = some b := ⟨m[k]'(by rw [HML.out]; exact hkm), List.getElem?_eq_getElem _⟩
            have hy := HBY.out k b hb
            obtain ⟨z, hzb⟩ : ∃ z : Int, (b.toNat : Int) = z := ⟨_, rfl⟩
            rw [hzb] at hy
            have hz0 : 0 ≤ z := by omega
            have hz1 : z ≤ 255 := by have := b.toNat_lt; omega
            obtain ⟨x, hx⟩ : ∃ x, (c == z) = x := ⟨_, rfl⟩
            have HON : Hid ((letB c || (m.take (k + 1)).any fun b => c == (b.toNat : Int)) = (ob || x)) := by
              show _ = _
              rw [any_take hb, ← Bool.or_assoc, HOB.out, hzb, hx]
            have hq2 : decide (k < M) = true := decide_eq_true hkm
            clear hb hzb HOB
            cases ob
            · go_wp2_with fail
              go_roundw
              case rel => exact ⟨k + 1, by omega, by go_num, by rw [HON.out]; simp, trivial⟩
              case measure => simp [intOf]; omega
            · clear hx
              go_wp2_with fail
              go_roundw
              case rel => exact ⟨k + 1, by omega, by go_num, by rw [HON.out]; simp, trivial⟩
              case measure => simp [intOf]; omega
          · obtain rfl : k = M := by omega
            have HOK : Hid (okC m c = ob) := by
              have := HOB.out
              rw [← HML.out, List.take_length] at this
              exact this
            have hq2 : decide (k < k) = false := decide_eq_false hkm
            clear HOB
            cases ob
            · have HX := Lib.hid (HPB.out 20 (by omega) (HNB.out (all_no (List.mem_of_getElem? HC.out) HOK.out)) wr HB.out)
              go_wp2_with fail
              go_ret2
              exact HX.out
            · have HAN := Lib.hid (all_take HC.out HA.out HOK.out)
              go_wp2_with fail
              go_roundw
              case rel => exact ⟨j + 1, by omega, by go_num, HB, HAN⟩
              case measure => simp [intOf]; omega
      · obtain rfl : j = n := by omega
        have HX := Lib.hid (HPO.out (HNG.out (by have := HA.out; rwa [← HFL.out, List.take_length] at this)) wr HB.out)
        have hq : decide (j < j) = false := decide_eq_false hjn
        go_wp2_with fail
        go_ret2
        exact HX.out
  · have HPOST : Hid (LetsP w t m (.returned (.tuple #[.slice none 0 0, .int .i64 7])) w1) := ⟨hb1, .inr (.inr ⟨rfl, hno⟩)⟩
    clear hb1 hno HD
    go_wp2_with fail
    go_ret2
    exact HPOST.out
end Go.Proofs.YtclahhkcbkpofaaDoor
/- A state's text says what it is told apart by (plain Lean). -/
namespace Go.Proofs.YtclahhkcbkpofaaDoor
open Go.RowKit
def valD (l : List UInt8) : Nat := l.foldl (fun a c => a * 10 + (c.toNat - 48)) 0
theorem val_dec : ∀ u : Nat, valD (Lib.decDigits u) = u := by
  intro u
  induction u using Nat.strongRecOn with
  | ind u ih =>
    rw [Lib.decDigits]
    split
    · rename_i h
      unfold valD
      simp
      omega
    · rename_i h
      have h1 := ih (u / 10) (by omega)
      unfold valD at h1 ⊢
      rw [List.foldl_append, h1]
      simp
      omega
theorem dec_inj {u v : Nat} (h : Lib.decDigits u = Lib.decDigits v) : u = v := by
  rw [← val_dec u, h, val_dec]
theorem dec_mem : ∀ u : Nat, ∀ c ∈ Lib.decDigits u, 48 ≤ c.toNat ∧ c.toNat ≤ 57 := by
  intro u
  induction u using Nat.strongRecOn with
  | ind u ih =>
    rw [Lib.decDigits]
    split
    · rename_i h
      intro c hc
      rw [List.mem_singleton.1 hc]
      simp
      omega
    · rename_i h
      intro c hc
      rcases List.mem_append.1 hc with hc | hc
      · exact ih (u / 10) (by omega) c hc
      · rw [List.mem_singleton.1 hc]
        simp
        omega
theorem dec_ne (u : Nat) : Lib.decDigits u ≠ [] := by
  rw [Lib.decDigits]
  split <;> simp
def isD (c : UInt8) : Bool := decide (48 ≤ c.toNat ∧ c.toNat ≤ 57)
theorem itoa_nat {z : Int} (h : 0 ≤ z) : Lib.itoa z = Lib.decDigits z.toNat := by
  unfold Lib.itoa
  rw [if_neg (by omega)]
/-- Empty, or it begins with no digit. -/
def Stop (r : List UInt8) : Prop := r = [] ∨ ∃ c t, r = c :: t ∧ isD c = false
theorem digits_cut : ∀ {a b r s : List UInt8}, (∀ x ∈ a, isD x = true) → (∀ x ∈ b, isD x = true) → Stop r → Stop s → a ++ r = b ++ s → a = b ∧ r = s
  | [], [], _, _, _, _, _, _, h => ⟨rfl, h⟩
  | [], y :: b, r, s, _, hb, hr, _, h => by
    rcases hr with rfl | ⟨c, t, rfl, hc⟩
    · cases h
    · injection h with h1 _
      have := hb y (List.mem_cons_self ..)
      rw [← h1, hc] at this
      cases this
  | x :: a, [], r, s, ha, _, _, hs, h => by
    rcases hs with rfl | ⟨c, t, rfl, hc⟩
    · cases h
    · injection h with h1 _
      have := ha x (List.mem_cons_self ..)
      rw [h1, hc] at this
      cases this
  | x :: a, y :: b, r, s, ha, hb, hr, hs, h => by
    injection h with h1 h2
    obtain ⟨e1, e2⟩ := digits_cut (fun z hz => ha z (List.mem_cons_of_mem _ hz)) (fun z hz => hb z (List.mem_cons_of_mem _ hz)) hr hs h2
    exact ⟨by rw [h1, e1], e2⟩
theorem itoa_dig {z : Int} (h : 0 ≤ z) : ∀ x ∈ Lib.itoa z, isD x = true := by
  rw [itoa_nat h]
  intro x hx
  have := dec_mem _ x hx
  unfold isD
  exact decide_eq_true this
theorem itoa_inj {a b : Int} (ha : 0 ≤ a) (hb : 0 ≤ b) (h : Lib.itoa a = Lib.itoa b) : a = b := by
  rw [itoa_nat ha, itoa_nat hb] at h
  have := dec_inj h
  omega
/-- Numbers, then something that is no digit. -/
theorem num_cut {a b : Int} (ha : 0 ≤ a) (hb : 0 ≤ b) {r s : List UInt8} (hr : Stop r) (hs : Stop s) (h : Lib.itoa a ++ r = Lib.itoa b ++ s) : a = b ∧ r = s := by
  obtain ⟨h1, h2⟩ := digits_cut (itoa_dig ha) (itoa_dig hb) hr hs h
  exact ⟨itoa_inj ha hb h1, h2⟩
theorem stop_cons {c : UInt8} {t : List UInt8} (h : isD c = false) : Stop (c :: t) := .inr ⟨c, t, rfl, h⟩
def Pos3 (a : Arc3) : Prop := 0 ≤ a.1 ∧ 0 ≤ a.2.1 ∧ 0 ≤ a.2.2
theorem arcs_stop : ∀ l : List Arc3, Stop (l.flatMap arcT)
  | [] => .inl rfl
  | a :: r => by
    rw [List.flatMap_cons]
    exact stop_cons (by decide)
theorem arcs_inj : ∀ {l l' : List Arc3}, (∀ a ∈ l, Pos3 a) → (∀ a ∈ l', Pos3 a) → l.flatMap arcT = l'.flatMap arcT → l = l'
  | [], [], _, _, _ => rfl
  | [], b :: r, _, _, h => by
    rw [List.flatMap_cons] at h
    cases h
  | a :: r, [], _, _, h => by
    rw [List.flatMap_cons] at h
    cases h
  | a :: r, b :: s, ha, hb, h => by
    rw [List.flatMap_cons, List.flatMap_cons] at h
    obtain ⟨p1, p2, p3⟩ := ha a (List.mem_cons_self ..)
    obtain ⟨q1, q2, q3⟩ := hb b (List.mem_cons_self ..)
    unfold arcT at h
    simp only [List.cons_append, List.append_assoc] at h
    injection h with _ h
    obtain ⟨e1, h⟩ := num_cut p1 q1 (stop_cons (by decide)) (stop_cons (by decide)) h
    injection h with _ h
    obtain ⟨e2, h⟩ := num_cut p2 q2 (stop_cons (by decide)) (stop_cons (by decide)) h
    injection h with _ h
    obtain ⟨e3, h⟩ := num_cut p3 q3 (arcs_stop r) (arcs_stop s) h
    rw [arcs_inj (fun x hx => ha x (List.mem_cons_of_mem _ hx)) (fun x hx => hb x (List.mem_cons_of_mem _ hx)) h]
    congr 1
    exact Prod.ext e1 (Prod.ext e2 e3)
/-- The text says the class, whether it is final, and the arcs. -/
theorem sigT_inj {c c' : Int} {f f' : Bool} {l l' : List Arc3} (hc : 0 ≤ c) (hc' : 0 ≤ c') (hl : ∀ a ∈ l, Pos3 a) (hl' : ∀ a ∈ l', Pos3 a) (h : sigT c f l = sigT c' f' l') : c = c' ∧ f = f' ∧ l = l' := by
  unfold sigT at h
  rw [List.append_assoc, List.append_assoc] at h
  have stop : ∀ (f : Bool) (l : List Arc3), Stop ((if f then [33] else []) ++ l.flatMap arcT) := by
    intro f l
    cases f
    · exact arcs_stop l
    · exact stop_cons (by decide)
  obtain ⟨e1, h2⟩ := num_cut hc hc' (stop f l) (stop f' l') h
  refine ⟨e1, ?_⟩
  have hne : ∀ (l l' : List Arc3), (33 : UInt8) :: l.flatMap arcT ≠ l'.flatMap arcT := by
    intro l l' e
    cases l' with
    | nil => cases e
    | cons b s =>
      rw [List.flatMap_cons] at e
      unfold arcT at e
      injection e with e _
      exact absurd e (by decide)
  cases f <;> cases f'
  · exact ⟨rfl, arcs_inj hl hl' h2⟩
  · exact absurd h2.symm (hne l' l)
  · exact absurd h2 (hne l l')
  · refine ⟨rfl, arcs_inj hl hl' ?_⟩
    simpa using h2
theorem sigT_ne (c : Int) (f : Bool) (l : List Arc3) (hc : 0 ≤ c) : sigT c f l ≠ [] := by
  unfold sigT
  rw [itoa_nat hc]
  intro h
  have h1 := List.append_eq_nil_iff.1 h
  have h2 := List.append_eq_nil_iff.1 h1.1
  exact dec_ne _ h2.1
end Go.Proofs.YtclahhkcbkpofaaDoor
