/- A disk of the call's own, for the laws' walks; bounds that the calls keep. -/
import Derived.Test.YtkhemhiifhggmaaGreatDoorHPr3
import Derived.Test.YtkhemhiifhggmaaGreatDoorHPr1
import Derived.Lib.BitFns
set_option maxRecDepth 100000
set_option maxHeartbeats 40000000
namespace Go.Proofs.YtkhemhiifhggmaaGreatDoor
open Go.RowKit Go.Maps Go.Sort
def Own {H : Type} (w W : World) (p : Nat) (D : DS H) : Prop :=
 ∃ F : Foot, F.p = p ∧ DiskAt W F D ∧ Below w.heap.size w W ∧ w.heap.size ≤ F.p ∧ w.heap.size ≤ F.fb ∧ w.heap.size ≤ F.nb ∧ w.heap.size ≤ F.kb
section
variable {H : Type} {w W W' : World} {p : Nat} {D D' : DS H}
theorem Own.below (h : Own w W p D) : Below w.heap.size w W := by
 obtain ⟨F, _, _, h, _⟩ := h
 exact h
theorem Own.on (h : Own w W p D) (hb : Below W.heap.size W W') : Own w W' p D := by
 obtain ⟨F, e, h1, h2, h3⟩ := h
 exact ⟨F, e, h1.below hb, bcall h2 hb, h3⟩
theorem dk_new (H : Type) {w W : World} (hb : Below w.heap.size w W) : Calls Tryz.prog 20 #[] W fun e w' => e = .returned (.pointer (some ⟨W.heap.size + 3, 0, none⟩)) ∧ Own w w' (W.heap.size + 3) (DS.new H) := by
 refine (new_any H W).mono fun e w' hh => ?_
 have hs := hb.size
 exact ⟨hh.1, _, rfl, hh.2.1, bcall hb hh.2.2, by show _ ≤ W.heap.size + 3; omega, by show _ ≤ W.heap.size; omega, by show _ ≤ W.heap.size + 1; omega, by show _ ≤ W.heap.size + 2; omega⟩
end
structure DS.small {H : Type} (n : Nat) (D : DS H) : Prop where
 a0 : -1 ≤ D.armed
 a1 : D.armed ≤ 9223372036854775807
 s0 : 0 ≤ D.steps
 s1 : D.steps ≤ n
 l0 : 0 ≤ D.last
 l1 : D.last ≤ n
 c1 : D.cap ≤ 2 * n
section
variable {H : Type} {n : Nat} {D : DS H}
theorem DS.small.fits (h : D.small n) (hn : n ≤ 274877906944) : D.fits := by
 obtain ⟨a, b, c, d, e, f, g⟩ := h
 exact ⟨a, b, c, by omega, e, by omega, by omega⟩
theorem DS.small.more (h : D.small n) {m : Nat} (hm : n ≤ m) : D.small m := by
 obtain ⟨a, b, c, d, e, f, g⟩ := h
 exact ⟨a, b, c, by omega, e, by omega, by omega⟩
theorem small_new (H : Type) : (DS.new H).small 0 := ⟨by show (-1 : Int) ≤ -1; omega, by show (-1 : Int) ≤ 9223372036854775807; omega, by show (0 : Int) ≤ 0; omega, by show (0 : Int) ≤ ((0 : Nat) : Int); omega, by show (0 : Int) ≤ 0; omega, by show (0 : Int) ≤ ((0 : Nat) : Int); omega, by show 0 ≤ 2 * 0; omega⟩
theorem DS.small.step (h : D.small n) : -1 ≤ D.step.1.armed ∧ D.step.1.armed ≤ 9223372036854775807 ∧ 0 ≤ D.step.1.steps ∧ D.step.1.steps ≤ n + 1 ∧ D.step.1.last = D.last ∧ D.step.1.cap = D.cap := by
 obtain ⟨a, b, c, d, e, f, g⟩ := h
 unfold DS.step
 split
 ·exact ⟨Int.le_refl _, by show (-1 : Int) ≤ _; omega, c, by show D.steps ≤ _; omega, rfl, rfl⟩
 ·exact ⟨by show _ ≤ max _ _; omega, by show max _ _ ≤ (_ : Int); omega, by show 0 ≤ D.steps + 1; omega, by show D.steps + 1 ≤ _; omega, rfl, rfl⟩
theorem DS.small.step' (h : D.small n) : D.step.1.small (n + 1) := by
 obtain ⟨x1, x2, x3, x4, x5, x6⟩ := h.step
 obtain ⟨a, b, c, d, e, f, g⟩ := h
 exact ⟨x1, x2, x3, by omega, by omega, by omega, by omega⟩
theorem DS.small.create (h : D.small n) (s : ByteArray) : (D.create s).1.small (n + 1) := by
 obtain ⟨x1, x2, x3, x4, x5, x6⟩ := h.step
 unfold DS.create
 split
 ·exact h.more (by omega)
 ·split
  ·exact h.step'
  ·obtain ⟨a, b, c, d, e, f, g⟩ := h
   exact ⟨x1, x2, x3, by show D.step.1.steps ≤ _; omega, by show 0 ≤ D.last + 1; omega, by show D.last + 1 ≤ _; omega, by show D.cap + 2 ≤ _; omega⟩
theorem DS.small.change (h : D.small n) (s : ByteArray) (G : List UInt8 × Int → List UInt8 × Int) : (D.change s G).1.small (n + 1) := by
 obtain ⟨x1, x2, x3, x4, x5, x6⟩ := h.step
 unfold DS.change
 split
 ·exact h.more (by omega)
 ·split
  ·exact h.more (by omega)
  ·split
   ·exact h.step'
   ·obtain ⟨a, b, c, d, e, f, g⟩ := h
    refine ⟨x1, x2, x3, by show D.step.1.steps ≤ _; omega, by show 0 ≤ D.step.1.last; omega, by show D.step.1.last ≤ _; omega, ?_⟩
    simp only
    omega
theorem DS.small.append (h : D.small n) (s x : ByteArray) : (D.append s x).1.small (n + 1) := h.change s _
theorem DS.small.sync (h : D.small n) (s : ByteArray) : (D.sync s).1.small (n + 1) := h.change s _
theorem DS.small.rename (h : D.small n) (s x : ByteArray) : (D.rename s x).1.small (n + 1) := by
 obtain ⟨x1, x2, x3, x4, x5, x6⟩ := h.step
 unfold DS.rename
 split
 ·exact h.more (by omega)
 ·split
  ·exact h.more (by omega)
  ·split
   ·exact h.step'
   ·obtain ⟨a, b, c, d, e, f, g⟩ := h
    refine ⟨x1, x2, x3, by show D.step.1.steps ≤ _; omega, by show 0 ≤ D.step.1.last; omega, by show D.step.1.last ≤ _; omega, ?_⟩
    simp only
    omega
theorem DS.small.syncDir (h : D.small n) : D.syncDir.1.small (n + 1) := by
 obtain ⟨x1, x2, x3, x4, x5, x6⟩ := h.step
 unfold DS.syncDir
 split
 ·exact h.more (by omega)
 ·split
  ·exact h.step'
  ·obtain ⟨a, b, c, d, e, f, g⟩ := h
   exact ⟨x1, x2, x3, by show D.step.1.steps ≤ _; omega, by show 0 ≤ D.step.1.last; omega, by show D.step.1.last ≤ _; omega, by show D.step.1.cap ≤ _; omega⟩
end
structure DS.good {H : Type} (L : Nat) (D : DS H) : Prop where
 fm : IsMap D.files
 fs : ∀ k, 0 ≤ (fileOf D.files k).2 ∧ (fileOf D.files k).2 ≤ ((fileOf D.files k).1.length : Int) ∧ (fileOf D.files k).1.length ≤ L
theorem key_ne {j k : Int} (h : j ≠ k) : (Lit.int .i64 j) ≠ Lit.int .i64 k := by simpa using h
theorem fileOf_put {H : Type} {M : DataW H} (hm : IsMap M) (k j : Int) (l : List UInt8) (m : Int) : fileOf (M.put (.int .i64 k) (.agg [.lit (.string l), .lit (.int .i64 m)])) j = if j = k then (l, m) else fileOf M j := by
 by_cases h : j = k
 ·subst h
  rw [if_pos rfl]
  unfold fileOf
  rw [atKey_put_same hm (by simp [Go.WideAt.IsKeyLit])]
  rfl
 ·rw [if_neg h]
  unfold fileOf
  rw [atKey_put_other (key_ne h)]
section
variable {H : Type} {L : Nat} {D : DS H}
theorem step_keeps (D : DS H) : D.step.1.files = D.files ∧ D.step.1.names = D.names ∧ D.step.1.kept = D.kept := by
 unfold DS.step
 split <;> exact ⟨rfl, rfl, rfl⟩
theorem DS.good.of_files {D' : DS H} (h : D.good L) (e : D'.files = D.files) : D'.good L := ⟨by rw [e]; exact h.fm, by rw [e]; exact h.fs⟩
theorem good_new (H : Type) : (DS.new H).good 0 := ⟨⟨[], rfl⟩, fun _ => ⟨Int.le_refl _, Int.le_refl _, Nat.le_refl _⟩⟩
theorem DS.good.more (h : D.good L) {M : Nat} (hM : L ≤ M) : D.good M := ⟨h.fm, fun k => by
 obtain ⟨a, b, c⟩ := h.fs k
 exact ⟨a, b, by omega⟩⟩
theorem DS.good.put (h : D.good L) {D' : DS H} {k : Int} {l : List UInt8} {m : Int} (e : D'.files = D.files.put (.int .i64 k) (.agg [.lit (.string l), .lit (.int .i64 m)])) (h0 : 0 ≤ m) (h1 : m ≤ (l.length : Int)) (h2 : l.length ≤ L) : D'.good L :=
 ⟨by rw [e]; exact h.fm.put _ _, fun j => by
  rw [e, fileOf_put h.fm]
  split
  ·exact ⟨h0, h1, h2⟩
  ·exact h.fs j⟩
theorem DS.good.create (h : D.good L) (s : ByteArray) : (D.create s).1.good L := by
 unfold DS.create
 split
 ·exact h
 ·split
  ·exact h.of_files (step_keeps D).1
  ·exact h.put rfl (Int.le_refl _) (Int.le_refl _) (Nat.zero_le _)
theorem DS.good.append (h : D.good L) (s x : ByteArray) : (D.append s x).1.good (L + x.size) := by
 unfold DS.append DS.change
 split
 ·exact h.more (by omega)
 ·split
  ·exact h.more (by omega)
  ·split
   ·exact (h.of_files (step_keeps D).1).more (by omega)
   ·obtain ⟨a, b, c⟩ := h.fs (numOf D.names s)
    refine (h.more (Nat.le_add_right L x.size)).put (k := numOf D.names s) (l := (fileOf D.files (numOf D.names s)).1 ++ x.data.toList) (m := (fileOf D.files (numOf D.names s)).2) ?_ a ?_ ?_
    ·rfl
    ·rw [List.length_append]; omega
    ·rw [List.length_append, Array.length_toList]; show _ + x.size ≤ _; omega
theorem DS.good.sync (h : D.good L) (s : ByteArray) : (D.sync s).1.good L := by
 unfold DS.sync DS.change
 split
 ·exact h
 ·split
  ·exact h
  ·split
   ·exact h.of_files (step_keeps D).1
   ·obtain ⟨a, b, c⟩ := h.fs (numOf D.names s)
    exact h.put (k := numOf D.names s) (l := (fileOf D.files (numOf D.names s)).1) (m := (fileOf D.files (numOf D.names s)).1.length) rfl (by omega) (Int.le_refl _) c
theorem DS.good.rename (h : D.good L) (s x : ByteArray) : (D.rename s x).1.good L := by
 unfold DS.rename
 split
 ·exact h
 ·split
  ·exact h
  ·split
   ·exact h.of_files (step_keeps D).1
   ·exact h.of_files (step_keeps D).1
theorem DS.good.syncDir (h : D.good L) : D.syncDir.1.good L := by
 unfold DS.syncDir
 split
 ·exact h
 ·split
  ·exact h.of_files (step_keeps D).1
  ·exact h.of_files (step_keeps D).1
end
end Go.Proofs.YtkhemhiifhggmaaGreatDoor
namespace Go.Proofs.YtkhemhiifhggmaaGreatDoor
open Go.RowKit Go.Maps Go.Sort
theorem keyS_inj {s t : ByteArray} (h : keyS s = keyS t) : s = t := by
 unfold keyS at h
 injection h with h
 exact tolist_inj.1 (by rw [ByteArray.toList_eq, ByteArray.toList_eq]; exact h)
section
variable {H : Type}
theorem numOf_put_same {M : DataW H} (hm : IsMap M) (s : ByteArray) (x : Int) : numOf (M.put (keyS s) (.lit (.int .i64 x))) s = x := by
 unfold numOf
 rw [atKey_put_same hm (by simp [keyS, Go.WideAt.IsKeyLit])]
 rfl
theorem numOf_put_other {M : DataW H} {s t : ByteArray} (h : s ≠ t) (d : DataW H) : numOf (M.put (keyS t) d) s = numOf M s := by
 unfold numOf
 rw [atKey_put_other (fun e => h (keyS_inj e))]
theorem has_putS_same {M : DataW H} (hm : IsMap M) (s : ByteArray) (d : DataW H) : Maps.has (M.put (keyS s) d) (keyS s) = true := has_put_same hm (by simp [keyS, Go.WideAt.IsKeyLit]) d
theorem has_putS_other {M : DataW H} {s t : ByteArray} (h : s ≠ t) (d : DataW H) : Maps.has (M.put (keyS t) d) (keyS s) = Maps.has M (keyS s) := has_put_other (fun e => h (keyS_inj e)) d
end
end Go.Proofs.YtkhemhiifhggmaaGreatDoor
namespace Go.Proofs.YtkhemhiifhggmaaGreatDoor
open Go.RowKit
def szN (x : Nat) : Nat := max 1 ((Lib.bitLen x + 7) / 8)
def beZ : Nat → Nat → List Int
 | 0, _ => []
 | k + 1, x => ((x / 256 ^ k % 256 : Nat) : Int) :: beZ k x
theorem beZ_length (k x : Nat) : (beZ k x).length = k := by
 induction k with
 | zero => rfl
 | succ k ih => rw [beZ, List.length_cons, ih]
theorem beZ_snoc (k x : Nat) : beZ (k + 1) x = beZ k (x / 256) ++ [((x % 256 : Nat) : Int)] := by
 induction k with
 | zero => simp [beZ]
 |
  succ k ih =>
  rw [beZ, ih, beZ, List.cons_append, Nat.div_div_eq_div_mul, Nat.pow_succ, Nat.mul_comm 256]
theorem bitLen_le8' {x : Nat} (h : x < 256) : Lib.bitLen x ≤ 8 := Lib.bitLen_le8 ⟨x, h⟩
theorem szN_small {x : Nat} (h : x < 256) : szN x = 1 := by
 have := bitLen_le8' h
 unfold szN
 omega
theorem szN_big {x : Nat} (h : 256 ≤ x) (hx : x < 18446744073709551616) : szN x = szN (x / 256) + 1 := by
 have e := Lib.bitLen_shift8 x h hx
 have h1 : 1 ≤ Lib.bitLen (x / 256) := by
  have hx' : x / 256 < 18446744073709551616 := by omega
  rw [Lib.bitLen_half (x / 256) (by omega) (by omega)]
  omega
 unfold szN
 rw [e]
 omega
theorem szN_pos (x : Nat) : 1 ≤ szN x := by unfold szN; omega
def places (x : Nat) : List Int :=
 if x < 256 then [((x % 256 : Nat) : Int)] else places (x / 256) ++ [((x % 256 : Nat) : Int)]
theorem places_eq (x : Nat) : places x = if x < 256 then [((x % 256 : Nat) : Int)] else places (x / 256) ++ [((x % 256 : Nat) : Int)] := by
 rw [places]
theorem places_be : ∀ (k x : Nat), x < 18446744073709551616 → szN x = k → beZ k x = places x
 | 0, x, _, h => by have := szN_pos x; omega
 |
  1, x, hx, h => by
  have h1 : x < 256 := by
   rcases Nat.lt_or_ge x 256 with h1 | h1
   ·exact h1
   ·have := szN_big h1 hx; have := szN_pos (x / 256); omega
  rw [places_eq, if_pos h1]
  simp [beZ]
 |
  k + 2, x, hx, h => by
  have h1 : 256 ≤ x := by
   rcases Nat.lt_or_ge x 256 with h1 | h1
   ·have := szN_small h1; omega
   ·exact h1
  have e := szN_big h1 hx
  rw [places_eq, if_neg (by omega), beZ_snoc, places_be (k + 1) (x / 256) (by omega) (by omega)]
theorem szN_le {x : Nat} (hx : x < 9223372036854775808) : szN x ≤ 8 := by
 have h : ∀ k x : Nat, x < 2 ^ k → k ≤ 64 → Lib.bitLen x ≤ k := by
  intro k
  induction k with
  | zero =>
       intro x h _; obtain rfl : x = 0 := by omega
       decide
  |
   succ k ih =>
   intro x h hk
   by_cases h0 : x = 0
   ·subst h0; exact Nat.le_trans (by decide : Lib.bitLen 0 ≤ 0) (Nat.zero_le _)
   ·have hx64 : x < 2 ^ 64 := Nat.lt_of_lt_of_le h (Nat.pow_le_pow_right (by omega) hk)
    rw [Lib.bitLen_half x h0 hx64]
    have := ih (x / 2) (by rw [Nat.pow_succ] at h; omega) (by omega)
    omega
 have := h 63 x (by simpa using hx) (by omega)
 unfold szN
 omega
def numZ (n : Nat) : List Int := if n ≤ 111 then [((128 + n : Nat) : Int)] else ((239 + szN (n - 112) : Nat) : Int) :: beZ (szN (n - 112)) (n - 112)
theorem numZ_length {n : Nat} (hn : n < 9223372036854775808) : 1 ≤ (numZ n).length ∧ (numZ n).length ≤ 9 := by
 unfold numZ
 split
 ·simp
 ·have := szN_le (x := n - 112) (by omega)
  rw [List.length_cons, beZ_length]
  omega
end Go.Proofs.YtkhemhiifhggmaaGreatDoor
namespace Go.Proofs.YtkhemhiifhggmaaGreatDoor
open Go.RowKit
theorem el_u8 : Elem Tryz.prog 66 5 1 1 := Elem.mk_ Tryz.underlying66 (z := .int .u8 0) (by kernel_rfl) rfl (by omega)
def BRow (W : World) (base : Nat) (v : Value) (zs : List Int) : Prop := W.ownsRow base 5 1 v zs.length (zs.map (.int .u8))
theorem xor_0 {z : Int} (h0 : 0 ≤ z) (h1 : z < 256) : bits .xor .u8 z 0 = z := by
 have h : ∀ n : Fin 256, bits .xor .u8 ((n.val : Nat) : Int) 0 = ((n.val : Nat) : Int) := by decide +kernel
 have := h ⟨z.toNat, by omega⟩
 rwa [show ((z.toNat : Nat) : Int) = z by omega] at this
theorem byte_of (x m : Nat) : (x : Int) / 2 ^ (8 * m) % 256 = ((x / 256 ^ m % 256 : Nat) : Int) := by
 have e : ((2 : Int) ^ (8 * m)) = ((256 ^ m : Nat) : Int) := by
  rw [Int.pow_mul]
  simp
 rw [e]
 rfl
theorem spread_any (W : World) (base : Nat) (hbase : base ≤ W.heap.size) (v : Value) (zs : List Int) (h : BRow W base v zs) (hz : zs.length ≤ 4294967296) (x k : Nat) (hk : k ≤ 8) (_ : x < 9223372036854775808) :
  Calls Tryz.prog 88 #[v, .int .u64 x, .int .i64 k, .int .u8 0] W fun e w' => ∃ v', e = .returned v' ∧ BRow w' base v' (zs ++ beZ k x) ∧ Below base W w' := by
 have HS := Lib.hid h
 have hzl := Lib.hid hz
 clear h hz
 go_enter Tryz.func88, Tryz.ntmps88
 go_wp2_with fail
 go_loopw [0, 9] (fun v i wr => ∃ (j : Nat) (ys : List Int), j ≤ k ∧ i = .int .i64 ((j : Int) - 1) ∧ Hid (BRow wr base v ys) ∧ Hid (Below base W wr) ∧ Hid (ys ++ beZ j x = zs ++ beZ k x)) (fun _ i _ => (intOf i + 1).toNat)
 case atStart => exact ⟨k, zs, Nat.le_refl _, rfl, HS, Lib.hid (Below.refl _ _), Lib.hid rfl⟩
 case round =>
  obtain ⟨j, ys, hj, rfl, HR, HB, HE⟩ := hrel
  have hlen : Hid (ys.length + j = zs.length + k) := by
   have := congrArg List.length HE.out
   rw [List.length_append, List.length_append, beZ_length, beZ_length] at this
   exact this
  by_cases h0 : j = 0
  ·subst h0
   go_wp2_with fail
   have he : ys = zs ++ beZ k x := by
    have := HE.out
    rw [beZ, List.append_nil] at this
    exact this
   subst he
   go_ret
   exact ⟨_, rfl, HR.out, HB.out⟩
  ·obtain ⟨m, rfl⟩ : ∃ m, j = m + 1 := ⟨j - 1, by omega⟩
   have hd := byte_of x m
   have hd0 : 0 ≤ ((x / 256 ^ m % 256 : Nat) : Int) := by omega
   have hd1 : ((x / 256 ^ m % 256 : Nat) : Int) < 256 := by omega
   have hxor := xor_0 hd0 hd1
   have HE2 : Hid ((ys ++ [((x / 256 ^ m % 256 : Nat) : Int)]) ++ beZ m x = zs ++ beZ k x) := by
    have := HE.out
    rw [beZ] at this
    show _ = _
    rw [← this, List.append_assoc]
    rfl
   have hb2 : base ≤ wr.heap.size := Nat.le_trans hbase HB.out.size
   have hl2 : ys.length ≤ 4294967304 := by have := hlen.out; have := hzl.out; omega
   have i1 : ((m + 1 : Nat) : Int) - 1 = (m : Int) := by omega
   rw [i1]
   generalize hdd : ((x / 256 ^ m % 256 : Nat) : Int) = d at *
   clear hdd hd0 hd1 HE
   have HO := HR
   unfold BRow at HO
   go_wp2_with (at_builtin; refine wpList_pushm W _ _ rfl _ _ _ rfl el_u8 _ _ _ rfl HO.out (m := 1) rfl rfl rfl (by simp [Value.oneCell']) (by unfold maxLen; omega) (by omega) hb2 HB.out ?_; intro v1 w1 hown1 hb1 _ _)
   go_roundw
   case rel => exact ⟨m, ys ++ [d], by omega, by go_num, by show World.ownsRow _ _ _ _ _ _ _; rw [List.length_append, List.map_append]; exact hown1, Lib.hid hb1, HE2⟩
   case measure => simp [intOf]
theorem size_any (W : World) (x : Nat) (hx : x < 9223372036854775808) : Calls Tryz.prog 87 #[.int .u64 x] W fun e w' => e = .returned (.int .i64 (szN x)) ∧ w' = W := by
 have HL := Lib.hid (Tryz.bits_Len64 (x : Int) W (by omega) (by omega))
 have hle : Lib.bitLen x ≤ 64 := by
  have := szN_le hx
  unfold szN at this
  omega
 have e1 : ((((x : Nat) : Int).toNat : Nat)) = x := by omega
 have HE : Hid ((szN x : Int) = max 1 ((((Lib.bitLen x : Nat) : Int) + 7).tdiv 8)) := by
  show _ = _
  rw [Int.tdiv_eq_ediv_of_nonneg (by omega)]
  unfold szN
  omega
 rw [e1] at HL
 generalize Lib.bitLen x = m at *
 rw [HE.out]
 clear HE e1
 go_enter Tryz.func87, Tryz.ntmps87
 go_wp2_with fail
 refine HL.out.mono ?_
 rintro e w1 ⟨rfl, rfl⟩
 go_wp2_with fail
 go_ret
 exact ⟨rfl, rfl⟩
theorem put_any (W : World) (base : Nat) (hbase : base ≤ W.heap.size) (v : Value) (zs : List Int) (h : BRow W base v zs) (hz : zs.length ≤ 4294967280) (n : Nat) (hn : n < 9223372036854775808) :
  Calls Tryz.prog 67 #[v, .int .i64 n] W fun e w' => ∃ v', e = .returned v' ∧ BRow w' base v' (zs ++ numZ n) ∧ Below base W w' := by
 have HO := Lib.hid h
 unfold BRow at HO
 have hzl := hz
 clear h hz
 by_cases h1 : n ≤ 111
 ·have q1 : decide ((n : Int) > 111) = false := by simp; omega
  have q2 : decide ((n : Int) < -112) = false := by simp <;> omega
  have hx : (128 + (n : Int)) % 256 = 128 + (n : Int) := by omega
  have hE : Hid (numZ n = [128 + (n : Int)]) := by
   show _ = _
   unfold numZ
   rw [if_pos h1]
   simp
  go_enter Tryz.func67, Tryz.ntmps67
  go_wp2_with (at_builtin; refine wpList_pushm W _ _ rfl _ _ _ rfl el_u8 _ _ _ rfl HO.out (m := 1) rfl rfl rfl (by simp [Value.oneCell']) (by unfold maxLen; omega) (by omega) hbase (Below.refl _ _) ?_; intro v1 w1 hown1 hb1 _ _)
  go_ret
  exact ⟨_, rfl, by rw [hE.out]; show World.ownsRow _ _ _ _ _ _ _; rw [List.length_append, List.map_append]; exact hown1, hb1⟩
 ·have q1 : decide ((n : Int) > 111) = true := by simp; omega
  have hE : Hid (numZ n = ((239 + szN (n - 112) : Nat) : Int) :: beZ (szN (n - 112)) (n - 112)) := by
   show _ = _
   unfold numZ
   rw [if_neg h1]
  have e1 : (n : Int) - 112 = ((n - 112 : Nat) : Int) := by omega
  have hx : n - 112 < 9223372036854775808 := by omega
  have HZ := Lib.hid (fun W => size_any W (n - 112) hx)
  have hs := szN_le hx
  have hs1 := szN_pos (n - 112)
  have HP := Lib.hid (fun (W' : World) (hW : base ≤ W'.heap.size) (v : Value) (zs' : List Int) (h : BRow W' base v zs') (hl : zs'.length ≤ 4294967296) => spread_any W' base hW v zs' h hl (n - 112) (szN (n - 112)) hs hx)
  generalize szN (n - 112) = k at *
  generalize hxx : n - 112 = x at *
  have hb : (239 + (k : Int)) % 256 = 239 + (k : Int) := by omega
  go_enter Tryz.func67, Tryz.ntmps67
  go_wp2_with fail
  refine (HZ.out _).mono ?_
  rintro e w0 ⟨rfl, hw⟩
  subst w0
  go_wp2_with (at_builtin; (refine wpList_pushm W _ _ rfl _ _ _ rfl el_u8 _ _ _ rfl HO.out (m := 1) rfl rfl rfl (by simp [Value.oneCell']) (by unfold maxLen; omega) (by omega) hbase (Below.refl _ _) ?_); intro v1 w1 hown1 hb1 _ _)
  refine (HP.out _ (Nat.le_trans hbase hb1.size) v1 (zs ++ [239 + (k : Int)]) (by show World.ownsRow _ _ _ _ _ _ _; rw [List.length_append, List.map_append]; exact hown1) (by simp; omega)).mono ?_
  rintro e w2 ⟨v2, rfl, h2, hb2⟩
  go_wp2_with fail
  go_ret
  exact ⟨_, rfl, by rw [hE.out]; simpa using h2, hb1.trans hb2⟩
theorem brow_nil (W : World) (base : Nat) : BRow W base (.slice none 0 0) [] := ⟨rfl, .inl ⟨rfl, rfl⟩⟩
def numsZ (ns : List Nat) : List Int := ns.flatMap numZ
theorem numsZ_len {ns : List Nat} (h : ∀ n ∈ ns, n < 9223372036854775808) : (numsZ ns).length ≤ 9 * ns.length := by
 induction ns with
 | nil => simp [numsZ]
 |
  cons n r ih =>
  have h1 := (numZ_length (h n (List.mem_cons_self ..))).2
  have h2 := ih fun x hx => h x (List.mem_cons_of_mem _ hx)
  unfold numsZ at h2 ⊢
  rw [List.flatMap_cons, List.length_append, List.length_cons]
  omega
theorem nums_any (w : World) (A : Option Addr) (m c B : Nat) (ns : List Nat) (hm : m ≤ 1000) (hs : Sl w B 1 A m (ns.map fun n => .int .i64 (n : Nat))) (hB : B ≤ w.heap.size) (hn : ∀ n ∈ ns, n < 9223372036854775808) :
  Calls Tryz.prog 32 #[.slice A m c] w fun e w' => e = .returned (.string (strOfNums (numsZ ns))) ∧ Below w.heap.size w w' := by
 have hl : ns.length = m := by have := hs.1; simpa using this
 have HN := Lib.hid hn
 have HSl := Lib.hid hs
 clear hn hs
 go_enter Tryz.func32, Tryz.ntmps32
 go_wp2_with fail
 go_loopw [3, 8] (fun v i wr => ∃ k : Nat, k ≤ m ∧ i = .int .i64 k ∧ Hid (BRow wr w.heap.size v (numsZ (ns.take k))) ∧ Hid (Below w.heap.size w wr)) (fun _ i _ => m - (intOf i).toNat)
 case atStart => exact ⟨0, Nat.zero_le _, rfl, Lib.hid (brow_nil _ _), Lib.hid (brefl w)⟩
 case round =>
  obtain ⟨k, hk, rfl, HR, HBl⟩ := hrel
  by_cases hlt : k < m
  ·obtain ⟨b, off, rfl, hbB, hcell⟩ := HSl.out.at_ hlt
   obtain ⟨z, hz⟩ : ∃ z, ns[k]? = some z := ⟨ns[k], List.getElem?_eq_getElem (by omega)⟩
   have hcw := (HBl.out.cell (p := ⟨b, off + k, none⟩) (by show b < _; omega)).trans (hcell k (.int .i64 z) (by simp [hz]))
   have hz63 := HN.out z (List.mem_of_getElem? hz)
   have hlen := numsZ_len (ns := ns.take k) (fun x hx => HN.out x (List.mem_of_mem_take hx))
   rw [List.length_take] at hlen
   have HP := Lib.hid (put_any wr w.heap.size HBl.out.size _ _ HR.out (by omega) z hz63)
   have HE : Hid (numsZ (ns.take (k + 1)) = numsZ (ns.take k) ++ numZ z) := by
    show _ = _
    unfold numsZ
    rw [List.take_add_one, hz, List.flatMap_append]
    simp
   clear hcell hlen
   go_wp2_with fail
   refine HP.out.mono ?_
   rintro e w1 ⟨v1, rfl, h1, hb1⟩
   go_wp2_with fail
   go_roundw
   case rel => exact ⟨k + 1, by omega, by go_num, Lib.hid (by rw [HE.out]; exact h1), Lib.hid (HBl.out.trans hb1)⟩
   case measure => simp [intOf]; omega
  ·obtain rfl : k = m := by omega
   have hall : ns.take k = ns := List.take_of_length_le (by omega)
   rw [hall] at HR
   have kc := convert_own (P := Tryz.prog) Tryz.underlying66 Tryz.underlying5 (dst := 9) Tryz.underlying9 HR.out
   clear hall
   go_wp2_with fail
   go_ret
   exact ⟨rfl, HBl.out⟩
end Go.Proofs.YtkhemhiifhggmaaGreatDoor
namespace Go.Proofs.YtkhemhiifhggmaaGreatDoor
open Go.RowKit
def byteN (t : List UInt8) (i : Nat) : Nat := (t.getD i 0).toNat
theorem byteN_in (t : List UInt8) (i : Nat) : byteN t i < 256 := (t.getD i 0).toNat_lt
theorem byteN_get (t : List UInt8) (i : Nat) (h : i < (⟨t.toArray⟩ : ByteArray).size) : ((((⟨t.toArray⟩ : ByteArray)[i]'h).toNat : Nat) : Int) = (byteN t i : Int) := by
 have h' : i < t.length := by
  have : (⟨t.toArray⟩ : ByteArray).size = t.length := by show t.toArray.size = _; simp
  rwa [this] at h
 unfold byteN
 rw [List.getD_eq_getElem?_getD, List.getElem?_eq_getElem h']
 rfl
def flipN (fl : Bool) (c : Nat) : Nat := if fl then 255 - c else c
def accN (fl : Bool) (t : List UInt8) : Nat → Nat
 | 0 => 0
 | k + 1 => accN fl t k * 256 + flipN fl (byteN t (k + 1))
theorem flipN_in (fl : Bool) {c : Nat} (h : c < 256) : flipN fl c < 256 := by unfold flipN; split <;> omega
theorem accN_in (fl : Bool) (t : List UInt8) : ∀ k, accN fl t k < 256 ^ k
 | 0 => by simp [accN]
 |
  k + 1 => by
  have h1 := accN_in fl t k
  have h2 := flipN_in fl (byteN_in t (k + 1))
  rw [accN, Nat.pow_succ]
  generalize 256 ^ k = M at *
  omega
def numR (t : List UInt8) : Int × Int × Int :=
 if t = [] then (0, 0, 2) else
 let h := byteN t 0
 if 16 ≤ h ∧ h < 240 then ((h : Int) - 128, 1, 0) else
 if h < 8 ∨ 247 < h then (0, 0, 3) else
 let fl := decide (h < 16)
 let k := if h < 16 then 16 - h else h - 239
 if t.length ≤ k then (0, 0, 2) else
 if 1 < k ∧ flipN fl (byteN t 1) = 0 then (0, 0, 3) else
 if accN fl t k ≤ 9223372036854775695 then (if h < 16 then (-113 - (accN fl t k : Int), (k : Int) + 1, 0) else ((accN fl t k : Int) + 112, (k : Int) + 1, 0)) else (0, 0, 3)
theorem xor_255 {z : Int} (h0 : 0 ≤ z) (h1 : z < 256) : bits .xor .u8 z 255 = 255 - z := by
 have h : ∀ n : Fin 256, bits .xor .u8 ((n.val : Nat) : Int) 255 = 255 - ((n.val : Nat) : Int) := by decide +kernel
 have := h ⟨z.toNat, by omega⟩
 rwa [show ((z.toNat : Nat) : Int) = z by omega] at this
theorem or_u64 {a c : Nat} (ha : a < 72057594037927936) (hc : c < 256) : bits .or .u64 ((a : Int) * 256) (c : Int) = ((a * 256 + c : Nat) : Int) := by
 have e : ((a : Int) * 256) = ((a * 256 : Nat) : Int) := (Int.natCast_mul a 256).symm
 rw [e]
 simp only [bits, BitVec.ofInt_natCast]
 have hb : IntKind.u64.bits = 64 := rfl
 have h1 : (BitVec.ofNat 64 (a * 256) ||| BitVec.ofNat 64 c).toNat = a * 256 + c := by
  rw [BitVec.toNat_or, BitVec.toNat_ofNat, BitVec.toNat_ofNat, Nat.mod_eq_of_lt (by omega), Nat.mod_eq_of_lt (by omega), Nat.mul_comm a 256]
  exact (Nat.two_pow_add_eq_or_of_lt (i := 8) (by omega) a).symm
 rw [hb, h1]
 exact IntWalk.u64_in _ (by omega)
end Go.Proofs.YtkhemhiifhggmaaGreatDoor
namespace Go.Proofs.YtkhemhiifhggmaaGreatDoor
open Go.RowKit
theorem number_pos (w : World) (t : List UInt8) (hne : t ≠ []) (hr : 240 ≤ byteN t 0 ∧ byteN t 0 ≤ 247) (ht : t.length ≤ 1125899906842624) :
  Calls Tryz.prog 101 #[.string ⟨t.toArray⟩] w fun e w' => e = .returned (.tuple #[.int .i64 (numR t).1, .int .i64 (numR t).2.1, .int .i64 (numR t).2.2]) ∧ Below w.heap.size w w' := by
 have hlen : 0 < t.length := List.length_pos_iff.2 hne
 have q0 : t.isEmpty = false := by
  cases t with
  | nil => exact absurd rfl hne
  | cons _ _ => rfl
 have hz0 := byteN_get t 0 (by show 0 < t.toArray.size; simp; omega)
 obtain ⟨k, hk⟩ : ∃ k, byteN t 0 - 239 = k := ⟨_, rfl⟩
 have hk1 : 1 ≤ k ∧ k ≤ 8 := by omega
 have HNR : Hid (numR t = if t.length ≤ k then (0, 0, 2) else if 1 < k ∧ flipN false (byteN t 1) = 0 then (0, 0, 3) else if accN false t k ≤ 9223372036854775695 then ((accN false t k : Int) + 112, (k : Int) + 1, 0) else (0, 0, 3)) := by
  show _ = _
  unfold numR
  rw [if_neg hne]
  simp only
  rw [if_neg (by omega), if_neg (by omega)]
  rw [if_neg (show ¬ byteN t 0 < 16 by omega), if_neg (show ¬ byteN t 0 < 16 by omega), show decide (byteN t 0 < 16) = false by simp; omega]
  rw [hk]
 obtain ⟨H, hH⟩ : ∃ H : Int, (byteN t 0 : Int) = H := ⟨_, rfl⟩
 rw [hH] at hz0
 have hK : H - 239 = (k : Int) := by omega
 have hH2 : 240 ≤ H ∧ H ≤ 247 := by omega
 clear hH hr hk hne
 have hw1 : IntKind.i64.wrap H = H := IntWalk.i64_in _ (by omega)
 obtain ⟨hHa, hHb⟩ := hH2
 have p1 : decide (H ≥ 16) = true := by simp; omega
 have p1' : decide (H < 240) = false := by simp; omega
 have p2 : decide (H < 8) = false := by simp; omega
 have p3 : decide (H > 247) = false := by simp; omega
 have p4 : decide (H < 16) = false := by simp; omega
 by_cases hs : t.length ≤ k
 ·have g1 : decide ((k : Int) ≥ (t.length : Int)) = true := by simp; omega
  have g2 : decide (t.length ≤ k) = true := by simpa using hs
  rw [HNR.out, if_pos hs]
  go_enter Tryz.func101, Tryz.ntmps101
  go_wp2_with fail
  go_ret3
  exact ⟨rfl, brefl w⟩
 have g1 : decide ((k : Int) ≥ (t.length : Int)) = false := by simp; omega
 have g2 : decide (t.length ≤ k) = false := by simpa using hs
 have HT : Hid (numR t = if 1 < k ∧ flipN false (byteN t 1) = 0 then (0, 0, 3) else if accN false t k ≤ 9223372036854775695 then ((accN false t k : Int) + 112, (k : Int) + 1, 0) else (0, 0, 3)) := by
  show _ = _
  rw [HNR.out, if_neg hs]
 clear HNR
 go_enter Tryz.func101, Tryz.ntmps101
 go_wp2_with fail
 clear q0 hz0 hK hw1 p1 p2 p3 p4 g1 g2 hHa hHb
 go_loopw [8, 9] (fun xv iv wr => ∃ i : Nat, i ≤ k ∧ iv = .int .i64 ((i : Int) + 1) ∧ xv = .int .u64 (accN false t i : Nat) ∧ wr = w) (fun _ iv _ => k + 1 - (intOf iv).toNat)
 case atStart => exact ⟨0, Nat.zero_le _, rfl, rfl, rfl⟩
 case round =>
  obtain ⟨i, hi, rfl, rfl, rfl⟩ := hrel
  by_cases hlt : i < k
  ·have g1 : decide ((i : Int) + 1 ≤ (k : Int)) = true := by simp; omega
   have hz := byteN_get t (i + 1) (by show i + 1 < t.toArray.size; simp; omega)
   have hbi := byteN_in t (i + 1)
   have hx := xor_0 (z := (byteN t (i + 1) : Int)) (by omega) (by omega)
   have hacc := accN_in false t i
   have hpow : 256 ^ i ≤ 256 ^ 7 := Nat.pow_le_pow_right (by omega) (by omega)
   have hor : bits .or .u64 ((accN false t i : Int) * 256) ((byteN t (i + 1) : Int)) = ((accN false t (i + 1) : Nat) : Int) := by
    have h := or_u64 (a := accN false t i) (c := flipN false (byteN t (i + 1))) (by omega) (flipN_in _ hbi)
    have e : ((flipN false (byteN t (i + 1)) : Nat) : Int) = (byteN t (i + 1) : Int) := by
     unfold flipN
     simp
     try omega
    rw [e] at h
    rw [h]
    rfl
   have i0 : (0 : Int) ≤ (i : Int) + 1 := by omega
   have i1 : (i : Int) + 1 < (t.length : Int) := by omega
   go_wp2_with fail
   go_roundw
   case rel => exact ⟨i + 1, by omega, by go_num, by first | rfl | rw [hor], by first | rfl | trivial⟩
   case measure => simp [intOf]; omega
  ·obtain rfl : i = k := by omega
   have g1 : decide ((i : Int) + 1 ≤ (i : Int)) = false := by simp; omega
   have hz := byteN_get t 1 (by show 1 < t.toArray.size; simp; omega)
   have hbi := byteN_in t 1
   have hx := xor_0 (z := (byteN t 1 : Int)) (by omega) (by omega)
   have hacc := accN_in false t i
   have hpow : 256 ^ i ≤ 256 ^ 8 := Nat.pow_le_pow_right (by omega) (by omega)
   have HTT := HT.out
   have j0 : (1 : Int) < (t.length : Int) := by omega
   generalize accN false t i = X at *
   by_cases c1 : 1 < i ∧ flipN false (byteN t 1) = 0
   ·rw [if_pos c1] at HTT
    have k1 : decide ((i : Int) > 1) = true := by simp; omega
    have k2 : decide (i > 1) = true := by simp; omega
    have k3 : ((byteN t 1 : Int)) = 0 := by
     have := c1.2
     unfold flipN at this
     simp at this
     omega
    go_wp2_with fail
    all_goals
     go_ret3
     exact ⟨by first | (rw [HTT]; done) | (rw [HTT]; rfl), brefl _⟩
   rw [if_neg c1] at HTT
   have hcase : (decide ((i : Int) > 1) = false) ∨ (decide ((i : Int) > 1) = true ∧ (((byteN t 1 : Int)) == 0) = false) := by
    by_cases hi1 : 1 < i
    ·refine .inr ⟨by simp; omega, ?_⟩
     have h2 : ¬ flipN false (byteN t 1) = 0 := fun e => c1 ⟨hi1, e⟩
     unfold flipN at h2
     simp at h2
     simp
     omega
    ·exact .inl (by simp; omega)
   clear c1
   by_cases c2 : X ≤ 9223372036854775695
   ·rw [if_pos c2] at HTT
    have k4 : decide ((X : Int) ≤ 9223372036854775695) = true := by simp; omega
    have k5 : decide (X ≤ 9223372036854775695) = true := by simpa using c2
    have w1 : IntKind.i64.wrap (X : Int) = (X : Int) := IntWalk.i64_in _ (by omega)
    rcases hcase with k1 | ⟨k1, k3⟩
    all_goals
     go_wp2_with fail
     all_goals
      go_ret3
      exact ⟨by first | (rw [HTT]; done) | (rw [HTT]; rfl), brefl _⟩
   ·rw [if_neg c2] at HTT
    have k4 : decide ((X : Int) ≤ 9223372036854775695) = false := by simp; omega
    have k5 : decide (X ≤ 9223372036854775695) = false := by simpa using c2
    rcases hcase with k1 | ⟨k1, k3⟩
    all_goals
     go_wp2_with fail
     all_goals
      go_ret3
      exact ⟨by first | (rw [HTT]; done) | (rw [HTT]; rfl), brefl _⟩
theorem number_neg (w : World) (t : List UInt8) (hne : t ≠ []) (hr : 8 ≤ byteN t 0 ∧ byteN t 0 < 16) (ht : t.length ≤ 1125899906842624) :
  Calls Tryz.prog 101 #[.string ⟨t.toArray⟩] w fun e w' => e = .returned (.tuple #[.int .i64 (numR t).1, .int .i64 (numR t).2.1, .int .i64 (numR t).2.2]) ∧ Below w.heap.size w w' := by
 have hlen : 0 < t.length := List.length_pos_iff.2 hne
 have q0 : t.isEmpty = false := by
  cases t with
  | nil => exact absurd rfl hne
  | cons _ _ => rfl
 have hz0 := byteN_get t 0 (by show 0 < t.toArray.size; simp; omega)
 obtain ⟨k, hk⟩ : ∃ k, 16 - byteN t 0 = k := ⟨_, rfl⟩
 have hk1 : 1 ≤ k ∧ k ≤ 8 := by omega
 have HNR : Hid (numR t = if t.length ≤ k then (0, 0, 2) else if 1 < k ∧ flipN true (byteN t 1) = 0 then (0, 0, 3) else if accN true t k ≤ 9223372036854775695 then (-113 - (accN true t k : Int), (k : Int) + 1, 0) else (0, 0, 3)) := by
  show _ = _
  unfold numR
  rw [if_neg hne]
  simp only
  rw [if_neg (by omega), if_neg (by omega)]
  rw [if_pos (show byteN t 0 < 16 by omega), if_pos (show byteN t 0 < 16 by omega), show decide (byteN t 0 < 16) = true by simpa using hr.2]
  rw [hk]
 obtain ⟨H, hH⟩ : ∃ H : Int, (byteN t 0 : Int) = H := ⟨_, rfl⟩
 rw [hH] at hz0
 have hK : 16 - H = (k : Int) := by omega
 have hH2 : 8 ≤ H ∧ H < 16 := by omega
 clear hH hr hk hne
 have hw1 : IntKind.i64.wrap H = H := IntWalk.i64_in _ (by omega)
 obtain ⟨hHa, hHb⟩ := hH2
 have p1 : decide (H ≥ 16) = false := by simp; omega
 have p2 : decide (H < 8) = false := by simp; omega
 have p3 : decide (H > 247) = false := by simp; omega
 have p4 : decide (H < 16) = true := by simp; omega
 by_cases hs : t.length ≤ k
 ·have g1 : decide ((k : Int) ≥ (t.length : Int)) = true := by simp; omega
  have g2 : decide (t.length ≤ k) = true := by simpa using hs
  rw [HNR.out, if_pos hs]
  go_enter Tryz.func101, Tryz.ntmps101
  go_wp2_with fail
  go_ret3
  exact ⟨rfl, brefl w⟩
 have g1 : decide ((k : Int) ≥ (t.length : Int)) = false := by simp; omega
 have g2 : decide (t.length ≤ k) = false := by simpa using hs
 have HT : Hid (numR t = if 1 < k ∧ flipN true (byteN t 1) = 0 then (0, 0, 3) else if accN true t k ≤ 9223372036854775695 then (-113 - (accN true t k : Int), (k : Int) + 1, 0) else (0, 0, 3)) := by
  show _ = _
  rw [HNR.out, if_neg hs]
 clear HNR
 go_enter Tryz.func101, Tryz.ntmps101
 go_wp2_with fail
 clear q0 hz0 hK hw1 p1 p2 p3 p4 g1 g2 hHa hHb
 go_loopw [8, 9] (fun xv iv wr => ∃ i : Nat, i ≤ k ∧ iv = .int .i64 ((i : Int) + 1) ∧ xv = .int .u64 (accN true t i : Nat) ∧ wr = w) (fun _ iv _ => k + 1 - (intOf iv).toNat)
 case atStart => exact ⟨0, Nat.zero_le _, rfl, rfl, rfl⟩
 case round =>
  obtain ⟨i, hi, rfl, rfl, rfl⟩ := hrel
  by_cases hlt : i < k
  ·have g1 : decide ((i : Int) + 1 ≤ (k : Int)) = true := by simp; omega
   have hz := byteN_get t (i + 1) (by show i + 1 < t.toArray.size; simp; omega)
   have hbi := byteN_in t (i + 1)
   have hx := xor_255 (z := (byteN t (i + 1) : Int)) (by omega) (by omega)
   have hacc := accN_in true t i
   have hpow : 256 ^ i ≤ 256 ^ 7 := Nat.pow_le_pow_right (by omega) (by omega)
   have hor : bits .or .u64 ((accN true t i : Int) * 256) (255 - (byteN t (i + 1) : Int)) = ((accN true t (i + 1) : Nat) : Int) := by
    have h := or_u64 (a := accN true t i) (c := flipN true (byteN t (i + 1))) (by omega) (flipN_in _ hbi)
    have e : ((flipN true (byteN t (i + 1)) : Nat) : Int) = 255 - (byteN t (i + 1) : Int) := by
     unfold flipN
     simp
     try omega
    rw [e] at h
    rw [h]
    rfl
   have i0 : (0 : Int) ≤ (i : Int) + 1 := by omega
   have i1 : (i : Int) + 1 < (t.length : Int) := by omega
   go_wp2_with fail
   go_roundw
   case rel => exact ⟨i + 1, by omega, by go_num, by first | rfl | rw [hor], by first | rfl | trivial⟩
   case measure => simp [intOf]; omega
  ·obtain rfl : i = k := by omega
   have g1 : decide ((i : Int) + 1 ≤ (i : Int)) = false := by simp; omega
   have hz := byteN_get t 1 (by show 1 < t.toArray.size; simp; omega)
   have hbi := byteN_in t 1
   have hx := xor_255 (z := (byteN t 1 : Int)) (by omega) (by omega)
   have hacc := accN_in true t i
   have hpow : 256 ^ i ≤ 256 ^ 8 := Nat.pow_le_pow_right (by omega) (by omega)
   have HTT := HT.out
   have j0 : (1 : Int) < (t.length : Int) := by omega
   generalize accN true t i = X at *
   by_cases c1 : 1 < i ∧ flipN true (byteN t 1) = 0
   ·rw [if_pos c1] at HTT
    have k1 : decide ((i : Int) > 1) = true := by simp; omega
    have k2 : decide (i > 1) = true := by simp; omega
    have k3 : (255 - (byteN t 1 : Int)) = 0 := by
     have := c1.2
     unfold flipN at this
     simp at this
     omega
    go_wp2_with fail
    all_goals
     go_ret3
     exact ⟨by first | (rw [HTT]; done) | (rw [HTT]; rfl), brefl _⟩
   rw [if_neg c1] at HTT
   have hcase : (decide ((i : Int) > 1) = false) ∨ (decide ((i : Int) > 1) = true ∧ ((255 - (byteN t 1 : Int)) == 0) = false) := by
    by_cases hi1 : 1 < i
    ·refine .inr ⟨by simp; omega, ?_⟩
     have h2 : ¬ flipN true (byteN t 1) = 0 := fun e => c1 ⟨hi1, e⟩
     unfold flipN at h2
     simp at h2
     simp
     omega
    ·exact .inl (by simp; omega)
   clear c1
   by_cases c2 : X ≤ 9223372036854775695
   ·rw [if_pos c2] at HTT
    have k4 : decide ((X : Int) ≤ 9223372036854775695) = true := by simp; omega
    have k5 : decide (X ≤ 9223372036854775695) = true := by simpa using c2
    have w1 : IntKind.i64.wrap (X : Int) = (X : Int) := IntWalk.i64_in _ (by omega)
    rcases hcase with k1 | ⟨k1, k3⟩
    all_goals
     go_wp2_with fail
     all_goals
      go_ret3
      exact ⟨by first | (rw [HTT]; done) | (rw [HTT]; rfl), brefl _⟩
   ·rw [if_neg c2] at HTT
    have k4 : decide ((X : Int) ≤ 9223372036854775695) = false := by simp; omega
    have k5 : decide (X ≤ 9223372036854775695) = false := by simpa using c2
    rcases hcase with k1 | ⟨k1, k3⟩
    all_goals
     go_wp2_with fail
     all_goals
      go_ret3
      exact ⟨by first | (rw [HTT]; done) | (rw [HTT]; rfl), brefl _⟩
theorem number_any (w : World) (t : List UInt8) (ht : t.length ≤ 1125899906842624) :
  Calls Tryz.prog 101 #[.string ⟨t.toArray⟩] w fun e w' => e = .returned (.tuple #[.int .i64 (numR t).1, .int .i64 (numR t).2.1, .int .i64 (numR t).2.2]) ∧ Below w.heap.size w w' := by
 by_cases hne : t = []
 ·subst hne
  have hr : numR [] = (0, 0, 2) := rfl
  rw [hr]
  go_enter Tryz.func101, Tryz.ntmps101
  go_wp2_with fail
  go_ret3
  exact ⟨rfl, brefl w⟩
 have hb := byteN_in t 0
 by_cases h1 : 8 ≤ byteN t 0 ∧ byteN t 0 < 16
 ·exact number_neg w t hne h1 ht
 by_cases h2 : 240 ≤ byteN t 0 ∧ byteN t 0 ≤ 247
 ·exact number_pos w t hne h2 ht
 have hlen : 0 < t.length := List.length_pos_iff.2 hne
 have q0 : t.isEmpty = false := by
  cases t with
  | nil => exact absurd rfl hne
  | cons _ _ => rfl
 have hz0 := byteN_get t 0 (by show 0 < t.toArray.size; simp; omega)
 by_cases h3 : 16 ≤ byteN t 0 ∧ byteN t 0 < 240
 ·have hr : Hid (numR t = ((byteN t 0 : Int) - 128, 1, 0)) := by
   show _ = _
   unfold numR
   rw [if_neg hne]
   simp only
   rw [if_pos h3]
  obtain ⟨H, hH⟩ : ∃ H : Int, (byteN t 0 : Int) = H := ⟨_, rfl⟩
  rw [hH] at hz0 hr
  have hH2 : 16 ≤ H ∧ H < 240 := by omega
  obtain ⟨hHa, hHb⟩ := hH2
  have hw1 : IntKind.i64.wrap H = H := IntWalk.i64_in _ (by omega)
  have p1 : decide (H ≥ 16) = true := by simp; omega
  have p2 : decide (H < 240) = true := by simp; omega
  clear h1 h2 h3 hH hb hne
  go_enter Tryz.func101, Tryz.ntmps101
  go_wp2_with fail
  go_ret3
  exact ⟨by rw [hr.out]; rfl, brefl w⟩
 ·have hr : Hid (numR t = (0, 0, 3)) := by
   show _ = _
   unfold numR
   rw [if_neg hne]
   simp only
   rw [if_neg h3, if_pos (by omega)]
  have hcase : (byteN t 0 < 8) ∨ (247 < byteN t 0) := by omega
  obtain ⟨H, hH⟩ : ∃ H : Int, (byteN t 0 : Int) = H := ⟨_, rfl⟩
  rw [hH] at hz0
  have hH2 : (H < 8 ∧ 0 ≤ H) ∨ (247 < H ∧ H < 256) := by omega
  clear h1 h2 h3 hH hb hne hcase
  rcases hH2 with ⟨hHa, hHb⟩ | ⟨hHa, hHb⟩
  ·have hw1 : IntKind.i64.wrap H = H := IntWalk.i64_in _ (by omega)
   have p1 : decide (H ≥ 16) = false := by simp; omega
   have p2 : decide (H < 8) = true := by simp; omega
   go_enter Tryz.func101, Tryz.ntmps101
   go_wp2_with fail
   go_ret3
   exact ⟨by rw [hr.out]; rfl, brefl w⟩
  ·have hw1 : IntKind.i64.wrap H = H := IntWalk.i64_in _ (by omega)
   have p1 : decide (H ≥ 16) = true := by simp; omega
   have p1' : decide (H < 240) = false := by simp; omega
   have p2 : decide (H < 8) = false := by simp; omega
   have p3 : decide (H > 247) = true := by simp; omega
   go_enter Tryz.func101, Tryz.ntmps101
   go_wp2_with fail
   go_ret3
   exact ⟨by rw [hr.out]; rfl, brefl w⟩
end Go.Proofs.YtkhemhiifhggmaaGreatDoor
namespace Go.Proofs.YtkhemhiifhggmaaGreatDoor
open Go.RowKit
def CurAt (W : World) (b : Nat) (t : List UInt8) : Prop := W.heap[b]? = some (.cells #[.string ⟨t.toArray⟩] 114 (0, 0))
theorem run_from (t : List UInt8) (k : Nat) (h : k ≤ t.length) (w : World) : (Instr.slice 9 (.string ⟨t.toArray⟩) (some (.int .i64 (k : Nat))) none none).run Tryz.prog w = .ok (.string ⟨(t.drop k).toArray⟩) w := by
 have hz : (⟨t.toArray⟩ : ByteArray).size = t.length := by show t.toArray.size = _; simp
 have e : (⟨t.toArray⟩ : ByteArray).extract k t.length = ⟨(t.drop k).toArray⟩ := by
  apply ByteArray.ext
  apply Array.ext'
  simp [ByteArray.data_extract, List.take_of_length_le]
 have hb : ((k : Nat) : Int) ≤ ((t.length : Nat) : Int) := by omega
 have hc : (0 : Int) ≤ (k : Nat) := by omega
 simp [Instr.slice, run_underlying Tryz.underlying9, Instr.sliceBounds, run_sliceBound, hz, hb, e]
theorem at_any (w : World) (t : List UInt8) : Calls Tryz.prog 41 #[.string ⟨t.toArray⟩] w fun e w' => e = .returned (.pointer (some ⟨w.heap.size, 0, none⟩)) ∧ CurAt w' w.heap.size t ∧ Below w.heap.size w w' := by
 go_enter Tryz.func41, Tryz.ntmps41
 go_wp2_with fail
 go_ret
 exact ⟨rfl, heap_alloc_new w _, bnew (brefl w) _⟩
theorem rest_any (w : World) (b : Nat) (t : List UInt8) (h : CurAt w b t) : Calls Tryz.prog 44 #[.pointer (some ⟨b, 0, none⟩)] w fun e w' => e = .returned (.string ⟨t.toArray⟩) ∧ w' = w := by
 have c0 := cell_of_row w b 0 _ _ (0, 0) h
 simp at c0
 clear h
 go_enter Tryz.func44, Tryz.ntmps44
 go_wp2_with fail
 go_ret
 exact ⟨rfl, rfl⟩
def readNum (t : List UInt8) : Int × Int × List UInt8 := if (numR t).2.2 = 0 then ((numR t).1, 0, t.drop (numR t).2.1.toNat) else (0, (numR t).2.2, t)
theorem numR_k (t : List UInt8) (h : (numR t).2.2 = 0) : ∃ k : Nat, (numR t).2.1 = (k : Int) ∧ 1 ≤ k ∧ k ≤ t.length := by
 unfold numR at h ⊢
 by_cases hne : t = []
 ·rw [if_pos hne] at h
  cases h
 have hlen : 0 < t.length := List.length_pos_iff.2 hne
 rw [if_neg hne] at h ⊢
 simp only at h ⊢
 by_cases h1 : 16 ≤ byteN t 0 ∧ byteN t 0 < 240
 ·rw [if_pos h1]
  exact ⟨1, rfl, Nat.le_refl _, hlen⟩
 rw [if_neg h1] at h ⊢
 by_cases h2 : byteN t 0 < 8 ∨ 247 < byteN t 0
 ·rw [if_pos h2] at h
  cases h
 rw [if_neg h2] at h ⊢
 have hK : 1 ≤ (if byteN t 0 < 16 then 16 - byteN t 0 else byteN t 0 - 239) := by split <;> omega
 generalize (if byteN t 0 < 16 then 16 - byteN t 0 else byteN t 0 - 239) = K at *
 by_cases h3 : t.length ≤ K
 ·rw [if_pos h3] at h
  cases h
 rw [if_neg h3] at h ⊢
 generalize decide (byteN t 0 < 16) = fl at *
 by_cases h4 : 1 < K ∧ flipN fl (byteN t 1) = 0
 ·rw [if_pos h4] at h
  cases h
 rw [if_neg h4] at h ⊢
 by_cases h5 : accN fl t K ≤ 9223372036854775695
 ·rw [if_pos h5]
  by_cases h6 : byteN t 0 < 16
  ·rw [if_pos h6]
   exact ⟨K + 1, (Int.natCast_add K 1).symm, by omega, by omega⟩
  ·rw [if_neg h6]
   exact ⟨K + 1, (Int.natCast_add K 1).symm, by omega, by omega⟩
 ·rw [if_neg h5] at h
  cases h
theorem cur_set {W : World} {b : Nat} {t u : List UInt8} (h : CurAt W b t) : CurAt (W.setCell ⟨b, 0, none⟩ (.string ⟨u.toArray⟩)) b u := by
 unfold CurAt at h ⊢
 simp [World.setCell, Array.getElem?_modify, h]
theorem cur_below {W W' : World} {b : Nat} {t : List UInt8} (h : CurAt W b t) (hb : Below W.heap.size W W') : CurAt W' b t := (hb.block b (Array.getElem?_eq_some_iff.1 h).1).trans h
theorem set_grown' (w : World) (b : Nat) (u : Value) : w.grownBy (w.setCell ⟨b, 0, none⟩ u) (some b) :=
 ⟨rfl, rfl, rfl, by simp [World.setCell], fun k _ hk => Below.heap_setCell _ _ _ k (fun e => hk (by rw [e]))⟩
theorem below_grown {w w' : World} (h : Below w.heap.size w w') (r : Option Nat) : w.grownBy w' r := ⟨h.os, h.tape, h.output, h.size, fun k hk _ => h.block k hk⟩
theorem num_any (w : World) (b : Nat) (t : List UInt8) (h : CurAt w b t) (ht : t.length ≤ 1125899906842624) : Calls Tryz.prog 77 #[.pointer (some ⟨b, 0, none⟩)] w fun e w' => e = .returned (.tuple #[.int .i64 (readNum t).1, .int .i64 (readNum t).2.1]) ∧ CurAt w' b (readNum t).2.2 ∧ w.grownBy w' (some b) := by
 have c0 := cell_of_row w b 0 _ _ (0, 0) h
 simp at c0
 have HN := Lib.hid (number_any w t ht)
 have H := Lib.hid h
 have hkk := numR_k t
 by_cases he : (numR t).2.2 = 0
 ·obtain ⟨k, hk, k1, k2⟩ := hkk he
  have HR : Hid (readNum t = ((numR t).1, 0, t.drop k)) := by
   show _ = _
   unfold readNum
   rw [if_pos he, hk]
   rfl
  rw [HR.out]
  rw [he, hk] at HN
  generalize (numR t).1 = n at *
  have hcut := run_from t k k2
  clear hkk h he hk HR
  go_enter Tryz.func77, Tryz.ntmps77
  go_wp2_with fail
  refine HN.out.mono ?_
  rintro e w1 ⟨rfl, hb1⟩
  have H1 := Lib.hid (cur_below H.out hb1)
  have c1 := cell_of_row w1 b 0 _ _ (0, 0) H1.out
  have f1 : w1.frozen? ⟨b, 0, none⟩ = false := by
   have := H1.out
   unfold CurAt at this
   simp [World.frozen?, this]
  simp at c1
  have HB := Lib.hid hb1
  clear hb1
  go_wp2_with fail
  go_ret2
  exact ⟨rfl, cur_set H1.out, (below_grown HB.out (some b)).trans (set_grown' _ _ _)⟩
 ·have HR : Hid (readNum t = (0, (numR t).2.2, t)) := by
   show _ = _
   unfold readNum
   rw [if_neg he]
  rw [HR.out]
  generalize (numR t).2.2 = e at *
  generalize (numR t).2.1 = k at *
  generalize (numR t).1 = n at *
  have q1 : (e != 0) = true := by simpa using he
  clear hkk h he HR
  go_enter Tryz.func77, Tryz.ntmps77
  go_wp2_with fail
  refine HN.out.mono ?_
  rintro e w1 ⟨rfl, hb1⟩
  go_wp2_with fail
  go_ret2
  exact ⟨rfl, cur_below H.out hb1, below_grown hb1 _⟩
def readCnt (t : List UInt8) : Int × Int × List UInt8 := if (readNum t).2.1 = 0 ∧ (readNum t).1 < 0 then (0, 3, t) else readNum t
theorem count_any (w : World) (b : Nat) (t : List UInt8) (h : CurAt w b t) (ht : t.length ≤ 1125899906842624) : Calls Tryz.prog 43 #[.pointer (some ⟨b, 0, none⟩)] w fun e w' => e = .returned (.tuple #[.int .i64 (readCnt t).1, .int .i64 (readCnt t).2.1]) ∧ CurAt w' b (readCnt t).2.2 ∧ w.grownBy w' (some b) := by
 have c0 := cell_of_row w b 0 _ _ (0, 0) h
 simp at c0
 have HN := Lib.hid (num_any w b t h ht)
 by_cases hc : (readNum t).2.1 = 0 ∧ (readNum t).1 < 0
 ·have HR : readCnt t = (0, 3, t) := if_pos hc
  rw [HR]
  obtain ⟨he, hn⟩ := hc
  rw [he] at HN
  generalize (readNum t).2.2 = u at *
  generalize (readNum t).1 = n at *
  have q2 : decide (n < 0) = true := by simpa using hn
  clear h HR he hn
  go_enter Tryz.func43, Tryz.ntmps43
  go_wp2_with fail
  refine HN.out.mono ?_
  rintro e w1 ⟨rfl, h1, hg1⟩
  have H1 := Lib.hid h1
  have HG := Lib.hid hg1
  have c1 := cell_of_row w1 b 0 _ _ (0, 0) h1
  have f1 : w1.frozen? ⟨b, 0, none⟩ = false := by
   have := h1
   unfold CurAt at this
   simp [World.frozen?, this]
  simp at c1
  clear h1 hg1
  go_wp2_with fail
  go_ret2
  exact ⟨rfl, cur_set H1.out, HG.out.trans (set_grown' _ _ _)⟩
 ·have HR : readCnt t = readNum t := if_neg hc
  rw [HR]
  generalize (readNum t).2.2 = u at *
  generalize (readNum t).2.1 = e at *
  generalize (readNum t).1 = n at *
  have hcase : (e == 0) = false ∨ ((e == 0) = true ∧ decide (n < 0) = false) := by
   by_cases h0 : e = 0
   ·exact .inr ⟨by simpa using h0, by simp; omega⟩
   ·exact .inl (by simpa using h0)
  clear h HR hc
  rcases hcase with q1 | ⟨q1, q2⟩
  all_goals
   go_enter Tryz.func43, Tryz.ntmps43
   go_wp2_with fail
   refine HN.out.mono ?_
   rintro e' w1 ⟨rfl, h1, hg1⟩
   go_wp2_with fail
   go_ret2
   exact ⟨rfl, h1, hg1⟩
end Go.Proofs.YtkhemhiifhggmaaGreatDoor
