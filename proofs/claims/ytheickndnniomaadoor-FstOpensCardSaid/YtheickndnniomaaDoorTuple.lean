/- Package tuple: numbers from 0 on are written. -/
import Derived.Test.YtheickndnniomaaDoorNum
import Derived.Test.YtheickndnniomaaDoorShelf
namespace Go.Proofs.YtheickndnniomaaDoor
open Go.RowKit

theorem el_u8 : Elem Tryd.prog 86 5 1 1 := Elem.mk_ Tryd.underlying86 (z := .int .u8 0) (by kernel_rfl) rfl (by omega)
/-- A row of bytes of the call's own. -/
def BRow (W : World) (base : Nat) (v : Value) (zs : List Int) : Prop := W.ownsRow base 5 1 v zs.length (zs.map (.int .u8))
theorem xor_0 {z : Int} (h0 : 0 ≤ z) (h1 : z < 256) : bits .xor .u8 z 0 = z := by
  have h : ∀ n : Fin 256, bits .xor .u8 ((n.val : Nat) : Int) 0 = ((n.val : Nat) : Int) := by decide +kernel
  have := h ⟨z.toNat, by omega⟩
  rwa [show ((z.toNat : Nat) : Int) = z by omega] at this
theorem byte_of (x m : Nat) : (x : Int) / 2 ^ (8 * m) % 256 = ((x / 256 ^ m % 256 : Nat) : Int) := by
  have e : ((2 : Int) ^ (8 * m)) = ((256 ^ m : Nat) : Int) := by
    rw [Int.pow_mul]
    simp
  rw [e]
  rfl
set_option maxRecDepth 100000 in
set_option maxHeartbeats 4000000 in
theorem spread_any (W : World) (base : Nat) (hbase : base ≤ W.heap.size) (v : Value) (zs : List Int) (h : BRow W base v zs) (hz : zs.length ≤ 4294967296) (x k : Nat) (hk : k ≤ 8) (_ : x < 9223372036854775808) :
    Calls Tryd.prog 52 #[v, .int .u64 x, .int .i64 k, .int .u8 0] W fun e w' => ∃ v', e = .returned v' ∧ BRow w' base v' (zs ++ beZ k x) ∧ Below base W w' := by
  have HS := Lib.hid h
  have hzl := Lib.hid hz
  clear h hz
  go_enter Tryd.func52, Tryd.ntmps52
  go_wp2_with fail
  go_loopw [0, 9] (fun v i wr => ∃ (j : Nat) (ys : List Int), j ≤ k ∧ i = .int .i64 ((j : Int) - 1) ∧ Hid (BRow wr base v ys) ∧ Hid (Below base W wr) ∧ Hid (ys ++ beZ j x = zs ++ beZ k x)) (fun _ i _ => (intOf i + 1).toNat)
  case atStart => exact ⟨k, zs, Nat.le_refl _, rfl, HS, Lib.hid (Below.refl _ _), Lib.hid rfl⟩
  case round =>
    obtain ⟨j, ys, hj, rfl, HR, HB, HE⟩ := hrel
    have hlen : Hid (ys.length + j = zs.length + k) := by
      have := congrArg List.length HE.out
      rw [List.length_append, List.length_append, beZ_length, beZ_length] at this
      exact this
    by_cases h0 : j = 0
    · subst h0
      go_wp2_with fail
      have he : ys = zs ++ beZ k x := by
        have := HE.out
        rw [beZ, List.append_nil] at this
        exact this
      subst he
      go_ret
      exact ⟨_, rfl, HR.out, HB.out⟩
    · obtain ⟨m, rfl⟩ : ∃ m, j = m + 1 := ⟨j - 1, by omega⟩
      have hd := byte_of x m
      have hd0 : 0 ≤ ((x / 256 ^ m % 256 : Nat) : Int) := by omega
      have hd1 : ((x / 256 ^ m % 256 : Nat) : Int) < 256 := by omega
      have hxor := xor_0 hd0 hd1
      have HE2 : Hid ((ys ++ [((x / 256 ^ m % 256 : Nat) : Int)]) ++ beZ m x = zs ++ beZ k x) := by
        have := HE.out
        rw [beZ] at this
        show _ = _
        rw [← this, List.append_assoc]
        rfl
      have hb2 : base ≤ wr.heap.size := Nat.le_trans hbase HB.out.size
      have hl2 : ys.length ≤ 4294967304 := by have := hlen.out; have := hzl.out; omega
      have i1 : ((m + 1 : Nat) : Int) - 1 = (m : Int) := by omega
      rw [i1]
      generalize hdd : ((x / 256 ^ m % 256 : Nat) : Int) = d at *
      clear hdd hd0 hd1 HE
      have HO := HR
      unfold BRow at HO
      go_wp2_with (at_builtin; refine wpList_pushm W _ _ rfl _ _ _ rfl el_u8 _ _ _ rfl HO.out (m := 1) rfl rfl rfl (by simp [Value.oneCell']) (by unfold maxLen; omega) (by omega) hb2 HB.out ?_; intro v1 w1 hown1 hb1 _ _)
      go_roundw
      case rel => exact ⟨m, ys ++ [d], by omega, by go_num, by show World.ownsRow _ _ _ _ _ _ _; rw [List.length_append, List.map_append]; exact hown1, Lib.hid hb1, HE2⟩
      case measure => simp [intOf]
set_option maxRecDepth 100000 in
theorem size_any (W : World) (x : Nat) (hx : x < 9223372036854775808) : Calls Tryd.prog 51 #[.int .u64 x] W fun e w' => e = .returned (.int .i64 (szN x)) ∧ w' = W := by
  have HL := Lib.hid (Tryd.bits_Len64 (x : Int) W (by omega) (by omega))
  have hle : Lib.bitLen x ≤ 64 := by
    have := szN_le hx
    unfold szN at this
    omega
  have e1 : ((((x : Nat) : Int).toNat : Nat)) = x := by omega
  have HE : Hid ((szN x : Int) = max 1 ((((Lib.bitLen x : Nat) : Int) + 7).tdiv 8)) := by
    show _ = _
    rw [Int.tdiv_eq_ediv_of_nonneg (by omega)]
    unfold szN
    omega
  rw [e1] at HL
  generalize Lib.bitLen x = m at *
  rw [HE.out]
  clear HE e1
  go_enter Tryd.func51, Tryd.ntmps51
  go_wp2_with fail
  refine HL.out.mono ?_
  rintro e w1 ⟨rfl, rfl⟩
  go_wp2_with fail
  go_ret
  exact ⟨rfl, rfl⟩
set_option maxRecDepth 100000 in
set_option maxHeartbeats 4000000 in
theorem put_any (W : World) (base : Nat) (hbase : base ≤ W.heap.size) (v : Value) (zs : List Int) (h : BRow W base v zs) (hz : zs.length ≤ 4294967280) (n : Nat) (hn : n < 9223372036854775808) :
    Calls Tryd.prog 42 #[v, .int .i64 n] W fun e w' => ∃ v', e = .returned v' ∧ BRow w' base v' (zs ++ numZ n) ∧ Below base W w' := by
  have HO := Lib.hid h
  unfold BRow at HO
  have hzl := hz
  clear h hz
  by_cases h1 : n ≤ 111
  · have q1 : decide ((n : Int) > 111) = false := by simp; omega
    have q2 : decide ((n : Int) < -112) = false := by simp <;> omega
    have hx : (128 + (n : Int)) % 256 = 128 + (n : Int) := by omega
    have hE : Hid (numZ n = [128 + (n : Int)]) := by
      show _ = _
      unfold numZ
      rw [if_pos h1]
      simp
    go_enter Tryd.func42, Tryd.ntmps42
    go_wp2_with (at_builtin; refine wpList_pushm W _ _ rfl _ _ _ rfl el_u8 _ _ _ rfl HO.out (m := 1) rfl rfl rfl (by simp [Value.oneCell']) (by unfold maxLen; omega) (by omega) hbase (Below.refl _ _) ?_; intro v1 w1 hown1 hb1 _ _)
    go_ret
    exact ⟨_, rfl, by rw [hE.out]; show World.ownsRow _ _ _ _ _ _ _; rw [List.length_append, List.map_append]; exact hown1, hb1⟩
  · have q1 : decide ((n : Int) > 111) = true := by simp; omega
    have hE : Hid (numZ n = ((239 + szN (n - 112) : Nat) : Int) :: beZ (szN (n - 112)) (n - 112)) := by
      show _ = _
      unfold numZ
      rw [if_neg h1]
    have e1 : (n : Int) - 112 = ((n - 112 : Nat) : Int) := by omega
    have hx : n - 112 < 9223372036854775808 := by omega
    have HZ := Lib.hid (fun W => size_any W (n - 112) hx)
    have hs := szN_le hx
    have hs1 := szN_pos (n - 112)
    have HP := Lib.hid (fun (W' : World) (hW : base ≤ W'.heap.size) (v : Value) (zs' : List Int) (h : BRow W' base v zs') (hl : zs'.length ≤ 4294967296) => spread_any W' base hW v zs' h hl (n - 112) (szN (n - 112)) hs hx)
    generalize szN (n - 112) = k at *
    generalize hxx : n - 112 = x at *
    have hb : (239 + (k : Int)) % 256 = 239 + (k : Int) := by omega
    go_enter Tryd.func42, Tryd.ntmps42
    go_wp2_with fail
    refine (HZ.out _).mono ?_
    rintro e w0 ⟨rfl, hw⟩
    subst w0
    go_wp2_with (at_builtin; (refine wpList_pushm W _ _ rfl _ _ _ rfl el_u8 _ _ _ rfl HO.out (m := 1) rfl rfl rfl (by simp [Value.oneCell']) (by unfold maxLen; omega) (by omega) hbase (Below.refl _ _) ?_); intro v1 w1 hown1 hb1 _ _)
    refine (HP.out _ (Nat.le_trans hbase hb1.size) v1 (zs ++ [239 + (k : Int)]) (by show World.ownsRow _ _ _ _ _ _ _; rw [List.length_append, List.map_append]; exact hown1) (by simp; omega)).mono ?_
    rintro e w2 ⟨v2, rfl, h2, hb2⟩
    go_wp2_with fail
    go_ret
    exact ⟨_, rfl, by rw [hE.out]; simpa using h2, hb1.trans hb2⟩
theorem brow_nil (W : World) (base : Nat) : BRow W base (.slice none 0 0) [] := ⟨rfl, .inl ⟨rfl, rfl⟩⟩
def numsZ (ns : List Nat) : List Int := ns.flatMap numZ
theorem numsZ_len {ns : List Nat} (h : ∀ n ∈ ns, n < 9223372036854775808) : (numsZ ns).length ≤ 9 * ns.length := by
  induction ns with
  | nil => simp [numsZ]
  | cons n r ih =>
    have h1 := (numZ_length (h n (List.mem_cons_self ..))).2
    have h2 := ih fun x hx => h x (List.mem_cons_of_mem _ hx)
    unfold numsZ at h2 ⊢
    rw [List.flatMap_cons, List.length_append, List.length_cons]
    omega
set_option maxRecDepth 100000 in
set_option maxHeartbeats 4000000 in
/-- tuple.Nums at numbers from 0 on. -/
theorem nums_any (w : World) (A : Option Addr) (m c B : Nat) (ns : List Nat) (hm : m ≤ 1000) (hs : Sl w B 1 A m (ns.map fun n => .int .i64 (n : Nat))) (hB : B ≤ w.heap.size) (hn : ∀ n ∈ ns, n < 9223372036854775808) :
    Calls Tryd.prog 28 #[.slice A m c] w fun e w' => e = .returned (.string (strOfNums (numsZ ns))) ∧ Below w.heap.size w w' := by
  have hl : ns.length = m := by have := hs.1; simpa using this
  have HN := Lib.hid hn
  have HSl := Lib.hid hs
  clear hn hs
  go_enter Tryd.func28, Tryd.ntmps28
  go_wp2_with fail
  go_loopw [3, 8] (fun v i wr => ∃ k : Nat, k ≤ m ∧ i = .int .i64 k ∧ Hid (BRow wr w.heap.size v (numsZ (ns.take k))) ∧ Hid (Below w.heap.size w wr)) (fun _ i _ => m - (intOf i).toNat)
  case atStart => exact ⟨0, Nat.zero_le _, rfl, Lib.hid (brow_nil _ _), Lib.hid (brefl w)⟩
  case round =>
    obtain ⟨k, hk, rfl, HR, HBl⟩ := hrel
    by_cases hlt : k < m
    · obtain ⟨b, off, rfl, hbB, hcell⟩ := HSl.out.at_ hlt
      obtain ⟨z, hz⟩ : ∃ z, ns[k]? = some z := ⟨ns[k], List.getElem?_eq_getElem (by omega)⟩
      have hcw := (HBl.out.cell (p := ⟨b, off + k, none⟩) (by show b < _; omega)).trans (hcell k (.int .i64 z) (by simp [hz]))
      have hz63 := HN.out z (List.mem_of_getElem? hz)
      have hlen := numsZ_len (ns := ns.take k) (fun x hx => HN.out x (List.mem_of_mem_take hx))
      rw [List.length_take] at hlen
      have HP := Lib.hid (put_any wr w.heap.size HBl.out.size _ _ HR.out (by omega) z hz63)
      have HE : Hid (numsZ (ns.take (k + 1)) = numsZ (ns.take k) ++ numZ z) := by
        show _ = _
        unfold numsZ
        rw [List.take_add_one, hz, List.flatMap_append]
        simp
      clear hcell hlen
      go_wp2_with fail
      refine HP.out.mono ?_
      rintro e w1 ⟨v1, rfl, h1, hb1⟩
      go_wp2_with fail
      go_roundw
      case rel => exact ⟨k + 1, by omega, by go_num, Lib.hid (by rw [HE.out]; exact h1), Lib.hid (HBl.out.trans hb1)⟩
      case measure => simp [intOf]; omega
    · obtain rfl : k = m := by omega
      have hall : ns.take k = ns := List.take_of_length_le (by omega)
      rw [hall] at HR
      have kc := convert_own (P := Tryd.prog) Tryd.underlying86 Tryd.underlying5 (dst := 9) Tryd.underlying9 HR.out
      clear hall
      go_wp2_with fail
      go_ret
      exact ⟨rfl, HBl.out⟩
end Go.Proofs.YtheickndnniomaaDoor
