/- point.Save: the whole. -/
import Derived.Test.YtkhemhiifhggmaaGreatDoorHPt7
import Derived.Test.YtkhemhiifhggmaaGreatDoorCards
import Derived.Test.YtkhemhiifhggmaaGreatDoorTie
import Derived.WalkKit
import Derived.ProofKit
import Derived.OpenShut
import Derived.ShutString
import Derived.ChangeOld
import Derived.SizedLaws
import Derived.Deep.DeepHandedRow
import Derived.Lib.LaidTab
import Derived.Lib.LaidU8
import Derived.Test.YtkhemhiifhggmaaGreatDoorHPt5
import Derived.Laws.BitsLemmas
set_option maxRecDepth 100000
set_option maxHeartbeats 40000000
namespace Go.Proofs.YtkhemhiifhggmaaGreatDoor
open Go.RowKit Go.Maps Go.Sort
set_option linter.unusedVariables false
theorem packP_len {w : World} {B : Nat} {A : Option Addr} {m : Nat} {nx : Int} {l : List Sg} (h : SegsIn w B A m l) (hm : m ≤ 4398046511104) : (packP nx l).1.length ≤ 36 * m + 1000 := by
 unfold packP
 split
 ·rename_i hok
  have h1 := flatB_len (segsOk_pos hok.2.1 (Int.le_refl 0) hok.2.2)
  have h2 : ∀ z ∈ [nx, (l.length : Int)], pos63 z := by
   intro z hz
   simp only [List.mem_cons, List.not_mem_nil, or_false] at hz
   have h3 := hok.1
   have h4 := hok.2.1
   have h5 := h.2
   rcases hz with rfl | rfl
   ·exact ⟨by omega, by omega⟩
   ·exact ⟨by omega, by omega⟩
  have h3 := numsI_len4 h2
  have h4 : (textP nx l).length ≤ 36 * m + 18 := by
   unfold textP
   rw [List.length_append, by8_length]
   simp only [List.length_cons, List.length_nil] at h3
   have := h.2
   rw [this] at h1
   omega
  show (sealB 2 (textP nx l)).length ≤ _
  rw [sealB_len]
  have := (blockB_len (textP nx l) (by omega)).2
  omega
 ·exact Nat.zero_le _
theorem save_any {H : Type} (w W : World) (p : Nat) (D : DS H) (h : Own w W p D) (hT : Tab w) (k0 L : Nat) (hk0 : k0 ≤ 200000000000) (hsm : D.small k0) (hg : D.good L) (hL : L ≤ 1152921504606846976) (n : Int) (h63 : -9223372036854775808 ≤ n ∧ n ≤ 9223372036854775807)
  (B : Nat) (hB : B ≤ W.heap.size) (A : Option Addr) (m c : Nat) (l : List Sg) (HS : Hid (SegsIn W B A m l)) (hm : m ≤ 4398046511104) (nx : Int) :
  Calls Tryz.prog 21 #[.pointer (some ⟨p, 0, none⟩), .int .i64 n, .agg #[.int .i64 nx, .slice A m c]] W fun e w' => e = .returned (.int .i64 (saveD D n nx l).2) ∧ Own w w' p (saveD D n nx l).1 ∧ RowsKeep W w' := by
 obtain ⟨W3, hW3⟩ : ∃ W3, ((W.alloc (.cells #[.pointer (some ⟨p, 0, none⟩)] 44)).alloc (.cells #[.int .i64 n] 3)).alloc (.cells #[.int .i64 nx, .slice A m c] 24) = W3 := ⟨_, rfl⟩
 have hs3 : W3.heap.size = W.heap.size + 1 + 1 + 1 := by rw [← hW3]; simp
 have HB3 : Hid (Below W.heap.size W W3) := by show Below _ _ _; rw [← hW3]; exact bnew (bnew (bnew (brefl W) _) _) _
 have HD3 : Hid (W3.heap[W.heap.size]? = some (.cells #[.pointer (some ⟨p, 0, none⟩)] 44 (0, 0)) ∧ W3.heap[W.heap.size + 1]? = some (.cells #[.int .i64 n] 3 (0, 0)) ∧ W3.heap[W.heap.size + 1 + 1]? = some (.cells #[.int .i64 nx, .slice A m c] 24 (0, 0))) := by
  refine ⟨?_, ?_, ?_⟩
  ·rw [← hW3]
   exact (heap_alloc_old _ _ (by simp; omega)).trans ((heap_alloc_old _ _ (by simp)).trans (heap_alloc_new _ _))
  ·rw [← hW3]
   refine (heap_alloc_old _ _ (by simp)).trans ?_
   have := heap_alloc_new (W.alloc (.cells #[.pointer (some ⟨p, 0, none⟩)] 44)) (.cells #[.int .i64 n] 3)
   simpa using this
  ·rw [← hW3]
   have := heap_alloc_new ((W.alloc (.cells #[.pointer (some ⟨p, 0, none⟩)] 44)).alloc (.cells #[.int .i64 n] 3)) (.cells #[.int .i64 nx, .slice A m c] 24)
   simpa using this
 have HP := Lib.hid (pack_any W3 B (by omega) A m c l (Lib.hid (HS.out.keep (HB3.out.mono hB))) hm nx)
 have HPL := Lib.hid (packP_len (nx := nx) HS.out hm)
 have HO := Lib.hid h
 obtain ⟨p0, p1, _, _⟩ := cells2 HD3.out.2.2
 have HSV : Hid (saveD D n nx l = if (packP nx l).2 = 0 ∧ nameP 112 n ≠ [] then runS (acts ⟨(packP nx l).1.toArray⟩ ⟨(nameP 112 n).toArray⟩) D else (D, 1)) := rfl
 generalize saveD D n nx l = R at *
 generalize (packP nx l).1 = S at *
 generalize (packP nx l).2 = x at *
 go_enter Tryz.func21, Tryz.ntmps21
 go_wp2_with fail
 refine HP.out.mono ?_
 rintro e w4 ⟨rfl, hb4⟩
 have HB4 : Hid (Below W.heap.size W w4) := HB3.out.trans (hb4.mono HB3.out.size)
 have hd4 := (hb4.block _ (by omega)).trans HD3.out.1
 have hn4 := (hb4.block _ (by omega)).trans HD3.out.2.1
 have hs4 := hb4.size
 have d0 := cell_of_row w4 W.heap.size 0 _ _ (0, 0) hd4
 have n0 := cell_of_row w4 (W.heap.size + 1) 0 _ _ (0, 0) hn4
 simp at d0 n0
 have HD4 := Lib.hid (And.intro hd4 hn4)
 clear hb4 hd4 hn4 hW3
 have HB5 : Hid (Below W.heap.size W (w4.alloc (.cells #[.string ⟨S.toArray⟩] 9))) := bnew HB4.out _
 have HD5 : Hid ((w4.alloc (.cells #[.string ⟨S.toArray⟩] 9)).heap[W.heap.size]? = some (.cells #[.pointer (some ⟨p, 0, none⟩)] 44 (0, 0)) ∧ (w4.alloc (.cells #[.string ⟨S.toArray⟩] 9)).heap[W.heap.size + 1]? = some (.cells #[.int .i64 n] 3 (0, 0)) ∧ (w4.alloc (.cells #[.string ⟨S.toArray⟩] 9)).heap[w4.heap.size]? = some (.cells #[.string ⟨S.toArray⟩] 9 (0, 0))) :=
  ⟨(heap_alloc_old _ _ (by omega)).trans HD4.out.1, (heap_alloc_old _ _ (by omega)).trans HD4.out.2, heap_alloc_new _ _⟩
 have hs5 : (w4.alloc (.cells #[.string ⟨S.toArray⟩] 9)).heap.size = w4.heap.size + 1 := by simp
 have hl0 : W.heap.size < w4.heap.size := by omega
 have hl1 : W.heap.size + 1 < w4.heap.size := by omega
 by_cases hx : x = 0
 ·subst hx
  have HN := Lib.hid (pname_p (w4.alloc (.cells #[.string ⟨S.toArray⟩] 9)) (hT.below (bcall HO.out.below HB5.out)) n h63)
  go_wp2_with fail
  refine HN.out.mono ?_
  rintro e w6 ⟨rfl, hb6⟩
  have HB6 := Lib.hid (bcall HB5.out hb6)
  have hs6 := hb6.size
  have hd6 := (hb6.block _ (by rw [hs5]; omega)).trans HD5.out.1
  have hn6 := (hb6.block _ (by rw [hs5]; omega)).trans HD5.out.2.1
  have hb6' := (hb6.block _ (by rw [hs5]; omega)).trans HD5.out.2.2
  have d6 := cell_of_row w6 W.heap.size 0 _ _ (0, 0) hd6
  simp at d6
  have HD6 := Lib.hid (And.intro hd6 (And.intro hn6 hb6'))
  have hl6 : w4.heap.size < w6.heap.size := by rw [hs5] at hs6; omega
  clear hb6 hd6 hn6 hb6' hs6
  by_cases hnm : nameP 112 n = []
  ·have hne : (⟨(nameP 112 n).toArray⟩ : ByteArray).toList.isEmpty = true := by rw [ByteArray.toList_eq, hnm]; rfl
   have HRR : Hid (R = (D, 1)) := by show _ = _; rw [HSV.out, if_neg (fun h => h.2 hnm)]
   generalize (⟨(nameP 112 n).toArray⟩ : ByteArray) = N1 at *
   go_wp2_with fail
   go_ret
   exact ⟨by rw [HRR.out]; rfl, by rw [HRR.out]; exact HO.out.on HB6.out, RowsKeep.below HB6.out⟩
  ·have hne : (⟨(nameP 112 n).toArray⟩ : ByteArray).toList.isEmpty = false := by
    rw [ByteArray.toList_eq]
    cases hq : nameP 112 n with
    | nil => exact absurd hq hnm
    | cons a r => rfl
   have HRR : Hid (R = runS (acts ⟨S.toArray⟩ ⟨(nameP 112 n).toArray⟩) D) := by show _ = _; rw [HSV.out, if_pos ⟨trivial, hnm⟩]
   have HNE := Lib.hid hne
   obtain ⟨N1, hN1⟩ : ∃ N1 : ByteArray, ⟨(nameP 112 n).toArray⟩ = N1 := ⟨_, rfl⟩
   have HN1 := Lib.hid hN1
   rw [hN1] at hne
   rw [hN1]
   clear hN1 hnm HN
   go_wp2_with fail
   refine save_o w _ p D ?_ hT k0 L hk0 (Lib.hid hsm) (Lib.hid hg) hL ⟨S.toArray⟩ (by rw [size_arr]; have := HPL.out; omega) n h63 w6.heap.size W.heap.size w4.heap.size (W.heap.size + 1) ?_ ?_ _ _ _ _ _ _ _ _ _ _ _ _ _ _ _ _ _ _ _ _ _ _ _ _ _ _ _ _ _ _ _ _ _ _ _ _ _ _ _ _ (fun c a a' w hd h => by cases a; cases a'; cases hd; exact h) ?_ ?_
   ·exact Lib.hid (HO.out.on (bnew HB6.out _))
   ·exact Lib.hid (heap_alloc_new _ _)
   ·exact Lib.hid ⟨(heap_alloc_old _ _ (by omega)).trans HD6.out.1, (heap_alloc_old _ _ hl6).trans HD6.out.2.2, (heap_alloc_old _ _ (by omega)).trans HD6.out.2.1⟩
   ·intro V x32 u10 u11 u33 u34 u35 u36 u37 u38 u39 u40 u41 HV HZ
    rw [← HRR.out] at HV
    rw [← HRR.out]
    go_wp2_with fail
    go_ret
    exact ⟨rfl, HV.out.1, (RowsKeep.below (bnew HB6.out _)).trans HV.out.2⟩
   ·intro V x32 u6 u10 u11 u33 u34 u35 u36 u37 u38 u39 u40 u41 HV HZ
    rw [← HRR.out] at HV HZ
    go_wp2_with fail
    go_ret
    exact ⟨by rw [HZ.out]; rfl, HV.out.1, (RowsKeep.below (bnew HB6.out _)).trans HV.out.2⟩
 ·have q1 : (x != 0) = true := by simpa using hx
  have HRR : Hid (R = (D, 1)) := by show _ = _; rw [HSV.out, if_neg (fun h => hx h.1)]
  clear hx
  go_wp2_with fail
  go_ret
  exact ⟨by rw [HRR.out]; rfl, by rw [HRR.out]; exact HO.out.on HB5.out, RowsKeep.below HB5.out⟩
end Go.Proofs.YtkhemhiifhggmaaGreatDoor
namespace Go.Proofs.YtkhemhiifhggmaaGreatDoor
open Go.RowKit Go.Maps Go.Sort
set_option linter.unusedVariables false
def Errs (w : World) : Prop := (∃ t p, w.cell? ⟨0, 0, none⟩ = some (.iface t p)) ∧ ∃ t p, w.cell? ⟨1, 0, none⟩ = some (.iface t p)
theorem Errs.below {w w' : World} (h : Errs w) (hb : Below w.heap.size w w') : Errs w' := by
 obtain ⟨⟨t, p, h1⟩, t', p', h2⟩ := h
 exact ⟨⟨t, p, (hb.cell (lt_of_cell h1).1).trans h1⟩, t', p', (hb.cell (lt_of_cell h2).1).trans h2⟩
def numT (s : List UInt8) : Option Int := match Lib.atoiAll s with
 | .ok v => some v
 | _ => none
theorem numT_rng {s : List UInt8} {v : Int} (h : numT s = some v) : -9223372036854775808 ≤ v ∧ v ≤ 9223372036854775807 := by
 unfold numT at h
 split at h
 ·rename_i u hu
  injection h with h
  rw [← h]
  exact Lib.atoiAll_bounds hu
 ·cases h
theorem atoi_pt (w : World) (hE : Errs w) (s : List UInt8) (hs : s.length ≤ 1000) :
  Calls Tryz.prog 53 #[.string ⟨s.toArray⟩] w fun e w' => Below w.heap.size w w' ∧ ∃ (z : Int) (er : Value), e = .returned (.tuple #[.int .i64 z, er]) ∧ ((∃ v, numT s = some v ∧ z = v ∧ er = .nilIface) ∨ (numT s = none ∧ ∃ t p, er = .iface t p)) := by
 have hz := size_arr s
 have hd : (⟨s.toArray⟩ : ByteArray).data.toList = s := by simp
 obtain ⟨⟨t1, p1, h1⟩, t2, p2, h2⟩ := hE
 cases hq : Lib.atoiAll s with
 |
  ok v =>
  refine (Any.strconv_Atoi_ok Tryz.laysC172 ⟨s.toArray⟩ (by rw [hz]; omega) v (by rw [hd]; exact hq) w).mono ?_
  rintro e w' ⟨rfl, hw⟩
  refine ⟨?_, v, _, rfl, .inl ⟨v, by unfold numT; rw [hq], rfl, rfl⟩⟩
  rcases hw with rfl | ⟨t, rfl⟩
  ·exact brefl _
  ·exact Lib.bytesWorld_below _ _ _
 |
  _ =>
  first
  | (
    refine (Any.strconv_Atoi_syntax Tryz.laysC172 ⟨s.toArray⟩ (by rw [hz]; omega) (by rw [hd]; exact hq) (.iface t1 p1) w h1 (.inr ⟨t1, p1, rfl⟩)).mono ?_
    rintro e w' ⟨N, rfl, _, _, hb⟩
    exact ⟨hb, _, _, rfl, .inr ⟨by unfold numT; rw [hq], _, _, rfl⟩⟩)
  | (
    refine (Any.strconv_Atoi_range Tryz.laysC172 ⟨s.toArray⟩ (by rw [hz]; omega) (by rw [hd]; exact hq) (.iface t2 p2) w h2 (.inr ⟨t2, p2, rfl⟩)).mono ?_
    rintro e w' ⟨N, rfl, _, _, hb⟩
    exact ⟨hb, _, _, rfl, .inr ⟨by unfold numT; rw [hq], _, _, rfl⟩⟩)
end Go.Proofs.YtkhemhiifhggmaaGreatDoor
namespace Go.Proofs.YtkhemhiifhggmaaGreatDoor
open Go.RowKit
theorem own : ownKnob Tryz.prog.godebug = none := by kernel_rfl
theorem laidOut : laidOutB Tryz.prog = true := by kernel_rfl
theorem gTabType : (Tryz.prog.globals[2]?).map (·.type) = some 161 := by kernel_rfl
theorem laid_tail {P : Program} {x : String × DataW Unit} {r : List (String × DataW Unit)} {w : World} (h : laidMet P (x :: r) w) : laidMet P r w := by
 obtain ⟨ps, ⟨g, t, cs, fuel, p, q, _, _, _, _, hq, rfl⟩, hn, hc⟩ := h
 exact ⟨q, hq, (List.nodup_append.1 hn).2.1, fun b off hm => hc b off (List.mem_append_right _ hm)⟩
theorem iface_cell {P : Program} {W : World} {n nm : String} {d : DataW Unit} {g : Nat} {t : TypeId} {m : Array (String × TypeId)} (h : Lib.VarReads P W n (.iface nm d)) (hg : P.globalNamed n = some g) (ht : (P.globals[g]?).map (·.type) = some t) (hu : P.underlying t = some (.interface m)) :
  ∃ u v, W.cell? ⟨g, 0, none⟩ = some (.iface u v) := by
 obtain ⟨g', t', cs, fuel, p, hg', ht', hv, hd⟩ := h
 obtain rfl := Option.some.inj (hg.symm.trans hg')
 obtain rfl := Option.some.inj (ht.symm.trans ht')
 have hc := World.var?_cell hg hv 0
 match fuel, hd with
 |
  fuel + 1, hd =>
  unfold DataW.trod at hd
  rw [hu] at hd
  obtain ⟨l⟩ := cs
  match l, hd, hc with
  | [.iface u v], hd, hc => exact ⟨u, v, by simpa using hc⟩
  | [.nilIface], hd, hc => simp at hd
  | [], hd, hc => simp at hd
  | a :: b :: r, hd, hc => simp at hd
  | [.int _ _], hd, hc => simp at hd
theorem table {W : World} (h : laidMetH Tryz.prog Rows.pointTextsRow.laid W) : Tab W ∧ Errs W := by
 refine ⟨Lib.tabIs_of_head (rest := [("strconv.ErrRange", Rows.laid_strconv_ErrRange), ("strconv.ErrSyntax", Rows.laid_strconv_ErrSyntax)]) tab_gn gTabType Tryz.underlying161 Tryz.underlying89 (by kernel_rfl) (by kernel_rfl) (laid_tail (laid_tail h)), ?_, ?_⟩
 ·exact iface_cell (nm := "*errors.errorString") (Lib.laidMet.reads h (n := "strconv.ErrSyntax") (d := Rows.laid_strconv_ErrSyntax) (by simp [Rows.pointTextsRow])) (by kernel_rfl) (t := 84) (by kernel_rfl) Tryz.underlying84
 ·exact iface_cell (nm := "*errors.errorString") (Lib.laidMet.reads h (n := "strconv.ErrRange") (d := Rows.laid_strconv_ErrRange) (by simp [Rows.pointTextsRow])) (by kernel_rfl) (t := 84) (by kernel_rfl) Tryz.underlying84
def cellsOfD : DataW Unit → Array Value
 | .agg l => (l.map fun d => match d with
  | .lit (.int k z) => Value.int k z
  | _ => .nilIface).toArray
 | _ => #[]
def put0 (o : Obj) (d : DataW Unit) : Obj := match o with
 | .cells _ t frozen => .cells (cellsOfD d) t frozen
 | o => o
def putE (o : Obj) (a : Nat) : Obj := match o with
 | .cells _ t frozen => .cells #[.iface 169 (.pointer (some ⟨a, 0, none⟩))] t frozen
 | o => o
def textOfD : DataW Unit → ByteArray
 | .iface _ (.ptr (.agg [.lit (.string l)])) => ⟨l.toArray⟩
 | _ => ⟨#[]⟩
noncomputable def low : Nat := (World.holding Tryz.prog default ⟨#[], #[], []⟩).heap.size
noncomputable def laidWorld (os : Os) : World :=
 let w0 := World.holding Tryz.prog os ⟨#[.cells #[.string (textOfD Rows.laid_strconv_ErrRange)] 171, .cells #[.string (textOfD Rows.laid_strconv_ErrSyntax)] 171], #[], []⟩
 { w0 with heap := ((((w0.heap.modify 2 fun o => put0 o Rows.laid_internal_strconv_uint64pow10).modify 3 fun o => put0 o Rows.laid_math_bits_deBruijn32tab).modify 4 fun o => put0 o Rows.laid_math_bits_deBruijn64tab).modify 1 fun o => putE o low).modify 0 fun o => putE o (low + 1) }
end Go.Proofs.YtkhemhiifhggmaaGreatDoor
namespace Go.Proofs.YtkhemhiifhggmaaGreatDoor
open Go.RowKit
def onesL : List Nat := [6, 9, 10, 16, 20, 21, 22, 24, 25, 27, 28, 30, 31, 32]
def stepF (f : Nat → Bool) (i : Nat) : Nat → Bool := fun p => (f p) ^^ (f i && onesL.any fun o => i + o == p)
def runF (f : Nat → Bool) : Nat → (Nat → Bool)
 | 0 => f
 | k + 1 => stepF (runF f k) k
def msgB (t : List UInt8) (p : Nat) : Bool := (t.getD (p / 8) 0).toNat.testBit (p % 8)
def begF (t : List UInt8) (p : Nat) : Bool := (msgB t p) ^^ (decide (p < 32))
def finN (f : Nat → Bool) (n : Nat) : Nat → Nat
 | 0 => 0
 | m + 1 => 2 * finN f n m + if f (n + 31 - m) then 0 else 1
theorem xor_u32 (a b : Nat) (ha : a < 4294967296) (hb : b < 4294967296) : bits .xor .u32 (a : Int) (b : Int) = ((a ^^^ b : Nat) : Int) := by
 have hp : 4294967296 ≤ 2 ^ IntKind.u32.bits := by decide
 have ha' : a % 2 ^ IntKind.u32.bits = a := Nat.mod_eq_of_lt (Nat.lt_of_lt_of_le ha hp)
 have hb' : b % 2 ^ IntKind.u32.bits = b := Nat.mod_eq_of_lt (Nat.lt_of_lt_of_le hb hp)
 simp only [bits, BitVec.ofInt_natCast, BitVec.toNat_xor, BitVec.toNat_ofNat, ha', hb']
 rw [IntKind.wrap_u32]
 have h : a ^^^ b < 2 ^ 32 := Nat.xor_lt_two_pow (by omega) (by omega)
 omega
def crcS (c : Nat) : Nat := c / 2 ^^^ (if c.testBit 0 then 3988292384 else 0)
theorem crcS_lt {c : Nat} (h : c < 4294967296) : crcS c < 4294967296 := by
 unfold crcS
 refine Nat.xor_lt_two_pow (n := 32) (by omega) ?_
 split <;> omega
theorem crcI_nat (c : Nat) (h : c < 4294967296) : crcI (c : Int) = ((crcS c : Nat) : Int) := by
 have h1 : bits .and .u32 (c : Int) 1 = ((c % 2 : Nat) : Int) := by
  have := (bits_nat .u32 32 (by decide) (fun n h0 h1 => by rw [IntKind.wrap_u32]; omega) c 1 (by omega) (by omega)).1
  rw [Nat.and_one_is_mod] at this
  exact this
 have h2 : (c : Int) / 2 = ((c / 2 : Nat) : Int) := by omega
 unfold crcI crcS
 rw [h1, h2]
 rcases Nat.mod_two_eq_zero_or_one c with e | e
 ·have ht : c.testBit 0 = false := by rw [Nat.testBit_zero, e]; rfl
  rw [e, ht]
  have h3 : bits .and .u32 3988292384 (IntKind.u32.wrap (-((0 : Nat) : Int))) = ((0 : Nat) : Int) := by decide
  rw [h3]
  exact xor_u32 _ _ (by omega) (by decide)
 ·have ht : c.testBit 0 = true := by rw [Nat.testBit_zero, e]; rfl
  rw [e, ht]
  have h3 : bits .and .u32 3988292384 (IntKind.u32.wrap (-((1 : Nat) : Int))) = ((3988292384 : Nat) : Int) := by decide
  rw [h3]
  exact xor_u32 _ _ (by omega) (by decide)
theorem poly_bits (j : Nat) : Nat.testBit 3988292384 j = onesL.any fun o => o == 1 + j := by
 by_cases h : j < 32
 ·have : ∀ j, j < 32 → Nat.testBit 3988292384 j = onesL.any fun o => o == 1 + j := by decide
  exact this j h
 ·rw [Nat.testBit_lt_two_pow (Nat.lt_of_lt_of_le (show 3988292384 < 2 ^ 32 by decide) (Nat.pow_le_pow_right (by decide) (by omega)))]
  symm
  rw [List.any_eq_false]
  intro o ho
  have : ∀ o ∈ onesL, o ≤ 32 := by decide
  have := this o ho
  simp
  omega
theorem crcS_bit (c j : Nat) : (crcS c).testBit j = ((c.testBit (j + 1)) ^^ (c.testBit 0 && onesL.any fun o => o == 1 + j)) := by
 unfold crcS
 rw [Nat.testBit_xor, Nat.testBit_div_two]
 congr 1
 cases c.testBit 0
 ·simp
 ·simp only [if_true, Bool.true_and]
  exact poly_bits j
def Vf (f : Nat → Bool) (base c : Nat) (M : Nat → Bool) : Prop := ∀ j, f (base + j) = ((c.testBit j) ^^ (M j))
theorem Vf.step {f0 : Nat → Bool} {base c : Nat} {M : Nat → Bool} (h : Vf (runF f0 base) base c M) (h0 : M 0 = false) : Vf (runF f0 (base + 1)) (base + 1) (crcS c) (fun j => M (j + 1)) := by
 intro j
 show ((runF f0 base (base + 1 + j)) ^^ (runF f0 base base && onesL.any fun o => base + o == base + 1 + j)) = _
 have e1 : runF f0 base base = c.testBit 0 := by
  have := h 0
  rw [h0, Bool.xor_false] at this
  exact this
 have e2 : runF f0 base (base + 1 + j) = ((c.testBit (j + 1)) ^^ (M (j + 1))) := by
  have := h (j + 1)
  rw [show base + (j + 1) = base + 1 + j by omega] at this
  exact this
 have e3 : (onesL.any fun o => base + o == base + 1 + j) = onesL.any fun o => o == 1 + j := by
  congr 1
  funext o
  by_cases e : o = 1 + j
  ·have : base + o = base + 1 + j := by omega
   rw [beq_iff_eq.2 this, beq_iff_eq.2 e]
  ·have : ¬ base + o = base + 1 + j := by omega
   rw [beq_false_of_ne this, beq_false_of_ne e]
 rw [e1, e2, e3, crcS_bit]
 show _ = (_ ^^ M (j + 1))
 cases c.testBit (j + 1) <;> cases M (j + 1) <;> cases (c.testBit 0 && onesL.any fun o => o == 1 + j) <;> rfl
def crcM : Nat → Nat → Nat
 | 0, c => c
 | k + 1, c => crcS (crcM k c)
theorem Vf.steps {f0 : Nat → Bool} {base c : Nat} {M : Nat → Bool} (h : Vf (runF f0 base) base c M) : ∀ k, (∀ j, j < k → M j = false) → Vf (runF f0 (base + k)) (base + k) (crcM k c) (fun j => M (j + k))
 | 0, _ => h
 |
  k + 1, h0 => by
  have h1 := (Vf.steps h k (fun j hj => h0 j (by omega))).step (by
   show M (0 + k) = false
   exact h0 _ (by omega))
  intro j
  have h2 : runF f0 (base + k + 1) (base + k + 1 + j) = ((crcS (crcM k c)).testBit j ^^ M (j + 1 + k)) := h1 j
  rw [show j + 1 + k = j + (k + 1) by omega] at h2
  exact h2
def crcTN (c : Nat) : List UInt8 → Nat
 | [] => c
 | b :: r => crcTN (crcM 8 (c ^^^ b.toNat)) r
theorem Vf.text {f0 : Nat → Bool} : ∀ (t : List UInt8) {base c : Nat}, Vf (runF f0 base) base c (msgB t) → Vf (runF f0 (base + 8 * t.length)) (base + 8 * t.length) (crcTN c t) (fun _ => false)
 |
  [], base, c, h => by
  intro j
  have := h j
  have e : msgB [] j = false := by simp [msgB]
  rw [e] at this
  exact this
 |
  b :: r, base, c, h => by
  have h1 : Vf (runF f0 base) base (c ^^^ b.toNat) (fun j => if j < 8 then false else msgB r (j - 8)) := by
   intro j
   rw [h j, Nat.testBit_xor]
   show _ = (_ ^^ (if j < 8 then false else msgB r (j - 8)))
   by_cases hj : j < 8
   ·rw [if_pos hj, Bool.xor_false]
    have e : msgB (b :: r) j = b.toNat.testBit j := by
     unfold msgB
     rw [Nat.div_eq_of_lt hj, Nat.mod_eq_of_lt hj]
     rfl
    rw [e]
   ·rw [if_neg hj]
    have e : msgB (b :: r) j = msgB r (j - 8) := by
     unfold msgB
     rw [show j / 8 = (j - 8) / 8 + 1 by omega, show j % 8 = (j - 8) % 8 by omega]
     rfl
    have e2 : b.toNat.testBit j = false := Nat.testBit_lt_two_pow (Nat.lt_of_lt_of_le (show b.toNat < 2 ^ 8 from b.toNat_lt) (Nat.pow_le_pow_right (by decide) (by omega)))
    rw [e, e2, Bool.xor_false]
  have h2 := h1.steps 8 (fun j hj => if_pos hj)
  have h3 : Vf (runF f0 (base + 8)) (base + 8) (crcM 8 (c ^^^ b.toNat)) (msgB r) := by
   intro j
   rw [h2 j]
   have : (if j + 8 < 8 then false else msgB r (j + 8 - 8)) = msgB r j := by
    rw [if_neg (by omega), Nat.add_sub_cancel]
   simp only [this]
  have h4 := Vf.text r h3
  have e : base + 8 * (b :: r).length = base + 8 + 8 * r.length := by rw [List.length_cons]; omega
  rw [e]
  exact h4
theorem crcM_lt : ∀ k {c : Nat}, c < 4294967296 → crcM k c < 4294967296
 | 0, _, h => h
 | k + 1, _, h => crcS_lt (crcM_lt k h)
theorem crcN_nat (c : Nat) (h : c < 4294967296) : ∀ k, crcN k (c : Int) = ((crcM k c : Nat) : Int)
 | 0 => rfl
 |
  k + 1 => by
  show crcI (crcN k (c : Int)) = _
  rw [crcN_nat c h k, crcI_nat _ (crcM_lt k h)]
  rfl
theorem xor8_lt {c : Nat} (h : c < 4294967296) (b : UInt8) : c ^^^ b.toNat < 4294967296 := Nat.xor_lt_two_pow (n := 32) (by omega) (by have := b.toNat_lt; omega)
theorem crcT_nat : ∀ (t : List UInt8) (c : Nat), c < 4294967296 → crcT (c : Int) t = ((crcTN c t : Nat) : Int)
 | [], c, h => rfl
 |
  b :: r, c, h => by
  show crcT (crcN 8 (bits .xor .u32 (c : Int) (b.toNat : Int))) r = _
  rw [xor_u32 c b.toNat h (by have := b.toNat_lt; omega), crcN_nat _ (xor8_lt h b)]
  exact crcT_nat r _ (crcM_lt 8 (xor8_lt h b))
theorem crcTN_lt : ∀ (t : List UInt8) {c : Nat}, c < 4294967296 → crcTN c t < 4294967296
 | [], _, h => h
 | b :: r, _, h => crcTN_lt r (crcM_lt 8 (xor8_lt h b))
theorem all_bits (j : Nat) : Nat.testBit 4294967295 j = decide (j < 32) := Nat.testBit_two_pow_sub_one 32 j
theorem fin_div {f : Nat → Bool} {n X : Nat} (hX : X < 4294967296) (h : ∀ j, j < 32 → X.testBit j = !f (n + j)) : ∀ m, m ≤ 32 → finN f n m = X / 2 ^ (32 - m)
 |
  0, _ => by
  show 0 = _
  rw [Nat.div_eq_of_lt]
  exact hX
 |
  m + 1, hm => by
  show 2 * finN f n m + _ = _
  rw [fin_div hX h m (by omega)]
  have e1 : 32 - m = (32 - (m + 1)) + 1 := by omega
  have e2 : n + 31 - m = n + (32 - (m + 1)) := by omega
  rw [e1, e2, Nat.pow_succ, ← Nat.div_div_eq_div_mul]
  have hb := h (32 - (m + 1)) (by omega)
  rw [Nat.testBit_eq_decide_div_mod_eq] at hb
  generalize X / 2 ^ (32 - (m + 1)) = Y at *
  cases hf : f (n + (32 - (m + 1)))
  ·rw [hf] at hb
   have : Y % 2 = 1 := by simpa using hb
   simp
   omega
  ·rw [hf] at hb
   have : ¬ Y % 2 = 1 := by simpa using hb
   simp
   omega
theorem sum_same (t : List UInt8) : sumZ t = ((finN (runF (begF t) (8 * t.length)) (8 * t.length) 32 : Nat) : Int) := by
 have h0 : Vf (runF (begF t) 0) 0 4294967295 (msgB t) := by
  intro j
  rw [Nat.zero_add, all_bits]
  show ((msgB t j) ^^ (decide (j < 32))) = _
  exact Bool.xor_comm _ _
 have h1 := Vf.text t h0
 rw [Nat.zero_add] at h1
 have hc := crcTN_lt t (c := 4294967295) (by decide)
 have e : sumZ t = ((4294967295 ^^^ crcTN 4294967295 t : Nat) : Int) := by
  unfold sumZ
  have := crcT_nat t 4294967295 (by decide)
  rw [show ((4294967295 : Nat) : Int) = 4294967295 from rfl] at this
  rw [this]
  exact xor_u32 4294967295 _ (by decide) hc
 have hX : 4294967295 ^^^ crcTN 4294967295 t < 4294967296 := Nat.xor_lt_two_pow (n := 32) (by decide) (by omega)
 rw [e, fin_div hX (fun j hj => ?_) 32 (Nat.le_refl _), Nat.sub_self, Nat.pow_zero, Nat.div_one]
 rw [Nat.testBit_xor, all_bits, decide_eq_true hj, h1 j, Bool.xor_false, Bool.true_xor]
end Go.Proofs.YtkhemhiifhggmaaGreatDoor
