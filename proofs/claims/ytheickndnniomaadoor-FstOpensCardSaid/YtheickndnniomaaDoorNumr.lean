/- Package tuple: a number is read (number), at all bytes. -/
import Derived.Test.YtheickndnniomaaDoorTuple
namespace Go.Proofs.YtheickndnniomaaDoor
open Go.RowKit

def byteN (t : List UInt8) (i : Nat) : Nat := (t.getD i 0).toNat
theorem byteN_in (t : List UInt8) (i : Nat) : byteN t i < 256 := (t.getD i 0).toNat_lt
theorem byteN_get (t : List UInt8) (i : Nat) (h : i < (⟨t.toArray⟩ : ByteArray).size) : ((((⟨t.toArray⟩ : ByteArray)[i]'h).toNat : Nat) : Int) = (byteN t i : Int) := by
  have h' : i < t.length := by
    have : (⟨t.toArray⟩ : ByteArray).size = t.length := by show t.toArray.size = _; simp
    rwa [this] at h
  unfold byteN
  rw [List.getD_eq_getElem?_getD, List.getElem?_eq_getElem h']
  rfl
def flipN (fl : Bool) (c : Nat) : Nat := if fl then 255 - c else c
/-- The number of the bytes 1 to k, each turned or not. -/
def accN (fl : Bool) (t : List UInt8) : Nat → Nat
  | 0 => 0
  | k + 1 => accN fl t k * 256 + flipN fl (byteN t (k + 1))
theorem flipN_in (fl : Bool) {c : Nat} (h : c < 256) : flipN fl c < 256 := by unfold flipN; split <;> omega
theorem accN_in (fl : Bool) (t : List UInt8) : ∀ k, accN fl t k < 256 ^ k
  | 0 => by simp [accN]
  | k + 1 => by
    have h1 := accN_in fl t k
    have h2 := flipN_in fl (byteN_in t (k + 1))
    rw [accN, Nat.pow_succ]
    generalize 256 ^ k = M at *
    omega
/-- What number says. -/
def numR (t : List UInt8) : Int × Int × Int :=
  if t = [] then (0, 0, 2) else
  let h := byteN t 0
  if 16 ≤ h ∧ h < 240 then ((h : Int) - 128, 1, 0) else
  if h < 8 ∨ 247 < h then (0, 0, 3) else
  let fl := decide (h < 16)
  let k := if h < 16 then 16 - h else h - 239
  if t.length ≤ k then (0, 0, 2) else
  if 1 < k ∧ flipN fl (byteN t 1) = 0 then (0, 0, 3) else
  if accN fl t k ≤ 9223372036854775695 then (if h < 16 then (-113 - (accN fl t k : Int), (k : Int) + 1, 0) else ((accN fl t k : Int) + 112, (k : Int) + 1, 0)) else (0, 0, 3)
theorem xor_255 {z : Int} (h0 : 0 ≤ z) (h1 : z < 256) : bits .xor .u8 z 255 = 255 - z := by
  have h : ∀ n : Fin 256, bits .xor .u8 ((n.val : Nat) : Int) 255 = 255 - ((n.val : Nat) : Int) := by decide +kernel
  have := h ⟨z.toNat, by omega⟩
  rwa [show ((z.toNat : Nat) : Int) = z by omega] at this
theorem xor_flip (fl : Bool) {c : Nat} (h : c < 256) : bits .xor .u8 (c : Int) (if fl then 255 else 0) = (flipN fl c : Int) := by
  cases fl
  · exact xor_0 (by omega) (by omega)
  · rw [if_pos rfl, xor_255 (by omega) (by omega)]
    unfold flipN
    rw [if_pos rfl]
    omega
theorem or_u64 {a c : Nat} (ha : a < 72057594037927936) (hc : c < 256) : bits .or .u64 ((a : Int) * 256) (c : Int) = ((a * 256 + c : Nat) : Int) := by
  have e : ((a : Int) * 256) = ((a * 256 : Nat) : Int) := (Int.natCast_mul a 256).symm
  rw [e]
  simp only [bits, BitVec.ofInt_natCast]
  have hb : IntKind.u64.bits = 64 := rfl
  have h1 : (BitVec.ofNat 64 (a * 256) ||| BitVec.ofNat 64 c).toNat = a * 256 + c := by
    rw [BitVec.toNat_or, BitVec.toNat_ofNat, BitVec.toNat_ofNat, Nat.mod_eq_of_lt (by omega), Nat.mod_eq_of_lt (by omega), Nat.mul_comm a 256]
    exact (Nat.two_pow_add_eq_or_of_lt (i := 8) (by omega) a).symm
  rw [hb, h1]
  exact IntWalk.u64_in _ (by omega)
end Go.Proofs.YtheickndnniomaaDoor
