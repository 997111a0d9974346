/- What is written is read: numbers, nodes (plain Lean). -/
import Derived.Test.YtheickndnniomaaDoorOpen
import Derived.Test.YtheickndnniomaaDoorDigit
namespace Go.Proofs.YtheickndnniomaaDoor
open Go.RowKit Go.Maps

/-- Bytes out of numbers. -/
def by8 (zs : List Int) : List UInt8 := zs.map fun n => UInt8.ofNat n.toNat
theorem str_by8 (zs : List Int) : strOfNums zs = ⟨(by8 zs).toArray⟩ := rfl
theorem by8_append (a b : List Int) : by8 (a ++ b) = by8 a ++ by8 b := List.map_append ..
theorem by8_length (a : List Int) : (by8 a).length = a.length := List.length_map ..
theorem beZ_get : ∀ (K x k : Nat), k < K → (beZ K x)[k]? = some ((x / 256 ^ (K - 1 - k) % 256 : Nat) : Int)
  | 0, _, _, h => absurd h (by omega)
  | K + 1, x, 0, _ => by
    rw [beZ, List.getElem?_cons_zero]
    rfl
  | K + 1, x, k + 1, h => by
    rw [beZ, List.getElem?_cons_succ, beZ_get K x k (by omega), show K + 1 - 1 - (k + 1) = K - 1 - k by omega]
theorem byteN_beZ (h0 : Int) (K x k : Nat) (r : List UInt8) (hk : k < K) : byteN (by8 (h0 :: beZ K x) ++ r) (k + 1) = x / 256 ^ (K - 1 - k) % 256 := by
  unfold byteN by8
  rw [List.getD_eq_getElem?_getD, List.map_cons, List.cons_append, List.getElem?_cons_succ, List.getElem?_append_left (by rw [List.length_map, beZ_length]; exact hk), List.getElem?_map, beZ_get K x k hk]
  have hy : x / 256 ^ (K - 1 - k) % 256 < 256 := Nat.mod_lt _ (by omega)
  generalize x / 256 ^ (K - 1 - k) % 256 = y at *
  simp
  omega
theorem accN_beZ (h0 : Int) (K x : Nat) (hx : x < 256 ^ K) (r : List UInt8) : ∀ k, k ≤ K → accN false (by8 (h0 :: beZ K x) ++ r) k = x / 256 ^ (K - k)
  | 0, _ => by
    rw [accN, Nat.sub_zero, Nat.div_eq_of_lt hx]
  | k + 1, hk => by
    rw [accN, accN_beZ h0 K x hx r k (by omega), byteN_beZ h0 K x k r (by omega)]
    have e : K - k = (K - 1 - k) + 1 := by omega
    have e2 : K - (k + 1) = K - 1 - k := by omega
    rw [e, e2, Nat.pow_succ, ← Nat.div_div_eq_div_mul]
    generalize x / 256 ^ (K - 1 - k) = y
    show y / 256 * 256 + y % 256 = y
    omega
theorem szN_lt {x : Nat} (hx : x < 18446744073709551616) : x < 256 ^ szN x := by
  rcases Nat.lt_or_ge x (256 ^ szN x) with h | h
  · exact h
  · have := szN_ge_of _ x h hx
    omega
theorem numR_enc {z : Int} (h : pos63 z) (r : List UInt8) : numR (by8 (numI z) ++ r) = (z, ((numI z).length : Int), 0) := by
  obtain ⟨h0, h1⟩ := h
  obtain ⟨n, rfl⟩ := Int.eq_ofNat_of_zero_le h0
  unfold numI numZ
  rw [Int.toNat_natCast]
  by_cases hn : n ≤ 111
  · rw [if_pos hn]
    have hb : byteN (by8 [((128 + n : Nat) : Int)] ++ r) 0 = 128 + n := by
      unfold byteN by8
      simp
      omega
    unfold numR
    rw [if_neg (by simp [by8])]
    simp only [hb]
    rw [if_pos (by omega)]
    simp
    omega
  · rw [if_neg hn]
    obtain ⟨x, hx⟩ : ∃ x, n - 112 = x := ⟨_, rfl⟩
    rw [hx]
    have hx64 : x < 18446744073709551616 := by omega
    have h8 : szN x ≤ 8 := szN_le (by omega)
    have hp := szN_pos x
    obtain ⟨K, hK⟩ : ∃ K, szN x = K := ⟨_, rfl⟩
    have hlt := szN_lt hx64
    rw [hK] at h8 hp hlt ⊢
    obtain ⟨t, ht⟩ : ∃ t, by8 (((239 + K : Nat) : Int) :: beZ K x) ++ r = t := ⟨_, rfl⟩
    have hb : byteN t 0 = 239 + K := by
      rw [← ht]
      unfold byteN by8
      simp
      omega
    have hacc : accN false t K = x := by
      rw [← ht, accN_beZ _ K x hlt r K (Nat.le_refl _), Nat.sub_self, Nat.pow_zero, Nat.div_one]
    have hl : K < t.length := by
      rw [← ht, List.length_append, by8_length, List.length_cons, beZ_length]
      omega
    have hs := (szN_acc false t hp h8).1
    rw [hacc] at hs
    have hs := hs.1 hK
    rw [ht]
    unfold numR
    rw [if_neg (by intro e; rw [e] at hl; simp at hl)]
    simp only [hb]
    rw [if_neg (by omega), if_neg (by omega)]
    have hf : decide (239 + K < 16) = false := decide_eq_false (by omega)
    have hk : (if 239 + K < 16 then 16 - (239 + K) else 239 + K - 239) = K := by rw [if_neg (by omega)]; omega
    rw [hf, hk, if_neg (by omega), if_neg hs, hacc, if_pos (by omega), if_neg (by omega), List.length_cons, beZ_length]
    refine Prod.ext ?_ (Prod.ext ?_ rfl)
    · show (x : Int) + 112 = (n : Int)
      omega
    · show (K : Int) + 1 = ((K + 1 : Nat) : Int)
      omega
theorem readNum_enc {z : Int} (h : pos63 z) (r : List UInt8) : readNum (by8 (numI z) ++ r) = (z, 0, r) := by
  unfold readNum
  rw [numR_enc h r, if_pos rfl]
  simp only [Int.toNat_natCast]
  rw [List.drop_left' (by rw [by8_length])]
theorem readCnt_enc {z : Int} (h : pos63 z) (r : List UInt8) : readCnt (by8 (numI z) ++ r) = (z, 0, r) := by
  unfold readCnt
  rw [readNum_enc h r]
  rw [if_neg (by intro e; have := h.1; have := e.2; simp at this; omega)]
theorem rdN_enc {zs : List Int} (h : ∀ z ∈ zs, pos63 z) (acc : List Int) (r : List UInt8) : rdN zs.length acc (by8 (numsI zs) ++ r) = (0, acc ++ zs, r) := by
  induction zs generalizing acc with
  | nil => simp [rdN, numsI, by8]
  | cons z zs ih =>
    have hz := h z (List.mem_cons_self ..)
    have e : by8 (numsI (z :: zs)) ++ r = by8 (numI z) ++ (by8 (numsI zs) ++ r) := by
      show by8 (numI z ++ numsI zs) ++ r = _
      rw [by8_append, List.append_assoc]
    have e1 := readCnt_enc hz (by8 (numsI zs) ++ r)
    rw [e, List.length_cons, rdN_ok _ _ (by rw [e1]), e1, ih (fun x hx => h x (List.mem_cons_of_mem _ hx)), List.append_assoc]
    rfl
/-- How long the longest term is. -/
def deepOf (sz dp : List Int) (d : Int) (x : Int × Int × Int) : Int := if 0 < sz.getD x.2.2.toNat 0 then max d (dp.getD x.2.2.toNat 0 + 1) else d
theorem rdW_enc {n : Nat} {sz dp : List Int} : ∀ (more : Ways) (ws : Ways) (s d : Int) (r : List UInt8), (∀ x ∈ more, WayN n x) → n ≤ 1125899906842624 →
    rdW n sz dp more.length ws s d (by8 (more.flatMap wayZ) ++ r) = (0, ws ++ more, s + (more.map (sizeOf sz)).sum, more.foldl (deepOf sz dp) d, r)
  | [], ws, s, d, r, _, _ => by simp [rdW, by8]
  | (a, b, c) :: more, ws, s, d, r, h, hn => by
    obtain ⟨⟨h1, h2⟩, h3, h4, h5⟩ := h (a, b, c) (List.mem_cons_self ..)
    simp only at h1 h2 h3 h4 h5
    have e : by8 (((a, b, c) :: more).flatMap wayZ) ++ r = by8 (numsI [a, b, c]) ++ (by8 (more.flatMap wayZ) ++ r) := by
      rw [List.flatMap_cons, by8_append, List.append_assoc]
      rfl
    have hr := rdN_enc (zs := [a, b, c]) (fun z hz => by
      simp only [List.mem_cons, List.not_mem_nil, or_false] at hz
      rcases hz with rfl | rfl | rfl
      · exact ⟨h1, by omega⟩
      · exact h3
      · exact ⟨h4, by omega⟩) [] (by8 (more.flatMap wayZ) ++ r)
    rw [List.nil_append, List.length_cons, List.length_cons, List.length_singleton] at hr
    obtain ⟨q, rfl⟩ := Int.eq_ofNat_of_zero_le h4
    rw [e, List.length_cons, rdW_go hr h2 (by omega), rdW_enc more _ _ _ r (fun x hx => h x (List.mem_cons_of_mem _ hx)) hn, List.append_assoc, List.map_cons, List.sum_cons, List.foldl_cons]
    have e1 : sizeOf sz (a, b, (q : Int)) = sz.getD q 0 := rfl
    have e2 : deepOf sz dp d (a, b, (q : Int)) = if 0 < sz.getD q 0 then max d (dp.getD q 0 + 1) else d := rfl
    rw [e1, e2, Int.add_assoc]
    rfl
/-- A node that is written is read. -/
theorem rdNode_enc {n : Nat} {sz dp : List Int} {d : Nd} (hn : n ≤ 1125899906842624) (ho : pos63 d.out) (hf : d.fin = false → d.out = 0) (hw : ∀ x ∈ d.ways, WayN n x) (hl : d.ways.length ≤ 256)
    (hs : finN d.fin + (d.ways.map (sizeOf sz)).sum ≤ 65536) (hd : d.ways.foldl (deepOf sz dp) 0 ≤ 64) (r : List UInt8) :
    rdNode n sz dp (by8 (writeZ d) ++ r) = (0, d, finN d.fin + (d.ways.map (sizeOf sz)).sum, d.ways.foldl (deepOf sz dp) 0, r) := by
  obtain ⟨fin, out, ways⟩ := d
  simp only at ho hf hw hl hs hd ⊢
  have hh : pos63 (headZ ⟨fin, out, ways⟩) := by
    unfold headZ
    simp only
    constructor <;> split <;> omega
  cases fin with
  | true =>
    have e : by8 (writeZ ⟨true, out, ways⟩) ++ r = by8 (numI (headZ ⟨true, out, ways⟩)) ++ (by8 (numI out) ++ (by8 (ways.flatMap wayZ) ++ r)) := by
      unfold writeZ
      rw [if_pos rfl, by8_append, by8_append, List.append_assoc, List.append_assoc]
    have hz : headZ ⟨true, out, ways⟩ = 2 * (ways.length : Int) + 1 := rfl
    have r1 := readCnt_enc hh (by8 (numI out) ++ (by8 (ways.flatMap wayZ) ++ r))
    have r2 := readCnt_enc ho (by8 (ways.flatMap wayZ) ++ r)
    rw [hz] at r1 e
    have hk : ((2 * (ways.length : Int) + 1) / 2).toNat = ways.length := by omega
    rw [e, rdNode_4 (by rw [r1]) (by rw [r1]; simp only; omega) (by rw [r1]; simp only; omega) (by rw [r1, r2]), r1]
    simp only [r2, hk]
    rw [rdW_enc ways [] 1 0 r hw hn]
    have hs' : (1 : Int) + (ways.map (sizeOf sz)).sum ≤ 65536 := hs
    rw [rdFin_ok (by omega)]
    rfl
  | false =>
    have h0 := hf rfl
    subst h0
    have e : by8 (writeZ ⟨false, 0, ways⟩) ++ r = by8 (numI (headZ ⟨false, 0, ways⟩)) ++ (by8 (ways.flatMap wayZ) ++ r) := by
      unfold writeZ
      rw [if_neg (by simp), List.nil_append, by8_append, List.append_assoc]
    have hz : headZ ⟨false, 0, ways⟩ = 2 * (ways.length : Int) := by unfold headZ; simp
    have r1 := readCnt_enc hh (by8 (ways.flatMap wayZ) ++ r)
    rw [hz] at r1 e
    have hk : ((2 * (ways.length : Int)) / 2).toNat = ways.length := by omega
    rw [e, rdNode_5 (by rw [r1]) (by rw [r1]; simp only; omega) (by rw [r1]; simp only; omega), r1]
    simp only [hk]
    rw [rdW_enc ways [] 0 0 r hw hn]
    have hs' : (0 : Int) + (ways.map (sizeOf sz)).sum ≤ 65536 := hs
    rw [rdFin_ok (by omega)]
    rfl
end Go.Proofs.YtheickndnniomaaDoor
