/- A node's bytes (fst.write). -/
import Derived.Test.YtheickndnniomaaDoorSign
namespace Go.Proofs.YtheickndnniomaaDoor
open Go.RowKit

def numI (z : Int) : List Int := numZ z.toNat
def numsI (zs : List Int) : List Int := zs.flatMap numI
def pos63 (z : Int) : Prop := 0 ≤ z ∧ z ≤ 9223372036854775807
theorem numI_len {z : Int} (h : pos63 z) : 1 ≤ (numI z).length ∧ (numI z).length ≤ 9 := numZ_length (by have := h.2; have := h.1; omega)
theorem numI_byte {z : Int} (h : pos63 z) : ∀ y ∈ numI z, 0 ≤ y ∧ y < 256 := numZ_byte (by have := h.2; have := h.1; omega)
/-- tuple.Nums at numbers from 0 on. -/
theorem numsI_any (w : World) (A : Option Addr) (m c B : Nat) (zs : List Int) (hm : m ≤ 1000) (hs : Sl w B 1 A m (zs.map (.int .i64))) (hB : B ≤ w.heap.size) (hn : ∀ z ∈ zs, pos63 z) :
    Calls Tryd.prog 28 #[.slice A m c] w fun e w' => e = .returned (.string (strOfNums (numsI zs))) ∧ Below w.heap.size w w' := by
  have e1 : ((zs.map Int.toNat).map fun n => Value.int .i64 (n : Nat)) = zs.map (.int .i64) := by
    rw [List.map_map]
    apply List.map_congr_left
    intro z hz
    have := (hn z hz).1
    show Value.int .i64 ((z.toNat : Nat) : Int) = _
    rw [Int.toNat_of_nonneg this]
  have e2 : numsZ (zs.map Int.toNat) = numsI zs := by
    unfold numsZ numsI numI
    rw [List.flatMap_map]
  rw [← e2]
  refine nums_any w A m c B (zs.map Int.toNat) hm (by rw [e1]; exact hs) hB ?_
  intro n hn'
  obtain ⟨z, hz, rfl⟩ := List.mem_map.1 hn'
  have := hn z hz
  have h1 := this.1
  have h2 := this.2
  omega
def wayZ (x : Int × Int × Int) : List Int := numsI [x.1, x.2.1, x.2.2]
def headZ (d : Nd) : Int := 2 * (d.ways.length : Int) + (if d.fin then 1 else 0)
/-- A node's bytes. -/
def writeZ (d : Nd) : List Int := numI (headZ d) ++ ((if d.fin then numI d.out else []) ++ d.ways.flatMap wayZ)
def wayP (x : Int × Int × Int) : Prop := pos63 x.1 ∧ pos63 x.2.1 ∧ pos63 x.2.2
theorem wayZ_len {x : Int × Int × Int} (h : wayP x) : (wayZ x).length ≤ 27 := by
  have a := (numI_len h.1).2
  have b := (numI_len h.2.1).2
  have c := (numI_len h.2.2).2
  simp [wayZ, numsI]
  omega
theorem wayZs_len {l : List (Int × Int × Int)} (h : ∀ x ∈ l, wayP x) : (l.flatMap wayZ).length ≤ 27 * l.length := by
  induction l with
  | nil => simp
  | cons x r ih =>
    have h1 := wayZ_len (h x (List.mem_cons_self ..))
    have h2 := ih fun y hy => h y (List.mem_cons_of_mem _ hy)
    rw [List.flatMap_cons, List.length_append, List.length_cons]
    omega
theorem str_add (a b : List Int) : strOfNums a ++ strOfNums b = strOfNums (a ++ b) := by
  apply ByteArray.ext
  simp [strOfNums]
theorem str_cat (a b : List Int) (h : a.length + b.length ≤ 4611686018427387904) (w : World) : (Op.stringOp .add (strOfNums a) (strOfNums b)).run Tryd.prog w = .ok (.string (strOfNums (a ++ b))) w := by
  rw [← str_add]
  exact run_string_add_sum w _ _ (by rw [strOfNums_size, strOfNums_size]; omega)
theorem sl_new (w : World) (cs : Array Value) (e size m : Nat) {nb : Nat} (hb : w.heap.size = nb) (hm : cs.size = m * size) : Sl (w.alloc (.cells cs e)) (w.alloc (.cells cs e)).heap.size size (some ⟨nb, 0, none⟩) m cs.toList := by
  subst hb
  refine ⟨by simpa using hm, fun _ => ⟨w.heap.size, 0, rfl, by simp, fun j u hu => ?_⟩⟩
  have := news_at w cs e j u hu
  rwa [Addr.add_lit] at this
theorem bel_alloc {w W W' : World} {o : Obj} (h : Below w.heap.size w W) (hb : Below (W.alloc o).heap.size (W.alloc o) W') : Below w.heap.size w W' := bcall (bnew h o) hb
set_option maxRecDepth 100000 in
set_option maxHeartbeats 4000000 in
theorem write_any (w : World) (d : Nd) (A : Option Addr) (m c : Nat) (hs : Sl w w.heap.size 3 A m (waysC d.ways)) (hm : d.ways.length = m) (hm2 : m ≤ 4294967296) (hok : ∀ x ∈ d.ways, wayP x) (ho : pos63 d.out) :
    Calls Tryd.prog 29 #[.agg #[.bool d.fin, .int .i64 d.out, .slice A m c]] w fun e w' => e = .returned (.string (strOfNums (writeZ d))) ∧ Below w.heap.size w w' := by
  have HOK := Lib.hid hok
  have HO := Lib.hid ho
  have HS := Lib.hid hs
  have hw : IntKind.i64.wrap (2 * (m : Int)) = 2 * (m : Int) := IntWalk.i64_in _ (by omega)
  cases hf : d.fin
  · obtain ⟨hdz, hhd⟩ : ∃ z, headZ d = z := ⟨_, rfl⟩
    obtain ⟨pre, hpre⟩ : ∃ p, (if d.fin then numI d.out else []) = p := ⟨_, rfl⟩
    have HW : Hid (writeZ d = numI hdz ++ (pre ++ d.ways.flatMap wayZ)) := by
      show _ = _
      unfold writeZ
      rw [hhd, hpre]
    have hhz : headZ d = 2 * (m : Int) + (if d.fin then 1 else 0) := by unfold headZ; rw [hm]
    rw [hhd, hf] at hhz
    rw [hf] at hpre
    simp at hhz hpre
    have hpl : pre.length ≤ 9 := by
      rw [hpre]
      exact Nat.zero_le _
    have hph : pos63 hdz := by rw [hhz]; unfold pos63; omega
    have HP := Lib.hid hpre
    clear hhd hok ho hs hpre
    go_enter Tryd.func29, Tryd.ntmps29
    go_wp2_with fail
    go_loopw [4, 22] (fun v i wr => ∃ (k : Nat), k ≤ m ∧ i = .int .i64 k ∧ v = .string (strOfNums (pre ++ (d.ways.take k).flatMap wayZ)) ∧ Hid (Below w.heap.size w wr)) (fun _ i _ => m - (intOf i).toNat)
    case atStart => exact ⟨0, Nat.zero_le _, rfl, by rw [HP.out]; rfl, Lib.hid (bnew (brefl w) _)⟩
    case round =>
      obtain ⟨k, hk, rfl, rfl, HB⟩ := hrel
      have hacc : (pre ++ (d.ways.take k).flatMap wayZ).length ≤ 300000000000 := by
        have := wayZs_len (l := d.ways.take k) (fun y hy => HOK.out y (List.mem_of_mem_take hy))
        rw [List.length_take] at this
        rw [List.length_append]
        omega
      by_cases hlt : k < m
      · obtain ⟨bb, off, hA, hbB, hcell⟩ := HS.out.at_ hlt
        subst hA
        obtain ⟨x, hx⟩ : ∃ x, d.ways[k]? = some x := ⟨d.ways[k]'(by omega), List.getElem?_eq_getElem _⟩
        have hxp := HOK.out x (List.mem_of_getElem? hx)
        have g : ∀ j u, (wayC x)[j]? = some u → j < 3 → wr.cell? ⟨bb, off + (k * 3 + j), none⟩ = some u := fun j u hu hj =>
          (HB.out.cell (p := ⟨bb, off + (k * 3 + j), none⟩) hbB).trans (hcell _ _ (by unfold waysC; rw [flat_at wayC 3 (fun _ => rfl) d.ways k j x hx hj]; exact hu))
        have g0 := g 0 _ rfl (by omega)
        have g1 := g 1 _ rfl (by omega)
        have g2 := g 2 _ rfl (by omega)
        rw [← Nat.add_assoc] at g1 g2
        rw [Nat.add_zero] at g0
        have HN : pre ++ (d.ways.take (k + 1)).flatMap wayZ = (pre ++ (d.ways.take k).flatMap wayZ) ++ numsI [x.1, x.2.1, x.2.2] := by
          rw [List.take_add_one, hx, List.flatMap_append]
          simp [wayZ]
        have hlw : (numsI [x.1, x.2.1, x.2.2]).length ≤ 27 := wayZ_len hxp
        have HXP := Lib.hid hxp
        obtain ⟨x1, x2, x3⟩ := x
        simp only at g0 g1 g2 hlw HN
        generalize pre ++ (d.ways.take k).flatMap wayZ = acc at *
        have hcat := str_cat acc (numsI [x1, x2, x3]) (by omega)
        have HN2 : Hid (strOfNums (acc ++ numsI [x1, x2, x3]) = strOfNums (pre ++ (d.ways.take (k + 1)).flatMap wayZ)) := by show _ = _; rw [HN]
        clear HN
        have HNS := Lib.hid (fun (W : World) (A : Option Addr) (hs : Sl W W.heap.size 1 A 3 [.int .i64 x1, .int .i64 x2, .int .i64 x3]) => numsI_any W A 3 3 W.heap.size [x1, x2, x3] (by omega) hs (Nat.le_refl _) (by
          obtain ⟨p1, p2, p3⟩ := HXP.out
          intro z hz
          simp only [List.mem_cons, List.not_mem_nil, or_false] at hz
          rcases hz with rfl | rfl | rfl
          · exact p1
          · exact p2
          · exact p3))
        generalize strOfNums acc = S at *
        generalize strOfNums (numsI [x1, x2, x3]) = T at *
        generalize strOfNums (acc ++ numsI [x1, x2, x3]) = U at *
        clear hcell g hx hxp
        go_wp2_with fail
        refine (HNS.out _ _ (sl_new _ _ _ 1 3 (by simp) rfl)).mono ?_
        rintro e w2 ⟨rfl, hb2⟩
        go_wp2_with fail
        go_roundw
        case rel => exact ⟨k + 1, by omega, by go_num, by rw [HN2.out], Lib.hid (bel_alloc (bnew HB.out _) hb2)⟩
        case measure => simp [intOf]; omega
      · obtain rfl : m = k := by omega
        have hall : d.ways.take m = d.ways := List.take_of_length_le (by omega)
        rw [hall] at hacc ⊢
        have hcat := str_cat (numI hdz) (pre ++ d.ways.flatMap wayZ) (by have := (numI_len hph).2; omega)
        have HF : Hid (strOfNums (numI hdz ++ (pre ++ d.ways.flatMap wayZ)) = strOfNums (writeZ d)) := by show _ = _; rw [HW.out]
        have hone : numsI [hdz] = numI hdz := by simp [numsI]
        have HNS := Lib.hid (fun (W : World) (A : Option Addr) (hs : Sl W W.heap.size 1 A 1 [.int .i64 hdz]) => numsI_any W A 1 1 W.heap.size [hdz] (by omega) hs (Nat.le_refl _) (by intro z hz; rw [List.mem_singleton] at hz; rw [hz]; exact hph))
        rw [hone] at HNS
        generalize strOfNums (numI hdz) = S at *
        generalize strOfNums (pre ++ d.ways.flatMap wayZ) = T at *
        generalize strOfNums (numI hdz ++ (pre ++ d.ways.flatMap wayZ)) = U at *
        subst hhz
        go_wp2_with fail
        refine (HNS.out _ _ (sl_new _ _ _ 1 1 (by simp) rfl)).mono ?_
        rintro e w2 ⟨rfl, hb2⟩
        go_wp2_with fail
        go_ret
        exact ⟨by rw [← HF.out]; rfl, bel_alloc HB.out hb2⟩
  · obtain ⟨hdz, hhd⟩ : ∃ z, headZ d = z := ⟨_, rfl⟩
    obtain ⟨pre, hpre⟩ : ∃ p, (if d.fin then numI d.out else []) = p := ⟨_, rfl⟩
    have HW : Hid (writeZ d = numI hdz ++ (pre ++ d.ways.flatMap wayZ)) := by
      show _ = _
      unfold writeZ
      rw [hhd, hpre]
    have hhz : headZ d = 2 * (m : Int) + (if d.fin then 1 else 0) := by unfold headZ; rw [hm]
    rw [hhd, hf] at hhz
    rw [hf] at hpre
    simp at hhz hpre
    have hpl : pre.length ≤ 9 := by
      rw [← hpre]
      exact (numI_len ho).2
    have hph : pos63 hdz := by rw [hhz]; unfold pos63; omega
    have HP := Lib.hid hpre
    clear hhd hok ho hs hpre
    go_enter Tryd.func29, Tryd.ntmps29
    go_wp2_with fail
    have hone' : numsI [d.out] = pre := by rw [← HP.out]; simp [numsI]
    refine (numsI_any _ _ _ _ _ [d.out] (by omega) (sl_new _ _ _ 1 1 (by simp) rfl) (Nat.le_refl _) (by intro z hz; rw [List.mem_singleton] at hz; rw [hz]; exact HO.out)).mono ?_
    rw [hone']
    rintro e w1 ⟨rfl, hb1⟩
    have HB1 := Lib.hid (bel_alloc (bnew (brefl w) (.cells #[.bool true, .int .i64 d.out, .slice A m c] 51)) hb1)
    have hcc : w1.cell? ⟨w.heap.size, 2, none⟩ = some (.slice A m c) := by
      refine (hb1.cell (p := ⟨w.heap.size, 2, none⟩) (by simp; omega)).trans ?_
      simp
    clear hb1 hone'
    go_wp2_with fail
    go_loopw [4, 22] (fun v i wr => ∃ (k : Nat), k ≤ m ∧ i = .int .i64 k ∧ v = .string (strOfNums (pre ++ (d.ways.take k).flatMap wayZ)) ∧ Hid (Below w.heap.size w wr)) (fun _ i _ => m - (intOf i).toNat)
    case atStart => exact ⟨0, Nat.zero_le _, rfl, by simp, Lib.hid (HB1.out)⟩
    case round =>
      obtain ⟨k, hk, rfl, rfl, HB⟩ := hrel
      have hacc : (pre ++ (d.ways.take k).flatMap wayZ).length ≤ 300000000000 := by
        have := wayZs_len (l := d.ways.take k) (fun y hy => HOK.out y (List.mem_of_mem_take hy))
        rw [List.length_take] at this
        rw [List.length_append]
        omega
      by_cases hlt : k < m
      · obtain ⟨bb, off, hA, hbB, hcell⟩ := HS.out.at_ hlt
        subst hA
        obtain ⟨x, hx⟩ : ∃ x, d.ways[k]? = some x := ⟨d.ways[k]'(by omega), List.getElem?_eq_getElem _⟩
        have hxp := HOK.out x (List.mem_of_getElem? hx)
        have g : ∀ j u, (wayC x)[j]? = some u → j < 3 → wr.cell? ⟨bb, off + (k * 3 + j), none⟩ = some u := fun j u hu hj =>
          (HB.out.cell (p := ⟨bb, off + (k * 3 + j), none⟩) hbB).trans (hcell _ _ (by unfold waysC; rw [flat_at wayC 3 (fun _ => rfl) d.ways k j x hx hj]; exact hu))
        have g0 := g 0 _ rfl (by omega)
        have g1 := g 1 _ rfl (by omega)
        have g2 := g 2 _ rfl (by omega)
        rw [← Nat.add_assoc] at g1 g2
        rw [Nat.add_zero] at g0
        have HN : pre ++ (d.ways.take (k + 1)).flatMap wayZ = (pre ++ (d.ways.take k).flatMap wayZ) ++ numsI [x.1, x.2.1, x.2.2] := by
          rw [List.take_add_one, hx, List.flatMap_append]
          simp [wayZ]
        have hlw : (numsI [x.1, x.2.1, x.2.2]).length ≤ 27 := wayZ_len hxp
        have HXP := Lib.hid hxp
        obtain ⟨x1, x2, x3⟩ := x
        simp only at g0 g1 g2 hlw HN
        generalize pre ++ (d.ways.take k).flatMap wayZ = acc at *
        have hcat := str_cat acc (numsI [x1, x2, x3]) (by omega)
        have HN2 : Hid (strOfNums (acc ++ numsI [x1, x2, x3]) = strOfNums (pre ++ (d.ways.take (k + 1)).flatMap wayZ)) := by show _ = _; rw [HN]
        clear HN
        have HNS := Lib.hid (fun (W : World) (A : Option Addr) (hs : Sl W W.heap.size 1 A 3 [.int .i64 x1, .int .i64 x2, .int .i64 x3]) => numsI_any W A 3 3 W.heap.size [x1, x2, x3] (by omega) hs (Nat.le_refl _) (by
          obtain ⟨p1, p2, p3⟩ := HXP.out
          intro z hz
          simp only [List.mem_cons, List.not_mem_nil, or_false] at hz
          rcases hz with rfl | rfl | rfl
          · exact p1
          · exact p2
          · exact p3))
        generalize strOfNums acc = S at *
        generalize strOfNums (numsI [x1, x2, x3]) = T at *
        generalize strOfNums (acc ++ numsI [x1, x2, x3]) = U at *
        clear hcell g hx hxp
        go_wp2_with fail
        refine (HNS.out _ _ (sl_new _ _ _ 1 3 (by simp) rfl)).mono ?_
        rintro e w2 ⟨rfl, hb2⟩
        go_wp2_with fail
        go_roundw
        case rel => exact ⟨k + 1, by omega, by go_num, by rw [HN2.out], Lib.hid (bel_alloc (bnew HB.out _) hb2)⟩
        case measure => simp [intOf]; omega
      · obtain rfl : m = k := by omega
        have hall : d.ways.take m = d.ways := List.take_of_length_le (by omega)
        rw [hall] at hacc ⊢
        have hcat := str_cat (numI hdz) (pre ++ d.ways.flatMap wayZ) (by have := (numI_len hph).2; omega)
        have HF : Hid (strOfNums (numI hdz ++ (pre ++ d.ways.flatMap wayZ)) = strOfNums (writeZ d)) := by show _ = _; rw [HW.out]
        have hone : numsI [hdz] = numI hdz := by simp [numsI]
        have HNS := Lib.hid (fun (W : World) (A : Option Addr) (hs : Sl W W.heap.size 1 A 1 [.int .i64 hdz]) => numsI_any W A 1 1 W.heap.size [hdz] (by omega) hs (Nat.le_refl _) (by intro z hz; rw [List.mem_singleton] at hz; rw [hz]; exact hph))
        rw [hone] at HNS
        generalize strOfNums (numI hdz) = S at *
        generalize strOfNums (pre ++ d.ways.flatMap wayZ) = T at *
        generalize strOfNums (numI hdz ++ (pre ++ d.ways.flatMap wayZ)) = U at *
        subst hhz
        go_wp2_with fail
        refine (HNS.out _ _ (sl_new _ _ _ 1 1 (by simp) rfl)).mono ?_
        rintro e w2 ⟨rfl, hb2⟩
        go_wp2_with fail
        go_ret
        exact ⟨by rw [← HF.out]; rfl, bel_alloc HB.out hb2⟩
end Go.Proofs.YtheickndnniomaaDoor
