/- fst.Build: the bytes of every list of entries, or the refusal. -/
import Derived.Test.YtheickndnniomaaDoorNode
namespace Go.Proofs.YtheickndnniomaaDoor
open Go.RowKit Go.Maps

def baseOf (l : List Ent) : Int := if l = [] then 0 else leastO l
def buildDs (l : List Ent) : List Nd := if l = [] then [] else (nodeF 65 [] l 0 (leastO l)).2
def buildZ (l : List Ent) : List Int := numsI [((buildDs l).length : Int), baseOf l] ++ (buildDs l).flatMap writeZ
def buildS (l : List Ent) : ByteArray := if rightE l = 0 then strOfNums (buildZ l) else strOfNums []
theorem lt_three : ∀ a b : List UInt8, a < b ∨ a = b ∨ b < a
  | [], [] => .inr (.inl rfl)
  | [], y :: b => .inl (by simp)
  | x :: a, [] => .inr (.inr (by simp))
  | x :: a, y :: b => by
    rw [List.cons_lt_cons_iff, List.cons_lt_cons_iff]
    rcases Nat.lt_trichotomy x.toNat y.toNat with h | h | h
    · exact .inl (.inl (UInt8.lt_iff_toNat_lt.2 h))
    · have e := UInt8.toNat_inj.1 h
      subst e
      rcases lt_three a b with h' | h' | h'
      · exact .inl (.inr ⟨rfl, h'⟩)
      · exact .inr (.inl (by rw [h']))
      · exact .inr (.inr (.inr ⟨rfl, h'⟩))
    · exact .inr (.inr (.inl (UInt8.lt_iff_toNat_lt.2 h)))
theorem rightL_ok : ∀ (l : List Ent) (last : List UInt8), rightL l last = 0 → (∀ e ∈ l, e.1 ≠ [] ∧ 0 ≤ e.2 ∧ e.1.length ≤ 64 ∧ last < e.1) ∧ l.Pairwise fun a b => a.1 < b.1
  | [], _, _ => ⟨by simp, List.Pairwise.nil⟩
  | (t, o) :: r, last, h => by
    rw [rightL_cons] at h
    split at h
    · omega
    rename_i h1
    split at h
    · omega
    rename_i h2
    split at h
    · omega
    rename_i h3
    obtain ⟨h4, h5⟩ := rightL_ok r t h
    have hlt : last < t := by
      rw [bytesLess_eq] at h3
      simp only [Bool.or_eq_true, decide_eq_true_eq, beq_iff_eq, not_or] at h3
      rcases lt_three last t with h' | h' | h'
      · exact h'
      · exact absurd h'.symm h3.2
      · exact absurd h' h3.1
    have hne : t ≠ [] ∧ ¬ o < 0 := by
      constructor
      · exact fun e => h1 (.inl e)
      · exact fun e => h1 (.inr e)
    refine ⟨fun e he => ?_, List.pairwise_cons.2 ⟨fun e he => (h4 e he).2.2.2, h5⟩⟩
    rcases List.mem_cons.1 he with rfl | he
    · exact ⟨hne.1, by have := hne.2; show 0 ≤ o; omega, by show t.length ≤ 64; omega, hlt⟩
    · obtain ⟨a, b, c, d⟩ := h4 e he
      exact ⟨a, b, c, List.lt_trans hlt d⟩
theorem okl_of {l : List Ent} (h : rightE l = 0) (hne : l ≠ []) (hwf : ∀ e ∈ l, fits64 e.2) : Okl 0 (leastO l) l ∧ l.length ≤ 65536 := by
  unfold rightE at h
  split at h
  · omega
  rename_i hl
  obtain ⟨h1, h2⟩ := rightL_ok l [] h
  exact ⟨⟨hne, h2, ⟨[], rfl, fun e _ => ⟨e.1, rfl⟩⟩, le_leastO hne fun e he => (h1 e he).2.1, fun e he => ⟨leastO_le he, (hwf e he).2⟩, fun e he => (h1 e he).2.2.1⟩, by omega⟩
theorem cost_le (l : List Ent) (h : ∀ e ∈ l, e.1.length ≤ 64) : cost 0 l ≤ 64 * l.length := by
  induction l with
  | nil => exact Nat.le_refl _
  | cons e r ih =>
    have h1 := h e (List.mem_cons_self ..)
    have h2 := ih fun x hx => h x (List.mem_cons_of_mem _ hx)
    rw [cost_cons, List.length_cons]
    omega
theorem writeZ_len {d : Nd} (h : NdOk d) : (writeZ d).length ≤ 1800000 := by
  have h1 := (numI_len (z := headZ d) (by have := h.len; unfold headZ pos63; split <;> omega)).2
  have h2 := wayZs_len h.ways
  have h3 : (if d.fin then numI d.out else []).length ≤ 9 := by
    split
    · exact (numI_len h.out).2
    · exact Nat.zero_le _
  have h4 := h.len
  unfold writeZ
  rw [List.length_append, List.length_append]
  omega
theorem writes_len {ds : List Nd} (h : ∀ d ∈ ds, NdOk d) : (ds.flatMap writeZ).length ≤ 1800000 * ds.length := by
  induction ds with
  | nil => simp
  | cons d r ih =>
    have h1 := writeZ_len (h d (List.mem_cons_self ..))
    have h2 := ih fun x hx => h x (List.mem_cons_of_mem _ hx)
    rw [List.flatMap_cons, List.length_append, List.length_cons]
    omega
theorem map_keep {w w' : World} {b n : Nat} {N : DataW Unit} (h : siMap w b n N) (hb : Below w.heap.size w w') : siMap w' b n N := h.kept (grown_below hb) (by simp)
theorem fb_new (w : World) {nb : Nat} (hn : w.heap.size = nb) (base : Nat) (hb : base ≤ nb) : FbAt ((w.alloc (.map #[] 0)).alloc (.cells #[.slice none 0 0, .map (some nb)] 63)) (nb + 1) nb base (.slice none 0 0) [] := by
  subst hn
  have h1 := World.ownsMap_made (H := Unit) w Tryd.prog 9 (plainElem Tryd.prog 3)
  have hs : (w.alloc (.map #[] 0)).heap.size = w.heap.size + 1 := by simp
  refine ⟨?_, ⟨rfl, .inl ⟨rfl, rfl⟩⟩, by simp, ⟨0, .map [], map_keep h1 (bnew (brefl _) _), Nat.le_refl _, known_nil⟩, by simp, by omega, hb⟩
  have := heap_alloc_new (w.alloc (.map #[] 0)) (.cells #[.slice none 0 0, .map (some w.heap.size)] 63)
  rw [hs] at this
  exact this
set_option maxRecDepth 100000 in
set_option maxHeartbeats 8000000 in
theorem build_bad (w : World) (B : Nat) (hB : B ≤ w.heap.size) (A : Option Addr) (n c : Nat) (l : List Ent) (h : Ents w B A n c l) (hr : rightE l ≠ 0) :
    Calls Tryd.prog 10 #[.slice A n c] w fun e w' => e = .returned (.tuple #[.string (buildS l), .int .i64 (rightE l)]) ∧ Below w.heap.size w w' := by
  have HR := Lib.hid (right_any w B hB A n c l h)
  have hS : buildS l = strOfNums [] := if_neg hr
  rw [hS]
  have hz : strOfNums [] = ⟨#[]⟩ := rfl
  rw [hz]
  generalize rightE l = r at *
  have q1 : (r != 0) = true := by simpa using hr
  clear h hS hz
  go_enter Tryd.func10, Tryd.ntmps10
  go_wp2_with fail
  refine HR.out.mono ?_
  rintro e w1 ⟨rfl, hb1⟩
  go_wp2_with fail
  go_ret2
  exact ⟨rfl, hb1⟩
set_option maxRecDepth 100000 in
set_option maxHeartbeats 8000000 in
theorem build_good (w : World) (B : Nat) (hB : B ≤ w.heap.size) (A : Option Addr) (n c : Nat) (l : List Ent) (h : Ents w B A n c l) (hr : rightE l = 0) (hwf : ∀ e ∈ l, fits64 e.2) (hne : l ≠ []) (ht : Tab w) :
    Calls Tryd.prog 10 #[.slice A n c] w fun e w' => e = .returned (.tuple #[.string (buildS l), .int .i64 (rightE l)]) ∧ Below w.heap.size w w' := by
  have HR := Lib.hid (right_any w B hB A n c l h)
  obtain ⟨hok, hl⟩ := okl_of hr hne hwf
  have hcl := cost_le l hok.len
  have hlen := h.len
  have hn : 0 < n := by
    have := List.length_pos_iff.2 hne
    omega
  have hS : buildS l = strOfNums (buildZ l) := if_pos hr
  have hds : buildDs l = (nodeF 65 [] l 0 (leastO l)).2 := if_neg hne
  have hbo : baseOf l = leastO l := if_neg hne
  have hmhi : leastO l ≤ 9223372036854775807 := by
    cases hl' : l with
    | nil => exact absurd hl' hne
    | cons e r =>
      have he : e ∈ l := by rw [hl']; exact List.mem_cons_self ..
      rw [← hl']
      exact Int.le_trans (leastO_le he) (hok.out e he).2
  have hm0 := hok.t0
  have HCN : Hid ((nodeF 65 ([] : List Nd) l 0 (leastO l)).2.length ≤ 4294967296) := by
    have := nodeF_len 65 [] l 0 (leastO l) hok
    show _ ≤ _
    simp only [List.length_nil] at this
    omega
  have HN := Lib.hid (fun (w1 : World) (hb1 : Below w.heap.size w w1) (p kb : Nat) (v : Value) (hf : FbAt w1 p kb w.heap.size v []) => node_any p kb w.heap.size B hB ht.lt 65 0 (by omega) w1 v [] l A n c (leastO l) hf (h.keep (hb1.mono hB) (Nat.le_refl _)) hok hl (by unfold CAP; simp; omega) (ht.below hb1))
  have HL := Lib.hid (fun (w1 : World) (hb1 : Below w.heap.size w w1) => least_any w1 B (Nat.le_trans hB hb1.size) A n c l (h.keep (hb1.mono hB) (Nat.le_refl _)) hn)
  have q2 : decide (n > 0) = true := by simpa using hn
  rw [hS]
  have HZ : Hid (buildZ l = numsI [((buildDs l).length : Int), leastO l] ++ (buildDs l).flatMap writeZ) := by
    show _ = _
    unfold buildZ
    rw [hbo]
  have HDS := Lib.hid hds
  rw [hr] at HR ⊢
  clear h hok hcl hds hbo hS hr hwf hB ht
  obtain ⟨m, hm⟩ : ∃ m, leastO l = m := ⟨_, rfl⟩
  rw [hm] at HN HL HZ hmhi hm0 HDS HCN
  clear hm
  go_enter Tryd.func10, Tryd.ntmps10
  go_wp2_with fail
  refine HR.out.mono ?_
  rintro e w1 ⟨rfl, hb1⟩
  have hmk := @run_makeMap Tryd.prog
  go_wp2_with fail
  clear hmk
  have hW : Below w.heap.size w ((w1.alloc (.map #[] 0)).alloc (.cells #[.slice none 0 0, .map (some w1.heap.size)] 63)) := bnew (bnew hb1 _) _
  have HF := Lib.hid (fb_new w1 (nb := w1.heap.size) rfl w.heap.size hb1.size)
  refine (HL.out _ hW).mono ?_
  rintro e w2 ⟨rfl, hb2⟩
  have HB2 := Lib.hid (bcall hW hb2)
  have HF2 := Lib.hid (HF.out.below hb2)
  clear hb2 hW HF hb1
  generalize w1.heap.size = kb at *
  go_wp2_with fail
  refine (HN.out w2 HB2.out (kb + 1) kb _ HF2.out).mono ?_
  rintro e w3 ⟨v3, hs, rfl, hf3, hm3, hk3, _, _, ht3⟩
  have HB3 := Lib.hid (HB2.out.trans (hk3.below HF2.out HB2.out.size))
  rw [List.nil_append] at hf3 hm3
  have hds : buildDs l = hs.map (·.d) := by rw [HDS.out, hm3]; rfl
  have hln : hs.length ≤ 4294967296 := by
    have h1 := congrArg List.length hm3
    have h2 := HCN.out
    rw [List.length_map] at h1
    have h3 : (nodeF 65 ([] : List Nd) l 0 m).2.length ≤ 4294967296 := h2
    have h4 : (nodeF 65 (List.map (fun x : Nh => x.d) []) l 0 m).2.length = (nodeF 65 ([] : List Nd) l 0 m).2.length := rfl
    omega
  rw [hds, List.length_map] at HZ
  obtain ⟨Av, cv, rfl, hvc⟩ := own_shape hf3.nod
  have k0 := cell_of_row w3 _ 0 _ _ (0, 0) hf3.blk
  simp at k0
  have HF3 := Lib.hid hf3
  have HM := Lib.hid hm0
  have HM2 := Lib.hid hmhi
  clear hf3 hm3 hk3 ht3 hds hm0 hmhi HL HN HR HDS HCN
  obtain ⟨ln, hln2⟩ : ∃ z, hs.length = z := ⟨_, rfl⟩
  rw [hln2] at k0 HZ hvc hln
  have HNS := Lib.hid (fun (W : World) (A : Option Addr) (hs : Sl W W.heap.size 1 A 2 [.int .i64 (ln : Nat), .int .i64 m]) => numsI_any W A 2 2 W.heap.size [((ln : Nat) : Int), m] (by omega) hs (Nat.le_refl _) (by
    intro z hz
    simp only [List.mem_cons, List.not_mem_nil, or_false] at hz
    rcases hz with rfl | rfl
    · exact ⟨by omega, by omega⟩
    · exact ⟨HM.out, HM2.out⟩))
  obtain ⟨pre, hpre⟩ : ∃ p, numsI [((ln : Nat) : Int), m] = p := ⟨_, rfl⟩
  have hpl : pre.length ≤ 18 := by
    rw [← hpre]
    have h1 := (numI_len (z := ((ln : Nat) : Int)) ⟨by omega, by omega⟩).2
    have h2 := (numI_len (z := m) ⟨HM.out, HM2.out⟩).2
    simp [numsI]
    omega
  rw [hpre] at HNS HZ
  clear hpre
  go_wp2_with fail
  refine (HNS.out _ _ (sl_new _ _ _ 1 2 (by simp) rfl)).mono ?_
  rintro e w4 ⟨rfl, hb4⟩
  have HB34 := Lib.hid (bel_alloc (brefl w3) hb4)
  have k4 := (HB34.out.cell (lt_of_cell k0).1).trans k0
  clear hb4
  go_wp2_with fail
  clear k0 k4 HNS
  go_loopw [7, 40] (fun v i wr => ∃ k : Nat, k ≤ ln ∧ i = .int .i64 k ∧ v = .string (strOfNums (pre ++ ((hs.map (·.d)).take k).flatMap writeZ)) ∧ Hid (Below w3.heap.size w3 wr)) (fun _ i _ => ln - (intOf i).toNat)
  case atStart => exact ⟨0, Nat.zero_le _, rfl, by simp, HB34⟩
  case round =>
    obtain ⟨k, hk, rfl, rfl, HB⟩ := hrel
    have hokk : ∀ d ∈ hs.map (·.d), NdOk d := by
      intro d hd
      obtain ⟨h, hh, rfl⟩ := List.mem_map.1 hd
      exact HF3.out.ok h hh
    by_cases hlt : k < ln
    · obtain ⟨h, hh⟩ : ∃ h, hs[k]? = some h := ⟨hs[k]'(by omega), List.getElem?_eq_getElem _⟩
      have hmem := List.mem_of_getElem? hh
      have hnd := HF3.out.ok h hmem
      have hnod := HF3.out.nod
      rw [hln2] at hnod
      obtain ⟨g, hAv, _, hgl⟩ := own_head hnod (by omega)
      subst hAv
      have hc : ∀ j u, h.hdr[j]? = some u → j < 3 → wr.cell? ⟨g, k * 3 + j, none⟩ = some u := by
        intro j u hu hj
        have := hnod.cells (g := g) rfl (k * 3 + j) u (by rw [flat_at Nh.hdr 3 (fun _ => rfl) hs k j h hh hj]; exact hu)
        rw [Addr.add_lit, Nat.zero_add] at this
        exact (HB.out.cell (p := ⟨g, k * 3 + j, none⟩) hgl).trans this
      have c0 := hc 0 _ rfl (by omega)
      have c1 := hc 1 _ rfl (by omega)
      have c2 := hc 2 _ rfl (by omega)
      rw [Nat.add_zero] at c0
      have HWR := Lib.hid (fun (W : World) (hb : Below wr.heap.size wr W) => write_any W h.d h.A h.d.ways.length h.c (Sl.of_own (own_kept (own_kept (HF3.out.way h hmem) HB.out) hb)) rfl (by have := hnd.len; omega) hnd.ways hnd.out)
      have hacc : (pre ++ ((hs.map (·.d)).take k).flatMap writeZ).length ≤ 18 + 1800000 * k := by
        have := writes_len (ds := (hs.map (·.d)).take k) fun d hd => hokk d (List.mem_of_mem_take hd)
        rw [List.length_take] at this
        rw [List.length_append]
        have : 1800000 * min k (hs.map (·.d)).length ≤ 1800000 * k := Nat.mul_le_mul_left _ (Nat.min_le_left _ _)
        omega
      have hwl := writeZ_len hnd
      have hcat := str_cat (pre ++ ((hs.map (·.d)).take k).flatMap writeZ) (writeZ h.d) (by omega)
      have HN2 : Hid (strOfNums ((pre ++ ((hs.map (·.d)).take k).flatMap writeZ) ++ writeZ h.d) = strOfNums (pre ++ ((hs.map (·.d)).take (k + 1)).flatMap writeZ)) := by
        show _ = _
        rw [List.take_add_one, List.getElem?_map, hh, List.flatMap_append]
        simp
      have hrow : h.row = .slice h.A h.d.ways.length h.c := rfl
      rw [hrow] at c2
      generalize strOfNums ((pre ++ ((hs.map (·.d)).take k).flatMap writeZ) ++ writeZ h.d) = U at *
      generalize strOfNums (pre ++ ((hs.map (·.d)).take k).flatMap writeZ) = S at *
      generalize strOfNums (writeZ h.d) = T at *
      clear hc hacc hwl hh hmem hnod hrow hokk
      generalize h.d.fin = x1 at *
      generalize h.d.out = x2 at *
      go_wp2_with fail
      refine (HWR.out _ (bnew (brefl wr) _)).mono ?_
      rintro e w5 ⟨rfl, hb5⟩
      go_wp2_with fail
      go_roundw
      case rel => exact ⟨k + 1, by omega, by go_num, by rw [HN2.out], Lib.hid (bel_alloc HB.out hb5)⟩
      case measure => simp [intOf]; omega
    · obtain rfl : ln = k := by omega
      have hall : (hs.map (·.d)).take ln = hs.map (·.d) := List.take_of_length_le (by rw [List.length_map]; omega)
      have HF : Hid (strOfNums (pre ++ (hs.map (·.d)).flatMap writeZ) = strOfNums (buildZ l)) := by show _ = _; rw [HZ.out]
      rw [hall]
      go_wp2_with fail
      go_ret2
      exact ⟨by rw [HF.out]; rfl, HB3.out.trans (HB.out.mono HB3.out.size)⟩
set_option maxRecDepth 100000 in
set_option maxHeartbeats 8000000 in
theorem build_nil (w : World) (B : Nat) (hB : B ≤ w.heap.size) (A : Option Addr) (c : Nat) (h : Ents w B A 0 c []) :
    Calls Tryd.prog 10 #[.slice A 0 c] w fun e w' => e = .returned (.tuple #[.string (buildS []), .int .i64 (rightE [])]) ∧ Below w.heap.size w w' := by
  have HR := Lib.hid (right_any w B hB A 0 c [] h)
  have hr : rightE [] = 0 := rfl
  have HS : Hid (buildS [] = strOfNums (numsI [0, 0])) := by
    show _ = _
    unfold buildS buildZ buildDs baseOf
    simp
    intro hh
    exact absurd hr hh
  rw [hr] at HR ⊢
  have hmk := @run_makeMap Tryd.prog
  have HNS := Lib.hid (fun (W : World) (A : Option Addr) (hs : Sl W W.heap.size 1 A 2 [.int .i64 0, .int .i64 0]) => numsI_any W A 2 2 W.heap.size [0, 0] (by omega) hs (Nat.le_refl _) (by
    intro z hz
    simp at hz
    subst hz
    exact ⟨by omega, by omega⟩))
  clear h hr
  go_enter Tryd.func10, Tryd.ntmps10
  go_wp2_with fail
  refine HR.out.mono ?_
  rintro e w1 ⟨rfl, hb1⟩
  go_wp2_with fail
  clear hmk
  have HF := Lib.hid (fb_new w1 (nb := w1.heap.size) rfl w.heap.size hb1.size)
  have hW : Below w.heap.size w ((w1.alloc (.map #[] 0)).alloc (.cells #[.slice none 0 0, .map (some w1.heap.size)] 63)) := bnew (bnew hb1 _) _
  have HW := Lib.hid hW
  have k0 := cell_of_row _ (w1.heap.size + 1) 0 _ _ (0, 0) HF.out.blk
  simp at k0
  refine (HNS.out _ _ (sl_new _ _ _ 1 2 (by simp) rfl)).mono ?_
  rintro e w4 ⟨rfl, hb4⟩
  have HB4 := Lib.hid (bel_alloc hW hb4)
  have hl := HF.out.lt
  have k4 : w4.cell? ⟨w1.heap.size + 1, 0, none⟩ = some (.slice none 0 0) := by
    refine (hb4.cell (p := ⟨w1.heap.size + 1, 0, none⟩) (by simp)).trans ?_
    refine (World.cell?_alloc_lt _ _ ⟨w1.heap.size + 1, 0, none⟩ (by simp)).trans ?_
    exact cell_of_row _ (w1.heap.size + 1) 0 _ _ (0, 0) HF.out.blk
  clear hb4 hW k0 hl
  go_wp2_with fail
  go_loopw [7, 40] (fun v i wr => i = .int .i64 0 ∧ v = .string (strOfNums (numsI [0, 0])) ∧ wr = w4) (fun _ _ _ => 0)
  case atStart => exact ⟨rfl, rfl, rfl⟩
  case round =>
    obtain ⟨rfl, rfl, rfl⟩ := hrel
    go_wp2_with fail
    go_ret2
    exact ⟨by rw [HS.out]; rfl, HB4.out⟩
/-- fst.Build at every list. -/
theorem build_any (w : World) (B : Nat) (hB : B ≤ w.heap.size) (A : Option Addr) (n c : Nat) (l : List Ent) (h : Ents w B A n c l) (hwf : ∀ e ∈ l, fits64 e.2) (ht : Tab w) :
    Calls Tryd.prog 10 #[.slice A n c] w fun e w' => e = .returned (.tuple #[.string (buildS l), .int .i64 (rightE l)]) ∧ Below w.heap.size w w' := by
  by_cases hr : rightE l = 0
  · cases l with
    | nil =>
      obtain rfl : n = 0 := h.len.symm
      exact build_nil w B hB A c h
    | cons e r => exact build_good w B hB A n c _ h hr hwf (by simp) ht
  · exact build_bad w B hB A n c l h hr
end Go.Proofs.YtheickndnniomaaDoor
