/- glosslaw20 is awake. -/
import Derived.Test.YtkhemhiifhggmaaGreatDoorHPr13
import Derived.Test.YtkhemhiifhggmaaGreatDoorHPr1
import Derived.SizedLaws
import Derived.ChangeArms
import Derived.Test.YtkhemhiifhggmaaGreatDoorChecked
import Derived.Test.YtkhemhiifhggmaaGreatDoorHPr9
import Derived.Test.YtkhemhiifhggmaaGreatDoorHPr5
import Derived.Test.YtkhemhiifhggmaaGreatDoorHPr12
import Derived.Test.YtkhemhiifhggmaaGreatDoorHPr6
import Derived.Test.YtkhemhiifhggmaaGreatDoorRows
set_option maxRecDepth 100000
set_option maxHeartbeats 40000000
namespace Go.Proofs.YtkhemhiifhggmaaGreatDoor
open Go.RowKit Go.Maps Go.Sort
set_option linter.unusedVariables false
theorem one_ok : PtOk 7 oneL := by decide
theorem ones_z : ∀ s ∈ oneL, (0 ≤ s.id ∧ s.id ≤ 999999999) ∧ 0 ≤ s.gen ∧ s.gen ≤ 999999999 := by decide
def DA : DS Unit := (saveD (DS.new Unit) 3 7 oneL).1
theorem da_keys {ss : List (List UInt8)} (hK : StrK DA.names) (hss : ss.Perm (strKeys DA.names)) (ht : ∃ n, n ≤ DA.cap ∧ (strKeys DA.names).Nodup) : sortedN ss = [nameP 112 3] := by
 obtain ⟨h1, h2, f, g, L, v, hf, hg, hon⟩ := save_first Unit (n := 3) (nx := 7) (l := oneL) (by decide) one_ok
 have v : DV DA f f g L := v
 have hmem : ∀ s, s ∈ strKeys DA.names ↔ s = nameP 112 3 := fun s => by
  rw [hK.mem, (v.n.2 _).1]
  constructor
  ·intro h
   obtain ⟨k, hk⟩ := Option.isSome_iff_exists.1 h
   exact bs_inj (hon _ _ hk)
  ·intro e
   rw [e, hf]
   rfl
 obtain ⟨_, _, hnd⟩ := ht
 have hl : strKeys DA.names = [nameP 112 3] := by
  generalize strKeys DA.names = l at hmem hnd
  match l, hmem, hnd with
  | [], hmem, _ => exact absurd ((hmem _).2 rfl) List.not_mem_nil
  | [a], hmem, _ => rw [(hmem a).1 (List.mem_cons_self ..)]
  |
   a :: b :: r, hmem, hnd =>
   have h1 := (hmem a).1 (by simp)
   have h2 := (hmem b).1 (by simp)
   rw [h1, h2] at hnd
   simp at hnd
 rw [hl] at hss
 rw [hss.eq_singleton]
 simp [sortedN]
theorem own_nodup {H : Type} {w W : World} {p : Nat} {D : DS H} (h : Own w W p D) : (strKeys D.names).Nodup := by
 have hK := own_strk h
 obtain ⟨F, _, hd, _⟩ := h
 obtain ⟨n, _, hm⟩ := hd.nam
 obtain ⟨es, e, hp⟩ := hm.tidy lawS
 obtain ⟨es', e', hk⟩ := hK
 rw [e] at e' ⊢
 injection e' with e'
 subst e'
 show (es.map fun p => strOf p.1).Nodup
 refine List.pairwise_map.2 (List.Pairwise.imp_of_mem ?_ hp)
 intro a b ha hb hne e
 obtain ⟨x, hx⟩ := hk a ha
 obtain ⟨y, hy⟩ := hk b hb
 rw [hx, hy] at e hne
 have : x = y := e
 exact hne (by rw [this])
theorem filesZ_lt (n : Int) (l : List Sg) : (filesZ n l).Pairwise (fun x y => x < y) ∧ ∀ x, x ∈ filesZ n l ↔ x ∈ filesR n l := by
 obtain ⟨h1, h2⟩ := compactS_sorted (sortS_le (filesR n l))
 exact ⟨h1, fun x => (h2 x).trans (sortS_mem _ _)⟩
theorem one_raw : filesR 3 oneL = [[112, 95, 48, 48, 48, 48, 48, 48, 48, 48, 51], [115, 95, 48, 48, 48, 48, 48, 48, 48, 48, 50], [115, 95, 48, 48, 48, 48, 48, 48, 48, 48, 53], [100, 95, 48, 48, 48, 48, 48, 48, 48, 48, 54]] := by decide +kernel
theorem one_files : filesZ 3 oneL = [[100, 95, 48, 48, 48, 48, 48, 48, 48, 48, 54], [112, 95, 48, 48, 48, 48, 48, 48, 48, 48, 51], [115, 95, 48, 48, 48, 48, 48, 48, 48, 48, 50], [115, 95, 48, 48, 48, 48, 48, 48, 48, 48, 53]] := by
 obtain ⟨h1, h2⟩ := filesZ_lt 3 oneL
 refine slt_ext h1 (by decide +kernel) fun x => ?_
 rw [h2, one_raw]
 simp only [List.mem_cons, List.not_mem_nil, or_false]
 constructor
 ·rintro (h | h | h | h)
  ·exact .inr (.inl h)
  ·exact .inr (.inr (.inl h))
  ·exact .inr (.inr (.inr h))
  ·exact .inl h
 ·rintro (h | h | h | h)
  ·exact .inr (.inr (.inr h))
  ·exact .inl h
  ·exact .inr (.inl h)
  ·exact .inr (.inr (.inl h))
theorem one_name : bs (nameP 112 3) = ⟨#[112, 95, 48, 48, 48, 48, 48, 48, 48, 48, 51]⟩ := by decide +kernel
theorem le_al (W : World) (o : Obj) : W.heap.size + 1 ≤ (W.alloc o).heap.size := Nat.le_of_eq (Array.size_push ..).symm
theorem SegsIn.more {W : World} {B B' : Nat} {A : Option Addr} {n : Nat} {l : List Sg} (h : SegsIn W B A n l) (hB : B ≤ B') : SegsIn W B' A n l := ⟨h.1.more hB, h.2⟩
theorem psame_self (w : World) (B : Nat) (hB : B ≤ w.heap.size) (A A' : Option Addr) (n c n' c' : Nat) (l : List Sg) (h : SegsIn w B A n l) (h' : SegsIn w B A' n' l) (hn0 : n ≤ 4398046511104) (hn0' : n' ≤ 4398046511104) (x : Int) :
  Calls Tryz.prog 19 #[.agg #[.int .i64 x, .slice A n c], .agg #[.int .i64 x, .slice A' n' c']] w fun e w' => e = .returned (.bool true) ∧ Below w.heap.size w w' :=
 (psame_any w B hB A A' n c n' c' l l h h' hn0 hn0' x x).mono fun e w' hh => ⟨hh.1.trans (by simp), hh.2⟩
theorem same_yes (w : World) (B : Nat) (A A' : Option Addr) (n n' c c' : Nat) (xs ys : List ByteArray) (hx : Sl w B 1 A n (xs.map .string)) (hy : Sl w B 1 A' n' (ys.map .string)) (hB : B ≤ w.heap.size) (hn : n ≤ maxLen) (hn' : n' ≤ maxLen) (e : xs = ys) :
  Calls Tryz.prog 14 #[.slice A n c, .slice A' n' c'] w fun e w' => e = .returned (.bool true) ∧ Below w.heap.size w w' :=
 (same_any w B A A' n n' c c' xs ys hx hy hB hn hn').mono fun e' w' hh => ⟨hh.1.trans (by rw [decide_eq_true e]), hh.2⟩
theorem own_sl {W : World} {base : Nat} {A : Option Addr} {n c : Nat} {l : List (List UInt8)} (h : W.ownsRow base 9 1 (.slice A n c) n (l.map encStr)) : Sl W W.heap.size 1 A n ((l.map bs).map .string) := by
 have := Sl.of_own h
 rw [List.map_map]
 exact this
def F4 : List ByteArray := [(⟨#[100, 95, 48, 48, 48, 48, 48, 48, 48, 48, 54]⟩ : ByteArray), ⟨#[112, 95, 48, 48, 48, 48, 48, 48, 48, 48, 51]⟩, ⟨#[115, 95, 48, 48, 48, 48, 48, 48, 48, 48, 50]⟩, ⟨#[115, 95, 48, 48, 48, 48, 48, 48, 48, 48, 53]⟩]
theorem files_one (w : World) (hT : Tab w) (B : Nat) (hB : B ≤ w.heap.size) (A : Option Addr) (c : Nat) (h : SegsIn w B A 2 oneL) :
  Calls Tryz.prog 15 #[.int .i64 3, .agg #[.int .i64 7, .slice A 2 c]] w fun e w' => ∃ A' c', e = .returned (.slice A' 4 c') ∧ Sl w' w'.heap.size 1 A' 4 (F4.map .string) ∧ Below w.heap.size w w' := by
 refine (files_any w hT B hB 3 7 (by omega) A 2 c oneL h (by omega) ones_z).mono ?_
 rintro e w' ⟨A', c', h1, h2, h3⟩
 have hl : (filesZ 3 oneL).length = 4 := by rw [one_files]; rfl
 rw [hl] at h1 h2
 rw [one_files] at h2
 exact ⟨A', c', h1, own_sl h2, h3⟩
theorem pawake_any (w : World) (hT : Tab w) (hE : Errs w) : Calls Tryz.prog 9 #[] w fun e w' => e = .returned (.bool true) ∧ Below w.heap.size w w' := by
 have HN := Lib.hid (dk_new Unit (brefl w))
 go_enter Tryz.func9, Tryz.ntmps9
 go_wp2_with fail
 refine HN.out.mono ?_
 rintro e w1 ⟨rfl, ho1⟩
 have HO1 := Lib.hid ho1
 obtain ⟨p, hp⟩ : ∃ p, w.heap.size + 3 = p := ⟨_, rfl⟩
 rw [hp] at HO1 ⊢
 clear ho1 hp HN
 go_wp2_with fail
 refine (one_any w1).mono ?_
 rintro e w2 ⟨A2, c2, rfl, hs2, hb2⟩
 have HO2 := Lib.hid (HO1.out.on hb2)
 have HSV := Lib.hid (save_any w w2 p (DS.new Unit) HO2.out hT 0 0 (by omega) (small_new Unit) (good_new Unit) (by omega) 3 (by omega) w2.heap.size (Nat.le_refl _) A2 2 c2 oneL (Lib.hid hs2) (by omega) 7)
 have HE := Lib.hid (save_first Unit (n := 3) (nx := 7) (l := oneL) (by decide) one_ok)
 rw [HE.out.1] at HSV
 clear hs2 hb2
 go_wp2_with fail
 refine HSV.out.mono ?_
 rintro e w3 ⟨rfl, ho3, _⟩
 have HO3 : Hid (Own w w3 p DA) := ho3
 have HSM : Hid (DA.small (0 + 5)) := saveD_small (by decide) one_ok (small_new Unit)
 have HGD : Hid (DA.good (0 + 180000000000)) := saveD_good (by decide) one_ok (good_new Unit)
 have HDN : Hid (DA.down = false) := HE.out.2.1.2.2
 have HND := Lib.hid (own_nodup ho3)
 have HSK := Lib.hid (own_strk ho3)
 have HSS : Hid (∀ ss : List (List UInt8), ss.Perm (strKeys DA.names) → sortedN ss = [nameP 112 3]) := fun ss h => da_keys HSK.out h ⟨0, Nat.zero_le _, HND.out⟩
 have HLA : Hid (∀ ss : List (List UInt8), ss.Perm (strKeys DA.names) → latestD DA ss = some (3, 7, oneL)) := fun ss h => by
  obtain ⟨_, _, f, g, L, v, hf, hg, hon⟩ := HE.out
  exact latest_at v HDN.out HSK.out h (by decide) hf (by rw [hg]; exact read_seal one_ok (by decide)) (fun s k hk => .inr ⟨3, by decide, hon s k hk⟩)
 have HLT := Lib.hid (latest_any w w3 p DA ho3 hT hE (HSM.out.fits (by omega)) HDN.out (HGD.out.more (by omega)) (by
  intro s hs
  have h1 : s ∈ sortedN (strKeys DA.names) := by
   show s ∈ sortS _
   rw [sortS_mem]
   exact hs
  rw [HSS.out _ (List.Perm.refl _), List.mem_singleton] at h1
  rw [h1]
  have := name_le 112 3
  omega))
 clear ho3
 go_wp2_with fail
 refine HLT.out.mono ?_
 rintro e w4 ⟨ss, hss, hpost, ho4, hb4⟩
 rw [HLA.out ss hss] at hpost
 obtain ⟨A4, n4, c4, rfl, hs4, _⟩ := hpost
 have hn4 : n4 = 2 := by have := hs4.2; simpa [oneL] using this.symm
 subst hn4
 have HO4 := Lib.hid ho4
 have HS4 := Lib.hid hs4
 clear hss ho4 hs4 hb4
 go_wp2_with fail
 obtain ⟨V0, hV0⟩ : ∃ V0, w4.alloc (.cells #[.int .i64 7, .slice A4 2 c4] 24) = V0 := ⟨_, rfl⟩
 have hb0 : Below w4.heap.size w4 V0 := by rw [← hV0]; exact bnew (brefl w4) _
 have hx0 : V0.heap[w4.heap.size]? = some (.cells #[.int .i64 7, .slice A4 2 c4] 24 (0, 0)) := by rw [← hV0]; exact heap_alloc_new _ _
 rw [hV0]
 have HX := Lib.hid hx0
 have HO0 := Lib.hid (HO4.out.on hb0)
 have HS0 := Lib.hid ((HS4.out.keep hb0).more hb0.size)
 have HK : Hid (∀ V, Below V0.heap.size V0 V → V.cell? ⟨w4.heap.size, 0, none⟩ = some (.int .i64 7) ∧ V.cell? ⟨w4.heap.size, 1, none⟩ = some (.slice A4 2 c4)) := fun V hv => by
  obtain ⟨k0, k1, _, _⟩ := cells2 ((hv.block _ (Array.getElem?_eq_some_iff.1 hx0).1).trans hx0)
  exact ⟨k0, k1⟩
 have HTV : Hid (∀ V, Below V0.heap.size V0 V → Tab V) := fun V hv => hT.below (HO0.out.below.trans (hv.mono HO0.out.below.size))
 have HON1 := Lib.hid one_any
 have HON2 := Lib.hid one_any
 clear hV0 hb0 hx0 HLT HSV HO1 HO2 HO3 HO4 HS4 HLA HND HSK HGD HE
 go_region_held3 (fun w' => w'.cell? ⟨w4.heap.size, 0, none⟩ = some (.int .i64 7) ∧ w'.cell? ⟨w4.heap.size, 1, none⟩ = some (.slice A4 2 c4))
  (first | assumption | (refine HK.out _ ?_; (repeat (first | exact HV7.out | exact HV6.out | exact HV5.out | exact HV4.out | exact HV3.out | exact HV2.out | exact HV1.out | exact brefl _ | refine Below.drew ?_ | refine bnew ?_ _)); done))
  (first
  | (go_at_call 36; refine (HON1.out _).mono ?_; rintro e V1 ⟨A1, c1, rfl, hs1, hv1⟩; have HV1 : Hid (Below V0.heap.size V0 V1) := bcall (by repeat (first | exact HV7.out | exact HV6.out | exact HV5.out | exact HV4.out | exact HV3.out | exact HV2.out | exact HV1.out | exact brefl _ | refine Below.drew ?_ | refine bnew ?_ _)) hv1; have HS1 := Lib.hid hs1; have HS4 := Lib.hid ((HS0.out.keep HV1.out).more HV1.out.size); clear HON1 hs1 hv1)
  | (go_at_call 19; refine (psame_self _ V1.heap.size (Below.size (B := V1.heap.size) (by repeat (first | exact brefl _ | refine Below.drew ?_ | refine bnew ?_ _))) A4 A1 2 c4 2 c1 oneL (HS4.out.keep (by repeat (first | exact brefl _ | refine Below.drew ?_ | refine bnew ?_ _))) (HS1.out.keep (by repeat (first | exact brefl _ | refine Below.drew ?_ | refine bnew ?_ _))) (by omega) (by omega) 7).mono ?_; rintro e V2 ⟨rfl, hv2⟩; have HV2 : Hid (Below V0.heap.size V0 V2) := bcall (by repeat (first | exact HV7.out | exact HV6.out | exact HV5.out | exact HV4.out | exact HV3.out | exact HV2.out | exact HV1.out | exact brefl _ | refine Below.drew ?_ | refine bnew ?_ _)) hv2; clear hv2)
  | (
    go_at_call 29; refine (dr_list (HO0.out.on (by repeat (first | exact HV7.out | exact HV6.out | exact HV5.out | exact HV4.out | exact HV3.out | exact HV2.out | exact HV1.out | exact brefl _ | refine Below.drew ?_ | refine bnew ?_ _))) (HSM.out.fits (by omega)) HDN.out).mono ?_; rintro e V3 ⟨⟨v, ss3, rfl, hp3, hown3, hv3⟩, ho3⟩; have h3 := HSS.out ss3 hp3; have hl3 : ss3.length = 1 := by rw [← sortS_len ss3]; show (sortedN ss3).length = 1; rw [h3]; rfl
    rw [hl3] at hown3; obtain ⟨A3, c3, rfl, _⟩ := own_shape hown3; have HV3 : Hid (Below V0.heap.size V0 V3) := bcall (by repeat (first | exact HV7.out | exact HV6.out | exact HV5.out | exact HV4.out | exact HV3.out | exact HV2.out | exact HV1.out | exact brefl _ | refine Below.drew ?_ | refine bnew ?_ _)) hv3; have HR3 : Hid (Sl V3 V3.heap.size 1 A3 1 (([nameP 112 3].map bs).map .string)) := (by have h := hown3; change V3.ownsRow _ _ _ _ _ ((sortedN ss3).map encStr) at h; rw [h3] at h; exact own_sl h); have HQ3 := Lib.hid hv3; clear hown3 ho3 hv3 h3 hl3 hp3)
  | (
    go_at_call 14; refine (same_yes _ _ A3 _ 1 1 c3 1 ([nameP 112 3].map bs) [(⟨#[112, 95, 48, 48, 48, 48, 48, 48, 48, 48, 51]⟩ : ByteArray)] ((HR3.out.below (by repeat (first | exact (brefl V3) | refine Below.drew ?_ | refine bnew ?_ _))).more (Below.size (B := V3.heap.size) (by repeat (first | exact (brefl V3) | refine Below.drew ?_ | refine bnew ?_ _)))) ?r4 (Nat.le_refl _) (by unfold maxLen; omega) (by unfold maxLen; omega) ?e4).mono ?_
    case r4 => first
     | exact (sl_row (heap_alloc_new V3 _) 1 1 rfl).more (le_al _ _)
     | exact (sl_row ((HQ3.out.block _ (le_al _ _)).trans (heap_alloc_new _ _)) 1 1 rfl).more (Nat.lt_of_lt_of_le (le_al _ _) HQ3.out.size)
    case e4 => show [bs (nameP 112 3)] = _; rw [one_name]
    rintro e V4 ⟨rfl, hv4⟩; have HV4 : Hid (Below V0.heap.size V0 V4) := bcall (by repeat (first | exact HV7.out | exact HV6.out | exact HV5.out | exact HV4.out | exact HV3.out | exact HV2.out | exact HV1.out | exact brefl _ | refine Below.drew ?_ | refine bnew ?_ _)) hv4; clear HR3 HQ3 hv4)
  | (go_at_call 36; refine (HON2.out _).mono ?_; rintro e V5 ⟨A5, c5, rfl, hs5, hv5⟩; have HV5 : Hid (Below V0.heap.size V0 V5) := bcall (by repeat (first | exact HV7.out | exact HV6.out | exact HV5.out | exact HV4.out | exact HV3.out | exact HV2.out | exact HV1.out | exact brefl _ | refine Below.drew ?_ | refine bnew ?_ _)) hv5; have HS5 := Lib.hid hs5; have HQ5 := Lib.hid hv5; clear HON2 hs5 hv5)
  | (
    go_at_call 15; refine (files_one _ (HTV.out _ (by repeat (first | exact HV7.out | exact HV6.out | exact HV5.out | exact HV4.out | exact HV3.out | exact HV2.out | exact HV1.out | exact brefl _ | refine Below.drew ?_ | refine bnew ?_ _))) V5.heap.size (Below.size (B := V5.heap.size) (by repeat (first | exact (brefl V5) | refine Below.drew ?_ | refine bnew ?_ _))) A5 c5 (HS5.out.keep (by repeat (first | exact (brefl V5) | refine Below.drew ?_ | refine bnew ?_ _)))).mono ?_
    rintro e V6 ⟨A6, c6, rfl, hr6, hv6⟩; have HV6 : Hid (Below V0.heap.size V0 V6) := bcall (by repeat (first | exact HV7.out | exact HV6.out | exact HV5.out | exact HV4.out | exact HV3.out | exact HV2.out | exact HV1.out | exact brefl _ | refine Below.drew ?_ | refine bnew ?_ _)) hv6; have HQ6 := Lib.hid hv6; have HR6 := Lib.hid hr6; clear hr6 hv6)
  | (
    go_at_call 14; refine (same_yes _ _ A6 _ 4 4 c6 4 F4 [(⟨#[100, 95, 48, 48, 48, 48, 48, 48, 48, 48, 54]⟩ : ByteArray), ⟨#[112, 95, 48, 48, 48, 48, 48, 48, 48, 48, 51]⟩, ⟨#[115, 95, 48, 48, 48, 48, 48, 48, 48, 48, 50]⟩, ⟨#[115, 95, 48, 48, 48, 48, 48, 48, 48, 48, 53]⟩] ((HR6.out.below (by repeat (first | exact (brefl V6) | refine Below.drew ?_ | refine bnew ?_ _))).more (Below.size (B := V6.heap.size) (by repeat (first | exact (brefl V6) | refine Below.drew ?_ | refine bnew ?_ _)))) ?r7 (Nat.le_refl _) (by unfold maxLen; omega) (by unfold maxLen; omega) ?e7).mono ?_
    case r7 => first
     | exact (sl_row (heap_alloc_new V6 _) 1 4 rfl).more (le_al _ _)
     | exact (sl_row ((HQ6.out.block _ (le_al _ _)).trans (heap_alloc_new _ _)) 1 4 rfl).more (Nat.lt_of_lt_of_le (le_al _ _) HQ6.out.size)
     | exact (sl_row ((HQ6.out.block _ (Nat.lt_of_lt_of_le (le_al _ _) HQ5.out.size)).trans ((HQ5.out.block _ (le_al _ _)).trans (heap_alloc_new _ _))) 1 4 rfl).more (Nat.lt_of_lt_of_le (Nat.lt_of_lt_of_le (le_al _ _) HQ5.out.size) HQ6.out.size)
    case e7 => rfl
    rintro e V7 ⟨rfl, hv7⟩; have HV7 : Hid (Below V0.heap.size V0 V7) := bcall (by repeat (first | exact HV7.out | exact HV6.out | exact HV5.out | exact HV4.out | exact HV3.out | exact HV2.out | exact HV1.out | exact brefl _ | refine Below.drew ?_ | refine bnew ?_ _)) hv7; clear hv7))
 all_goals
  go_wp2_with fail
  go_ret
  exact ⟨rfl, HO0.out.below.trans (HV7.out.mono HO0.out.below.size)⟩
end Go.Proofs.YtkhemhiifhggmaaGreatDoor
namespace Go.Proofs.YtkhemhiifhggmaaGreatDoor
open Go.RowKit Go.ChangeShapes Go.WideShapes Go.Deep
inductive Ty where
 | int (k : IntKind)
 | bool
 | str
 | slice (e : Ty) (bytes : Nat)
 | nil
 | cons (f r : Ty)
def Ty.size : Ty → Nat
 | .nil => 0
 | .cons f r => f.size + r.size
 | _ => 1
structure SlH where
 A : Option Addr
 n : Nat
 c : Nat
def Ty.den : Ty → Type
 | .int _ => Int
 | .bool => Bool
 | .str => ByteArray
 | .slice e _ => SlH × (Nat → e.den)
 | .nil => Unit
 | .cons f r => f.den × r.den
theorem Ty.inh : (t : Ty) → Nonempty t.den
 | .int _ => ⟨(0 : Int)⟩
 | .bool => ⟨false⟩
 | .str => ⟨ByteArray.empty⟩
 |
  .slice e _ => by
  obtain ⟨x⟩ := Ty.inh e
  exact ⟨(⟨none, 0, 0⟩, fun _ => x)⟩
 | .nil => ⟨()⟩
 |
  .cons f r => by
  obtain ⟨x⟩ := Ty.inh f
  obtain ⟨y⟩ := Ty.inh r
  exact ⟨(x, y)⟩
def SlH.ok (s : SlH) (bytes : Nat) : Prop := s.n ≤ s.c ∧ s.c ≤ maxLen ∧ s.n * bytes ≤ reachBytes ∧ (s.A = none → s.c = 0)
def Reads (w : World) (B : Nat) : (t : Ty) → t.den → List Value → Prop
 | .int k, d, cs => ∃ z : Int, d = z ∧ cs = [.int k z] ∧ (Lit.int k z).wf = true
 | .bool, d, cs => ∃ b : Bool, d = b ∧ cs = [.bool b]
 | .str, d, cs => ∃ s : ByteArray, d = s ∧ cs = [.string s] ∧ s.size ≤ maxLen ∧ s.size ≤ reachBytes
 | .slice e bytes, d, cs => cs = [.slice d.1.A d.1.n d.1.c] ∧ d.1.ok bytes ∧ (0 < d.1.n → ∃ b off, d.1.A = some ⟨b, off, none⟩ ∧ b < B ∧
   ∀ i, i < d.1.n → ∃ cl : List Value, cl.length = e.size ∧ (∀ j u, cl[j]? = some u → w.cell? ⟨b, off + (i * e.size + j), none⟩ = some u) ∧ Reads w B e (d.2 i) cl)
 | .nil, _, cs => cs = []
 | .cons f r, d, cs => ∃ c1 c2, cs = c1 ++ c2 ∧ c1.length = f.size ∧ Reads w B f d.1 c1 ∧ Reads w B r d.2 c2
theorem Reads.keep {w w' : World} {B B' : Nat} (hB : B ≤ B') (hk : ∀ b o, b < B → w'.cell? ⟨b, o, none⟩ = w.cell? ⟨b, o, none⟩) : ∀ {t : Ty} {d : t.den} {cs : List Value}, Reads w B t d cs → Reads w' B' t d cs
 | .int _, _, _, h => h
 | .bool, _, _, h => h
 | .str, _, _, h => h
 |
  .slice e bytes, d, cs, h => by
  obtain ⟨h1, h2, h3⟩ := h
  refine ⟨h1, h2, fun hn => ?_⟩
  obtain ⟨b, off, hA, hb, hi⟩ := h3 hn
  refine ⟨b, off, hA, by omega, fun i hin => ?_⟩
  obtain ⟨cl, hl, hc, hr⟩ := hi i hin
  exact ⟨cl, hl, fun j u hu => (hk _ _ hb).trans (hc j u hu), Reads.keep hB hk hr⟩
 | .nil, _, _, h => h
 |
  .cons f r, d, cs, h => by
  obtain ⟨c1, c2, h1, h2, h3, h4⟩ := h
  exact ⟨c1, c2, h1, h2, Reads.keep hB hk h3, Reads.keep hB hk h4⟩
theorem Reads.below {w w' : World} {t : Ty} {d : t.den} {cs : List Value} (h : Reads w w.heap.size t d cs) (hb : Below w.heap.size w w') : Reads w' w'.heap.size t d cs :=
 h.keep hb.size fun b o hl => hb.cell (p := ⟨b, o, none⟩) hl
theorem Reads.len {w : World} {B : Nat} : ∀ {t : Ty} {d : t.den} {cs : List Value}, Reads w B t d cs → cs.length = t.size
 | .int _, _, _, ⟨_, _, h, _⟩ => by rw [h]; rfl
 | .bool, _, _, ⟨_, _, h⟩ => by rw [h]; rfl
 | .str, _, _, ⟨_, _, h, _⟩ => by rw [h]; rfl
 | .slice _ _, _, _, ⟨h, _⟩ => by rw [h]; rfl
 | .nil, _, _, h => by rw [show _ = [] from h]; rfl
 |
  .cons f r, d, cs, ⟨c1, c2, h, hl, _, h2⟩ => by
  have := Reads.len h2
  rw [h, List.length_append, hl, this]
  rfl
def Ty.cells : (t : Ty) → t.den → List Value
 | .int k, d => [.int k d]
 | .bool, d => [.bool d]
 | .str, d => [.string d]
 | .slice _ _, d => [.slice d.1.A d.1.n d.1.c]
 | .nil, _ => []
 | .cons f r, d => f.cells d.1 ++ r.cells d.2
theorem Reads.cells {w : World} {B : Nat} : ∀ {t : Ty} {d : t.den} {cs : List Value}, Reads w B t d cs → cs = t.cells d
 | .int _, _, _, ⟨_, h, e, _⟩ => by rw [e, h]; rfl
 | .bool, _, _, ⟨_, h, e⟩ => by rw [e, h]; rfl
 | .str, _, _, ⟨_, h, e, _⟩ => by rw [e, h]; rfl
 | .slice _ _, _, _, ⟨h, _⟩ => h
 | .nil, _, _, h => h
 | .cons f r, d, cs, ⟨c1, c2, h, _, h1, h2⟩ => by rw [h, Reads.cells h1, Reads.cells h2]; rfl
theorem Reads.sl {w : World} {B bytes : Nat} {e : Ty} {A : Option Addr} {n c : Nat} {x : Nat → e.den} {cs : List Value} (h : Reads w B (.slice e bytes) (⟨A, n, c⟩, x) cs) (hl : ∀ d : e.den, (e.cells d).length = e.size) :
  Sl w B e.size A n ((List.range n).flatMap fun i => e.cells (x i)) := by
 obtain ⟨_, _, h3⟩ := h
 refine ⟨by rw [flat_length _ e.size (fun i => hl (x i)), List.length_range], fun hn => ?_⟩
 obtain ⟨b, off, hA, hb, hi⟩ := h3 hn
 refine ⟨b, off, hA, hb, fun j u hu => ?_⟩
 have hjl : j < n * e.size := by
  have := (List.getElem?_eq_some_iff.1 hu).1
  rw [flat_length _ e.size (fun i => hl (x i)), List.length_range] at this
  exact this
 have hs : 0 < e.size := by
  rcases Nat.eq_zero_or_pos e.size with h0 | h0
  ·rw [h0, Nat.mul_zero] at hjl; omega
  ·exact h0
 have hq : j / e.size < n := Nat.div_lt_of_lt_mul (by rw [Nat.mul_comm]; exact hjl)
 have hr : j % e.size < e.size := Nat.mod_lt _ hs
 have hj : j / e.size * e.size + j % e.size = j := by rw [Nat.mul_comm]; exact Nat.div_add_mod j e.size
 obtain ⟨cl, _, hc, hrd⟩ := hi (j / e.size) hq
 rw [← hj] at hu ⊢
 rw [flat_at _ e.size (fun i => hl (x i)) (List.range n) (j / e.size) (j % e.size) (j / e.size) (by simp [hq]) hr] at hu
 refine hc (j % e.size) u ?_
 rw [hrd.cells]
 exact hu
theorem Reads.elem {w : World} {B bytes : Nat} {e : Ty} {A : Option Addr} {n c : Nat} {x : Nat → e.den} {cs : List Value} (h : Reads w B (.slice e bytes) (⟨A, n, c⟩, x) cs) {i : Nat} (hi : i < n) : ∃ cl, Reads w B e (x i) cl := by
 obtain ⟨_, _, h3⟩ := h
 obtain ⟨_, _, _, _, hh⟩ := h3 (show 0 < n by omega)
 obtain ⟨cl, _, _, hr⟩ := hh i hi
 exact ⟨cl, hr⟩
def tyFields (P : Program) (g : TypeId → Option Ty) : List Field → Nat → Option Ty
 | [], _ => some .nil
 | f :: fs, o => if f.offset = o then
   match g f.type with
   | some τ => if P.cellsOf f.type = τ.size then (tyFields P g fs (o + τ.size)).map (.cons τ) else none
   | none => none
  else none
def tyOf (P : Program) : Nat → TypeId → Option Ty
 | 0, _ => none
 | k + 1, t => match P.underlying t with
  | some (.int k) => some (.int k)
  | some .bool => some .bool
  | some .string => some .str
  | some (.slice e) => match tyOf P k e with
   | some τ => if P.cellsOf e = τ.size ∧ 0 < τ.size then some (.slice τ (P.bytesOf e)) else none
   | none => none
  | some (.struct fs) => match tyFields P (tyOf P k) fs.toList 0 with
   | some τ => if P.cellsOf t = τ.size then some τ else none
   | none => none
  | _ => none
section
variable {H : Type} {enc : TypeId × Value → H} {P : Program} {w : World} {base : Nat} {spare : Nat → Bool} {held : Bool}
def Small (P : Program) (t : TypeId) (d : DataW H) : Prop := ∀ n ∈ d.weights P t, n ≤ reachBytes
theorem weights_mem_all {e : TypeId} : ∀ {ds : List (DataW H)} {d : DataW H}, d ∈ ds → ∀ n ∈ d.weights P e, n ∈ DataW.weightsAll P e ds
 |
  x :: ds, d, hd, n, hn => by
  rw [DataW.weightsAll, List.mem_append]
  rcases List.mem_cons.1 hd with rfl | h
  ·exact .inl hn
  ·exact .inr (weights_mem_all h n hn)
theorem reads_fields {k n : Nat} (ih : ∀ (t : TypeId) (τ : Ty), tyOf P k t = some τ → ∀ (fuel : Nat) (cs : List Value) (x : DataW H × List MemPlace), DataW.trod enc P w base spare held fuel t cs = some x → Small P t x.1 → ∃ d : τ.den, Reads w w.heap.size τ d cs) (cs : List Value) :
  ∀ (fs : List Field) (o : Nat) (τ : Ty), tyFields P (tyOf P k) fs o = some τ → cs.length = o + τ.size →
   (∀ f ∈ fs, ∃ y : DataW H × List MemPlace, DataW.trod enc P w base spare held n f.type ((cs.drop f.offset).take (P.cellsOf f.type)) = some y ∧ Small P f.type y.1) → ∃ d : τ.den, Reads w w.heap.size τ d (cs.drop o)
 |
  [], o, τ, h, hl, _ => by
  rw [tyFields] at h
  injection h with h
  subst h
  exact ⟨(), List.drop_eq_nil_of_le (by rw [hl]; exact Nat.le_refl _)⟩
 |
  f :: fs, o, τ, h, hl, hf => by
  rw [tyFields] at h
  split at h
  ·rename_i ho
   split at h
   ·rename_i τ0 h0
    split at h
    ·rename_i hc
     cases hr : tyFields P (tyOf P k) fs (o + τ0.size) with
     | none => rw [hr] at h; cases h
     |
      some τ1 =>
      rw [hr] at h
      injection h with h
      subst h
      have hl' : cs.length = o + τ0.size + τ1.size := by rw [hl]; show o + (τ0.size + τ1.size) = _; omega
      obtain ⟨y, hy, hs⟩ := hf f (List.mem_cons_self ..)
      obtain ⟨d0, r0⟩ := ih f.type τ0 h0 n _ y hy hs
      obtain ⟨d1, r1⟩ := reads_fields ih cs fs (o + τ0.size) τ1 hr hl' (fun g hg => hf g (List.mem_cons_of_mem _ hg))
      rw [hc, ho] at r0
      refine ⟨(d0, d1), (cs.drop o).take τ0.size, cs.drop (o + τ0.size), ?_, ?_, r0, r1⟩
      ·rw [← List.drop_drop, List.take_append_drop]
      ·rw [List.length_take, List.length_drop]; omega
    ·cases h
   ·cases h
  ·cases h
theorem reads_of : ∀ (k : Nat) (t : TypeId) (τ : Ty), tyOf P k t = some τ → ∀ (fuel : Nat) (cs : List Value) (x : DataW H × List MemPlace), DataW.trod enc P w base spare held fuel t cs = some x → Small P t x.1 → ∃ d : τ.den, Reads w w.heap.size τ d cs
 | 0, t, τ, h, _, _, _, _, _ => by rw [tyOf] at h; cases h
 |
  k + 1, t, τ, h, fuel, cs, x, hx, hs => by
  have ih := reads_of k
  rw [tyOf] at h
  split at h
  ·rename_i kk hu
   injection h with h
   subst h
   obtain ⟨z, e, _, wz⟩ := DataW.trod_int hu hx
   exact ⟨z, z, rfl, e, wz⟩
  ·rename_i hu
   injection h with h
   subst h
   obtain ⟨b, e, _⟩ := DataW.trod_bool hu hx
   exact ⟨b, b, rfl, e⟩
  ·rename_i hu
   injection h with h
   subst h
   obtain ⟨s, e, ex, hm⟩ := DataW.trod_string hu hx
   subst ex
   refine ⟨s, s, rfl, e, hm, ?_⟩
   have := hs s.data.toList.length (by simp [DataW.weights])
   simpa using this
  ·rename_i e hu
   split at h
   ·rename_i τ0 h0
    split at h
    ·rename_i hc
     obtain ⟨hc, hp⟩ := hc
     injection h with h
     subst h
     rcases open_slice hu hx with ⟨hcs, _⟩ | ⟨a, len, cap, mm, nn, D, Pl, hcs, _, hlc, hcm, hmm, ex, hi⟩
     ·obtain ⟨x0⟩ := Ty.inh τ0
      exact ⟨(⟨none, 0, 0⟩, fun _ => x0), hcs, ⟨Nat.le_refl _, Nat.zero_le _, by rw [Nat.zero_mul]; exact Nat.zero_le _, fun _ => rfl⟩, fun h => absurd h (Nat.lt_irrefl _)⟩
     ·have hle : len ≤ mm := by rw [hmm]; split <;> omega
      subst ex
      have hsl : Small P t (DataW.slice ((List.range len).map D) ((List.range (mm - len)).map fun j => D (len + j))) := hs
      have hbytes : len * P.bytesOf e ≤ reachBytes := by
       have := hsl ((((List.range len).map D).length + ((List.range (mm - len)).map fun j => D (len + j)).length) * P.bytesOf e) (by simp [DataW.weights, hu])
       refine Nat.le_trans (Nat.mul_le_mul_right _ ?_) this
       simp
      have row : ∀ i, i < len → ∃ d : τ0.den, ∃ cl : List Value, cl.length = τ0.size ∧ (∀ j u, cl[j]? = some u → w.cell? ((a.add (i * τ0.size)).add j) = some u) ∧ Reads w w.heap.size τ0 d cl := by
       intro i hin
       obtain ⟨cs', hcs', htr⟩ := hi i (by omega)
       rw [hc] at hcs'
       obtain ⟨_, hcl, hat⟩ := World.cells?_some hcs'
       obtain ⟨d, hd⟩ := ih e τ0 h0 nn cs' _ htr (fun n hn => hsl n (by
        rw [DataW.weights, hu]
        simp only [List.mem_cons, List.mem_append]
        exact .inr (.inl (weights_mem_all (List.mem_map.2 ⟨i, List.mem_range.2 hin, rfl⟩) n hn))))
       refine ⟨d, cs', hd.len, fun j u hu => ?_, hd⟩
       have hj : j < τ0.size := by have := (List.getElem?_eq_some_iff.1 hu).1; have := hd.len; omega
       rw [hat j hj, hu]
      haveI : Inhabited τ0.den := ⟨Classical.choice (Ty.inh τ0)⟩
      obtain ⟨g, hg⟩ := choose_lt' row
      refine ⟨(⟨some a, len, cap⟩, g), hcs, ⟨hlc, hcm, hbytes, fun e => by cases e⟩, fun hn => ?_⟩
      have hn' : 0 < len := hn
      obtain ⟨cl, hl, hcell, _⟩ := hg 0 hn'
      have h00 := hcell 0 (cl[0]'(by omega)) (List.getElem?_eq_getElem _)
      obtain ⟨hb, hsp⟩ := lt_of_cell h00
      simp only [Nat.zero_mul, Addr.add, if_true] at hb hsp
      obtain ⟨ab, ao, asp⟩ := a
      simp only at hb hsp
      subst hsp
      refine ⟨ab, ao, rfl, hb, fun i hin => ?_⟩
      obtain ⟨cl, hl, hcell, hr⟩ := hg i hin
      refine ⟨cl, hl, fun j u hu => ?_, hr⟩
      have := hcell j u hu
      rw [Addr.add_lit, Addr.add_lit, Nat.add_assoc] at this
      exact this
    ·cases h
   ·cases h
  ·rename_i fs hu
   split at h
   ·rename_i τ0 h0
    split at h
    ·rename_i hc
     injection h with h
     subst h
     obtain ⟨xs, n, _, ex, hl, hxl, hf⟩ := DataW.trod_struct hu hx
     subst ex
     have hS : Small P t (DataW.agg (xs.map (·.1))) := hs
     have := reads_fields (n := n) ih cs fs.toList 0 τ0 h0 (by rw [hl, hc, Nat.zero_add]) (fun f hm => by
      obtain ⟨i, hi⟩ := List.mem_iff_getElem?.1 hm
      have hi' : fs[i]? = some f := by simpa using hi
      have hlt : i < xs.length := by rw [hxl]; exact (Array.getElem?_eq_some_iff.1 hi').1
      refine ⟨xs[i], by rw [hf i f hi', List.getElem?_eq_getElem hlt], fun m hm' => hS m ?_⟩
      rw [DataW.weights, hu]
      exact DataW.weights_mem_each (j := i) (t := f.type) (d := xs[i].1) (by simp [hi]) (by simp [hlt]) m hm')
     rwa [List.drop_zero] at this
    ·cases h
   ·cases h
  ·cases h
theorem small_of {ts : List TypeId} {ds : List (DataW H)} (h : (DataW.weightsEach P ts ds).all (· ≤ reachBytes) = true) {j : Nat} {t : TypeId} {d : DataW H} (ht : ts[j]? = some t) (hd : ds[j]? = some d) : Small P t d :=
 fun n hn => by simpa using List.all_eq_true.1 h n (DataW.weights_mem_each ht hd n hn)
theorem open_deep_struct {k : Nat} {t : TypeId} {e : Ty} {cs : Array Value} {d : DataW H} {p : List MemPlace} (hT : tyOf P k t = some e) (h : DataW.Trod enc P w base spare held t (.agg cs) d p) (hs : Small P t d) :
  ∃ x : e.den, Reads w w.heap.size e x cs.toList := by
 obtain ⟨m, hm⟩ := h
 obtain ⟨x, hr⟩ := reads_of k t _ hT m _ _ hm hs
 exact ⟨x, hr⟩
end
end Go.Proofs.YtkhemhiifhggmaaGreatDoor
namespace Go.Proofs.YtkhemhiifhggmaaGreatDoor
open Go.RowKit Go.Maps
structure TextsIn (w : World) (A : Option Addr) (n c : Nat) (x : Nat → ByteArray) : Prop where
 nc : n ≤ c
 cm : c ≤ maxLen
 rb : n * 16 ≤ reachBytes
 sl : Sl w w.heap.size 1 A n ((List.range n).map fun i => .string (x i))
 sz : ∀ i, i < n → (x i).size ≤ reachBytes
theorem TextsIn.get {w W : World} {A : Option Addr} {n c : Nat} {x : Nat → ByteArray} (h : TextsIn w A n c x) (hb : Below w.heap.size w W) {i : Nat} (hi : i < n) : ∃ b off t, A = some ⟨b, off, none⟩ ∧ b < W.heap.size ∧ x i = ⟨(t : List UInt8).toArray⟩ ∧ t.length ≤ 1125899906842624 ∧ W.cell? ⟨b, off + i, none⟩ = some (.string ⟨t.toArray⟩) := by
 obtain ⟨b, off, hA, hb0, hcell⟩ := h.sl.at_ hi
 have hc0 := hcell i (.string (x i)) (by rw [List.getElem?_map, List.getElem?_range hi]; rfl)
 have ht : x i = ⟨(x i).data.toList.toArray⟩ := by cases x i; simp
 refine ⟨b, off, (x i).data.toList, hA, Nat.lt_of_lt_of_le hb0 hb.size, ht, ?_, ?_⟩
 ·have h1 := h.sz i hi
  have h2 : (x i).data.toList.length = (x i).size := rfl
  rw [h2]
  unfold reachBytes at h1
  omega
 ·rw [← ht]
  exact (hb.cell (p := ⟨b, off + i, none⟩) hb0).trans hc0
end Go.Proofs.YtkhemhiifhggmaaGreatDoor
namespace Go.Proofs.YtkhemhiifhggmaaGreatDoor
open Go.RowKit Go.Maps Go.Sort
set_option linter.unusedVariables false
section
variable {H : Type} {w W : World} {p : Nat} {D : DS H}
end
theorem read_cells {W w' : World} {nx : Int} {A : Option Addr} {n c : Nat} {V : World} (hv : Below (w'.alloc (.cells #[.int .i64 nx, .slice A n c] 24)).heap.size (w'.alloc (.cells #[.int .i64 nx, .slice A n c] 24)) V) : V.cell? ⟨w'.heap.size, 0, none⟩ = some (.int .i64 nx) ∧ V.cell? ⟨w'.heap.size, 1, none⟩ = some (.slice A n c) := by
 obtain ⟨k0, k1, _, _⟩ := cells2 ((hv.block _ (le_al w' _)).trans (heap_alloc_new w' (.cells #[.int .i64 nx, .slice A n c] 24)))
 exact ⟨k0, k1⟩
end Go.Proofs.YtkhemhiifhggmaaGreatDoor
namespace Go.Proofs.YtkhemhiifhggmaaGreatDoor
open Go.RowKit Go.Maps Go.Sort
set_option linter.unusedVariables false
def rdV : Option (Int × List Sg) → Int × List Sg × Int
 | none => (0, [], 18)
 | some p => (p.1, p.2, 0)
theorem readPost_all {w w' : World} {o : Option (Int × List Sg)} {e : Ending} (h : ReadPost w o e w') : ∃ A n c, e = .returned (.tuple #[.agg #[.int .i64 (rdV o).1, .slice A n c], .int .i64 (rdV o).2.2]) ∧ SegsIn w' w'.heap.size A n (rdV o).2.1 ∧ n ≤ 1099511627000 ∧ Below w.heap.size w w' := by
 obtain ⟨hb, h⟩ := h
 match o, h with
 | none, h => exact ⟨none, 0, 0, h, ⟨Sl.empty, rfl⟩, Nat.zero_le _, hb⟩
 | some (nx, l), ⟨A, n, cp, h1, h2, h3, _⟩ => exact ⟨A, n, cp, h1, h2, h3, hb⟩
theorem preads_walk (w : World) (a : ByteArray) (_ : a.size ≤ maxLen) (ha : a.data.toList.length ≤ 1048576) (nx : Int) (A : Option Addr) (n c : Nat) (l : List Sg) (s0 : SegsIn w w.heap.size A n l ∧ n ≤ 4398046511104) (hTE : Tab w ∧ Errs w) :
  Calls Tryz.prog 4 #[.string a, .agg #[.int .i64 nx, .slice A n c]] w fun e w' => e = .returned (.bool true) ∧ Below w.heap.size w w' := by
 obtain ⟨t, ht⟩ : ∃ t, a.data.toList = t := ⟨_, rfl⟩
 have hat : a = ⟨t.toArray⟩ := by rw [← ht]
 rw [ht] at ha
 subst hat
 clear ht
 have hn := s0.2
 have HS := Lib.hid s0.1
 have HT := Lib.hid hTE
 obtain ⟨W1, hW1⟩ : ∃ W1, w.alloc (.cells #[.int .i64 nx, .slice A n c] 24) = W1 := ⟨_, rfl⟩
 have hx : W1.heap[w.heap.size]? = some (.cells #[.int .i64 nx, .slice A n c] 24 (0, 0)) := by rw [← hW1]; exact heap_alloc_new _ _
 have HX : Hid (∀ V, Below W1.heap.size W1 V → V.cell? ⟨w.heap.size, 0, none⟩ = some (.int .i64 nx) ∧ V.cell? ⟨w.heap.size, 1, none⟩ = some (.slice A n c)) := fun V hv => by
  obtain ⟨k0, k1, _, _⟩ := cells2 ((hv.block _ (Array.getElem?_eq_some_iff.1 hx).1).trans hx)
  exact ⟨k0, k1⟩
 have HB : Hid (Below w.heap.size w W1) := by show Below _ _ _; rw [← hW1]; exact bnew (brefl w) _
 have HWE := Lib.hid hW1
 have HBV : Hid (∀ V, Below W1.heap.size W1 V → Below w.heap.size w V) := fun V hv => bcall HB.out hv
 have HR1 := Lib.hid (fun V => read_pt V t (by omega))
 have HR2 := Lib.hid (fun V => rread_any V t (by omega))
 obtain ⟨P, hP⟩ : ∃ P, rdV (readP t) = P := ⟨_, rfl⟩
 have HPE := Lib.hid hP
 obtain ⟨v, lv, er⟩ := P
 clear hx hW1 hP s0 hTE
 go_enter Tryz.func4, Tryz.ntmps4
 go_wp2_with fail
 rw [HWE.out]
 refine (HR1.out _).mono ?_
 rintro e w2 h2
 obtain ⟨A2, n2, c2, rfl, hs2, hn2, hb2⟩ := readPost_all h2
 rw [HPE.out] at hs2 ⊢
 dsimp only at hs2 ⊢
 obtain ⟨W2, hW2⟩ : ∃ W2, w2.alloc (.cells #[.int .i64 v, .slice A2 n2 c2] 24) = W2 := ⟨_, rfl⟩
 have hba := bnew (brefl w2) (.cells #[.int .i64 v, .slice A2 n2 c2] 24)
 rw [hW2] at hba
 have HW2 := Lib.hid hW2
 have HB2 : Hid (Below W1.heap.size W1 W2) := hb2.trans (hba.mono hb2.size)
 have HS2 : Hid (SegsIn W2 W2.heap.size A2 n2 lv) := (hs2.keep hba).more hba.size
 have HC2 : Hid (∀ V, Below W2.heap.size W2 V → V.cell? ⟨w2.heap.size, 0, none⟩ = some (.int .i64 v) ∧ V.cell? ⟨w2.heap.size, 1, none⟩ = some (.slice A2 n2 c2)) := fun V hv => by
  rw [← hW2] at hv
  exact read_cells (W := w) hv
 clear h2 hs2 hb2 hba hW2 HR1
 go_wp2_with fail
 rw [HW2.out]
 refine (HR2.out _).mono ?_
 rintro e w3 h3
 obtain ⟨A3, n3, c3, rfl, hs3, hn3, hb3⟩ := readPost_all h3
 rw [HPE.out] at hs3 ⊢
 dsimp only at hs3 ⊢
 obtain ⟨W3, hW3⟩ : ∃ W3, w3.alloc (.cells #[.int .i64 v, .slice A3 n3 c3] 24) = W3 := ⟨_, rfl⟩
 have hba := bnew (brefl w3) (.cells #[.int .i64 v, .slice A3 n3 c3] 24)
 rw [hW3] at hba
 have HW3 := Lib.hid hW3
 have HB3 : Hid (Below W2.heap.size W2 W3) := hb3.trans (hba.mono hb3.size)
 have HS3 : Hid (SegsIn W3 W3.heap.size A3 n3 lv) := (hs3.keep hba).more hba.size
 have HC3 : Hid (∀ V, Below W3.heap.size W3 V → V.cell? ⟨w3.heap.size, 0, none⟩ = some (.int .i64 v) ∧ V.cell? ⟨w3.heap.size, 1, none⟩ = some (.slice A3 n3 c3)) := fun V hv => by
  rw [← hW3] at hv
  exact read_cells (W := w) hv
 have HB13 : Hid (Below W1.heap.size W1 W3) := HB2.out.trans (HB3.out.mono HB2.out.size)
 have HAW := Lib.hid (pawake_any W3 (HT.out.1.below (HBV.out _ HB13.out)) (HT.out.2.below (HBV.out _ HB13.out)))
 have hq1 : (er != er) = false := by simp
 clear h3 hs3 hb3 hba hW3 HR2
 go_wp2_with fail
 rw [HW3.out]
 refine HAW.out.mono ?_
 rintro e w4 ⟨rfl, hb4⟩
 obtain ⟨d0, d1⟩ := HC3.out w4 hb4
 have HB24 : Hid (Below W2.heap.size W2 w4) := HB3.out.trans (hb4.mono HB3.out.size)
 obtain ⟨e0, e1⟩ := HC2.out w4 HB24.out
 have HB14 : Hid (Below W1.heap.size W1 w4) := HB2.out.trans (HB24.out.mono HB2.out.size)
 have HSM := Lib.hid (psame_self w4 w4.heap.size (Nat.le_refl _) A2 A3 n2 c2 n3 c3 lv ((HS2.out.keep HB24.out).more HB24.out.size) ((HS3.out.keep hb4).more hb4.size) (by omega) (by omega) v)
 clear hb4 HAW
 go_wp2_with fail
 refine HSM.out.mono ?_
 rintro e w5 ⟨rfl, hb5⟩
 have HB15 : Hid (Below W1.heap.size W1 w5) := HB14.out.trans (hb5.mono HB14.out.size)
 obtain ⟨f0, f1⟩ := HX.out w5 HB15.out
 have HPK := Lib.hid (pack_any w5 w.heap.size (HBV.out _ HB15.out).size A n c l (Lib.hid (HS.out.keep (HBV.out _ HB15.out))) hn nx)
 clear hb5 HSM d0 d1 e0 e1
 by_cases hok : PtOk nx l
 ·have hpk : packP nx l = (sealB 2 (textP nx l), 0) := if_pos hok
  rw [hpk] at HPK
  have hl9 := ptOk_len hok
  have hz := seal_size hok
  have HRS := Lib.hid (read_seal hok (by omega))
  obtain ⟨y, hy⟩ : ∃ y, sealB 2 (textP nx l) = y := ⟨_, rfl⟩
  rw [hy] at HPK hz HRS
  have HRD := Lib.hid (fun V => read_pt V y (by omega))
  rw [HRS.out] at HRD
  clear hpk hy hok
  go_wp2_with fail
  refine HPK.out.mono ?_
  rintro e w6 ⟨rfl, hb6⟩
  have HB16 : Hid (Below W1.heap.size W1 w6) := HB15.out.trans (hb6.mono HB15.out.size)
  clear hb6 HPK f0 f1
  go_wp2_with fail
  refine (HRD.out _).mono ?_
  rintro e w7 h7
  obtain ⟨A7, n7, c7, rfl, hs7, hn7, hb7⟩ := readPost_all h7
  dsimp only [rdV] at hs7 ⊢
  obtain ⟨W7, hW7⟩ : ∃ W7, w7.alloc (.cells #[.int .i64 nx, .slice A7 n7 c7] 24) = W7 := ⟨_, rfl⟩
  have hba := bnew (brefl w7) (.cells #[.int .i64 nx, .slice A7 n7 c7] 24)
  rw [hW7] at hba
  have HW7 := Lib.hid hW7
  have HB17 : Hid (Below W1.heap.size W1 W7) := HB16.out.trans ((hb7.trans (hba.mono hb7.size)).mono HB16.out.size)
  obtain ⟨r0, r1⟩ := read_cells (W := w) (brefl (w7.alloc (.cells #[.int .i64 nx, .slice A7 n7 c7] 24)))
  obtain ⟨f0, f1⟩ := HX.out W7 HB17.out
  rw [← hW7] at f0 f1
  have HBW7 := Lib.hid (HBV.out _ HB17.out)
  have HSM := Lib.hid (psame_self W7 W7.heap.size (Nat.le_refl _) A A7 n c n7 c7 l ((HS.out.keep HBW7.out).more HBW7.out.size) ((hs7.keep hba).more hba.size) hn (by omega) nx)
  clear h7 hs7 hb7 hba hW7 HRD
  go_wp2_with fail
  rw [HW7.out]
  refine HSM.out.mono ?_
  rintro e w8 ⟨rfl, hb8⟩
  have HB18 : Hid (Below W1.heap.size W1 w8) := HB17.out.trans (hb8.mono HB17.out.size)
  clear hb8 HSM
  go_wp2_with fail
  go_ret
  exact ⟨rfl, HBV.out _ HB18.out⟩
 ·have hpk : packP nx l = ([], 1) := if_neg hok
  rw [hpk] at HPK
  clear hpk hok
  go_wp2_with fail
  refine HPK.out.mono ?_
  rintro e w6 ⟨rfl, hb6⟩
  have HB16 : Hid (Below W1.heap.size W1 w6) := HB15.out.trans (hb6.mono HB15.out.size)
  clear hb6 HPK f0 f1
  go_wp2_with fail
  go_ret
  exact ⟨rfl, HBV.out _ HB16.out⟩
end Go.Proofs.YtkhemhiifhggmaaGreatDoor
namespace Go.Proofs.YtkhemhiifhggmaaGreatDoor
open Go.RowKit
abbrev tSeg : Ty := .cons (.int .i64) (.cons (.int .i64) (.cons (.int .i64) (.cons (.int .i64) .nil)))
abbrev tPoint : Ty := .cons (.int .i64) (.cons (.slice tSeg 32) .nil)
theorem ty_point : tyOf Tryz.prog 8 24 = some tPoint := by kernel_rfl
def segOf (d : tSeg.den) : Sg := ⟨(show Int from d.1), (show Int from d.2.1), (show Int from d.2.2.1), (show Int from d.2.2.2.1)⟩
theorem point_in {w : World} {x : tPoint.den} {cs : Array Value} (h : Reads w w.heap.size tPoint x cs.toList) :
  ∃ nx A n c l, cs = #[.int .i64 nx, .slice A n c] ∧ SegsIn w w.heap.size A n l ∧ n ≤ 4398046511104 := by
 obtain ⟨d1, d2, u⟩ := x
 obtain ⟨⟨A, n, c⟩, x2⟩ := d2
 obtain ⟨c1, c2, e, _, h1, h2⟩ := h
 obtain ⟨c3, c4, e2, _, h3, h4⟩ := h2
 obtain ⟨nx, _, hc1, _⟩ := h1
 have hc4 : c4 = [] := h4
 have hs := h3.sl (e := tSeg) (fun d => rfl)
 have hb : n * 32 ≤ reachBytes := h3.2.1.2.2.1
 refine ⟨nx, A, n, c, (List.range n).map fun i => segOf (x2 i), ?_, ⟨?_, ?_⟩, by unfold reachBytes at hb; omega⟩
 ·have hc3 : c3 = [.slice A n c] := h3.1
  have : cs.toList = [.int .i64 nx, .slice A n c] := by rw [e, e2, hc1, hc3, hc4]; rfl
  obtain ⟨l⟩ := cs
  simpa using this
 ·have e3 : ((List.range n).map fun i => segOf (x2 i)).flatMap Sg.cells = (List.range n).flatMap fun i => Ty.cells tSeg (x2 i) := by
   rw [List.flatMap_map]
   rfl
  rw [e3]
  exact hs
 ·rw [List.length_map, List.length_range]
end Go.Proofs.YtkhemhiifhggmaaGreatDoor
namespace Go.Proofs.YtkhemhiifhggmaaGreatDoor
open Go.RowKit Go.ChangeShapes Go.WideShapes Go.Deep
structure BulkLaw {H : Type} (bulk : DataW H → Nat) : Prop where
 len : ∀ es sp : List (DataW H), es.length ≤ bulk (.slice es sp)
 elem : ∀ (es sp : List (DataW H)) d, d ∈ es → bulk d ≤ bulk (.slice es sp)
 part : ∀ (ps : List (DataW H)) d, d ∈ ps → bulk d ≤ bulk (.agg ps)
 str : ∀ s : List UInt8, s.length ≤ bulk (.lit (.string s))
section
variable {H : Type} {enc : TypeId × Value → H} {P : Program} {w : World} {base : Nat} {spare : Nat → Bool} {held : Bool}
end
end Go.Proofs.YtkhemhiifhggmaaGreatDoor
namespace Go.Proofs.YtkhemhiifhggmaaGreatDoor
theorem bulk_one {H : Type} (d : DataW H) : 1 ≤ Rows.uptoBulk d := by
 cases d with
 | lit l => cases l <;> simp [Rows.uptoBulk]
 | nil => simp [Rows.uptoBulk]
 | ptr d => simp [Rows.uptoBulk]
 | slice elems spare => simp [Rows.uptoBulk]
 | agg parts => simp [Rows.uptoBulk]
 | iface t d => simp [Rows.uptoBulk]
 | map entries => simp [Rows.uptoBulk]
 | held h => simp [Rows.uptoBulk]
theorem bulk_mem {H : Type} {d : DataW H} {l : List (DataW H)} (h : d ∈ l) : Rows.uptoBulk d ≤ Rows.uptoBulkAll l := by
 induction l with
 | nil => cases h
 |
  cons x r ih =>
  simp only [Rows.uptoBulkAll]
  rcases List.mem_cons.1 h with e | e
  ·subst e; omega
  ·have := ih e; omega
theorem bulk_len {H : Type} (l : List (DataW H)) : l.length ≤ Rows.uptoBulkAll l := by
 induction l with
 | nil => simp [Rows.uptoBulkAll]
 | cons x r ih => have := bulk_one x; simp only [Rows.uptoBulkAll, List.length_cons]; omega
theorem bulk_law (H : Type) : BulkLaw (H := H) Rows.uptoBulk where
 len := fun es sp => by
  have := bulk_len es
  simp only [Rows.uptoBulk]
  omega
 elem := fun es sp d hd => by
  have := bulk_mem hd
  simp only [Rows.uptoBulk]
  omega
 part := fun ps d hd => by
  have := bulk_mem hd
  simp only [Rows.uptoBulk]
  omega
 str := fun s => by simp [Rows.uptoBulk]
theorem bulk_part {H : Type} {l : List (DataW H)} (hk : Rows.uptoSmall H l = true) {d : DataW H} (hd : d ∈ l) : Rows.uptoBulk d ≤ 1048576 := by
 have h1 : Rows.uptoBulkAll l ≤ 1048576 := of_decide_eq_true hk
 exact Nat.le_trans (bulk_mem hd) h1
end Go.Proofs.YtkhemhiifhggmaaGreatDoor
