/- Disk.change, at the two closures that are handed to it. -/
import Derived.Test.YtkhemhiifhggmaaGreatDoorHPr1
set_option maxRecDepth 100000
set_option maxHeartbeats 40000000
namespace Go.Proofs.YtkhemhiifhggmaaGreatDoor
open Go.RowKit Go.Maps
def DS.change {H : Type} (D : DS H) (s : ByteArray) (G : List UInt8 × Int → List UInt8 × Int) : DS H × Int :=
 if mayE [s] D.down ≠ 0 then (D, mayE [s] D.down) else if Maps.has D.names (keyS s) = false then (D, 11) else if D.step.2 ≠ 0 then D.step else
  ({ D.step.1 with files := D.files.put (.int .i64 (numOf D.names s)) (.agg [.lit (.string (G (fileOf D.files (numOf D.names s))).1), .lit (.int .i64 (G (fileOf D.files (numOf D.names s))).2)]), cap := D.cap + 1 }, 0)
theorem Fr.cell {H : Type} {w w' : World} {F : Foot} {D : DS H} {b o : Nat} {u : Value} (h : Fr F w w') (hd : DiskAt w F D) (hc : w.cell? ⟨b, o, none⟩ = some u) (hp : b ≠ F.p) : w'.cell? ⟨b, o, none⟩ = some u := by
 obtain ⟨_, ⟨n1, l1, f1⟩, ⟨n2, l2, f2⟩, ⟨n3, l3, f3⟩, _⟩ := hd
 have hl := (lt_of_cell hc).1
 have hb : ∃ C t f, w.heap[b]? = some (.cells C t f) := by
  unfold World.cell? at hc
  split at hc
  ·rename_i C t f hh
   exact ⟨C, t, f, hh⟩
  ·cases hc
 obtain ⟨C, t, f, hb⟩ := hb
 have := h.block b hl hp (Ne.symm (map_ne_cells f1 hb)) (Ne.symm (map_ne_cells f2 hb)) (Ne.symm (map_ne_cells f3 hb))
 exact (World.cell?_of_block (w := w) this).trans hc
theorem ba_append (a b : ByteArray) : (a ++ b).data.toList = a.data.toList ++ b.data.toList := by simp
theorem cell_grown {w' w'' : World} {p i c : Nat} {x : Value} (h : w'.cell? ⟨p, i, none⟩ = some x) (hg : w'.grownBy w'' (some c)) (hr : p ≠ c) : w''.cell? ⟨p, i, none⟩ = some x :=
 (World.cell?_of_block (w := w') (hg.block p (lt_of_cell h).1 (by simpa using hr))).trans h
theorem change_app {H : Type} (w : World) (F : Foot) (D : DS H) (s : ByteArray) (bx : Nat) (x : ByteArray) (hbx : w.cell? ⟨bx, 0, none⟩ = some (.string x)) (hsz : (fileOf D.files (numOf D.names s)).1.length + x.size ≤ 9223372036854775807) (hap : bx ≠ F.p) (h : DiskAt w F D) (hf : D.fits) (hs : s.size ≤ maxLen) :
  Calls Tryz.prog 62 #[.pointer (some ⟨F.p, 0, none⟩), .string s, .func (.func 63) #[] #[.pointer (some ⟨bx, 0, none⟩)]] w fun e w' => e = .returned (.int .i64 (D.change s (fun f => (f.1 ++ x.data.toList, f.2))).2) ∧ DiskAt w' F (D.change s (fun f => (f.1 ++ x.data.toList, f.2))).1 ∧ Fr F w w' := by
 obtain ⟨a0, a1, s0, s1, l0, l1, cp⟩ := hf
 have HM := Lib.hid (may_one w F D s h)
 have HAP := Lib.hid h.apart
 have HST := Lib.hid (fun (w' : World) (h' : DiskAt w' F D) => step_any w' F D h' ⟨a0, a1⟩ ⟨s0, by omega⟩)
 have HS := Lib.hid hs
 have HBX := Lib.hid hbx
 by_cases hm : mayE [s] D.down = 0
 ·rw [hm] at HM
  cases hh : Maps.has D.names (keyS s) with
  |
   false =>
   have hcr : Hid (D.change s (fun f => (f.1 ++ x.data.toList, f.2)) = (D, 11)) := by
    show _ = _
    unfold DS.change
    rw [if_neg (by rw [hm]; simp), if_pos hh]
   have HH := Lib.hid hh
   clear hm hh hbx
   go_enter Tryz.func62, Tryz.ntmps62
   go_wp2_with fail
   refine HM.out.mono ?_
   rintro e w1 ⟨rfl, hd1, hb1⟩
   obtain ⟨_, c1, _⟩ := hd1.cells
   obtain ⟨n1, ln1, f1⟩ := hd1.nam
   obtain ⟨hl, hkw, _⟩ := names_look f1 s hs
   rw [HH.out] at hl
   have HD1 := Lib.hid hd1
   have HB1 := Lib.hid hb1
   clear hd1 f1 hb1
   go_wp2_with fail
   go_ret
   exact ⟨by rw [hcr.out]; rfl, by rw [hcr.out]; exact HD1.out, Fr.of_below HB1.out⟩
  |
   true =>
   by_cases ht : D.step.2 = 0
   ·have hcr : Hid (D.change s (fun f => (f.1 ++ x.data.toList, f.2)) = ({ D.step.1 with files := D.files.put (.int .i64 (numOf D.names s)) (.agg [.lit (.string ((fun f => (f.1 ++ x.data.toList, f.2)) (fileOf D.files (numOf D.names s))).1), .lit (.int .i64 ((fun f => (f.1 ++ x.data.toList, f.2)) (fileOf D.files (numOf D.names s))).2)]), cap := D.cap + 1 }, 0)) := by
     show _ = _
     unfold DS.change
     rw [if_neg (by rw [hm]; simp), if_neg (by rw [hh]; simp), if_neg (by rw [ht]; simp)]
    have hd1 : D.step.1.files = D.files ∧ D.step.1.cap = D.cap := by
     unfold DS.step
     split <;> exact ⟨rfl, rfl⟩
    obtain ⟨D1, hD1⟩ : ∃ D1, D.step.1 = D1 := ⟨_, rfl⟩
    rw [hD1] at hd1 hcr
    rw [ht, hD1] at HST
    have HE := Lib.hid hd1
    have HH := Lib.hid hh
    clear hm hh ht hD1 hd1 hbx
    go_enter Tryz.func62, Tryz.ntmps62
    go_wp2_with fail
    refine HM.out.mono ?_
    rintro e w1 ⟨rfl, hd1, hb1⟩
    obtain ⟨_, c1, _⟩ := hd1.cells
    obtain ⟨n1, ln1, f1⟩ := hd1.nam
    obtain ⟨hl, hkw, _⟩ := names_look f1 s hs
    rw [HH.out] at hl
    have HD1 := Lib.hid hd1
    have HB1 := Lib.hid hb1
    clear hd1 f1 hb1
    generalize numOf D.names s = k at *
    go_wp2_with fail
    refine (HST.out _ HD1.out).mono ?_
    rintro e w2 ⟨rfl, hd2, hf2⟩
    clear c1 hl
    obtain ⟨c0, _⟩ := hd2.cells
    obtain ⟨n2, ln2, f2⟩ := hd2.fil
    have HF2 := Lib.hid f2
    have HD2 := Lib.hid hd2
    have HR2 := Lib.hid hf2
    have HL2 := Lib.hid ln2
    have HKW := Lib.hid hkw
    obtain ⟨r, hlk, hr, _, hm1, hw1, _⟩ := files_look (w := w2.drew) f2 k hkw false
    rw [hr rfl, HE.out.1] at hlk
    rw [HE.out.1] at hm1 hw1
    have hbs : bs (fileOf D.files k).1 = bs (fileOf D.files k).1 := rfl
    have HBS : Hid ((bs (fileOf D.files k).1).data.toList = (fileOf D.files k).1) := rfl
    have HSZ : Hid ((bs (fileOf D.files k).1).size = (fileOf D.files k).1.length) := by show _ = _; simp [bs, ByteArray.size]
    generalize hD0 : bs (fileOf D.files k).1 = d0 at *
    obtain ⟨m0, hm0⟩ : ∃ m0, (fileOf D.files k).2 = m0 := ⟨_, rfl⟩
    rw [hm0] at hlk hw1
    have HM0 := Lib.hid hm0
    have HM1 := Lib.hid hm1
    have HW1 := Lib.hid hw1
    clear hm0 hD0 hbs f2 hd2 hf2 ln2 hr hm1 hw1 hkw
    go_wp2_with fail
    have hbx2 : w2.drew.cell? ⟨bx, 0, none⟩ = some (.string x) := by
     have hl := (lt_of_cell HBX.out).1
     have h1 : w1.cell? ⟨bx, 0, none⟩ = some (.string x) := (HB1.out.cell (p := ⟨bx, 0, none⟩) hl).trans HBX.out
     exact HR2.out.cell HD1.out h1 hap
    have hcl := Lib.hid (append1_any d0 x m0 bx w2.drew hbx2 (by rw [HSZ.out]; exact hsz))
    clear hbx2
    have HNM : Hid ((d0 ++ x).size ≤ maxLen) := by
     show _ ≤ _
     rw [ByteArray.size_append, HSZ.out]; unfold maxLen; exact hsz
    have HNW : Hid ((Lit.int .i64 m0).wf = true) := by
     show _ = _
     exact HW1.out
    go_region_held3 (fun w' => w'.cell? ⟨F.p, 0, none⟩ = some (.map (some F.fb)))
     (first
      | exact cell_grown (by assumption) HG3.out HAP.out.1
      | exact (hbn.cell (p := ⟨F.p, 0, none⟩) (lt_of_cell c0).1).trans c0
      | exact c0
      | (simp; done))
     ((go_at_call 63; refine hcl.out.mono ?_; rintro e wn ⟨rfl, hbn⟩; obtain ⟨w3, run3, ho3, ht3⟩ := World.ownsMap.store (w := wn) (map_below (w := w2.drew) HF2.out hbn) lawI Tryz.underlying78 (by unfold maxLen; have := HE.out.2; have := HL2.out; omega) (key := .int .i64 k) (val := .agg #[.string (d0 ++ x), .int .i64 m0]) (keyOf_int_mk Tryz.underlying3 HKW.out) (fileElem_mk HNM.out HNW.out); have HG3 := Lib.hid ht3.grown; have HO3 := Lib.hid ho3; clear ho3 ht3))
    go_wp2_with fail
    go_ret
    have hd3 := (HD2.out.below (bcall (brefl w2).drew hbn)).files' (w' := w3) (Nat.succ_le_succ HL2.out) HO3.out HG3.out
    refine ⟨by rw [hcr.out]; rfl, ?_, (((Fr.of_below HB1.out).trans HR2.out).trans (Fr.of_below (bcall (brefl w2).drew hbn))).grown HG3.out (.inl rfl)⟩
    rw [hcr.out]
    simp only [HE.out.1, HE.out.2] at hd3
    rw [ba_append, HBS.out] at hd3
    rw [HM0.out]
    exact hd3
   ·have hcr : Hid (D.change s (fun f => (f.1 ++ x.data.toList, f.2)) = D.step) := by
     show _ = _
     unfold DS.change
     rw [if_neg (by rw [hm]; simp), if_neg (by rw [hh]; simp), if_pos ht]
    obtain ⟨t, htt⟩ : ∃ t, D.step.2 = t := ⟨_, rfl⟩
    rw [htt] at ht HST
    have q1 : (t == 0) = false := by simpa using ht
    have q2 : (t != 0) = true := by simpa using ht
    have HT := Lib.hid htt
    have HH := Lib.hid hh
    clear hm ht htt hh hbx
    go_enter Tryz.func62, Tryz.ntmps62
    go_wp2_with fail
    refine HM.out.mono ?_
    rintro e w1 ⟨rfl, hd1, hb1⟩
    obtain ⟨_, c1, _⟩ := hd1.cells
    obtain ⟨n1, ln1, f1⟩ := hd1.nam
    obtain ⟨hl, hkw, _⟩ := names_look f1 s hs
    rw [HH.out] at hl
    have HD1 := Lib.hid hd1
    have HB1 := Lib.hid hb1
    clear hd1 f1 hb1
    go_wp2_with fail
    refine (HST.out _ HD1.out).mono ?_
    rintro e w2 ⟨rfl, hd2, hf2⟩
    have HD2 := Lib.hid hd2
    clear hd2 c1 hl
    go_wp2_with fail
    go_ret
    exact ⟨by rw [hcr.out, HT.out]; rfl, by rw [hcr.out]; exact HD2.out, (Fr.of_below HB1.out).trans hf2⟩
 ·have hcr : Hid (D.change s (fun f => (f.1 ++ x.data.toList, f.2)) = (D, mayE [s] D.down)) := by
   show _ = _
   unfold DS.change
   rw [if_pos hm]
  obtain ⟨t, htt⟩ : ∃ t, mayE [s] D.down = t := ⟨_, rfl⟩
  rw [htt] at hm HM hcr
  have q1 : (t == 0) = false := by simpa using hm
  have q2 : (t != 0) = true := by simpa using hm
  clear hm htt hs hbx
  go_enter Tryz.func62, Tryz.ntmps62
  go_wp2_with fail
  refine HM.out.mono ?_
  rintro e w1 ⟨rfl, hd1, hb1⟩
  have HD1 := Lib.hid hd1
  clear hd1
  go_wp2_with fail
  go_ret
  exact ⟨by rw [hcr.out]; rfl, by rw [hcr.out]; exact HD1.out, Fr.of_below hb1⟩
theorem change_syn {H : Type} (w : World) (F : Foot) (D : DS H) (s : ByteArray) (h : DiskAt w F D) (hf : D.fits) (hs : s.size ≤ maxLen) :
  Calls Tryz.prog 62 #[.pointer (some ⟨F.p, 0, none⟩), .string s, .func (.func 64) #[] #[]] w fun e w' => e = .returned (.int .i64 (D.change s (fun f => (f.1, (f.1.length : Int)))).2) ∧ DiskAt w' F (D.change s (fun f => (f.1, (f.1.length : Int)))).1 ∧ Fr F w w' := by
 obtain ⟨a0, a1, s0, s1, l0, l1, cp⟩ := hf
 have HM := Lib.hid (may_one w F D s h)
 have HAP := Lib.hid h.apart
 have HST := Lib.hid (fun (w' : World) (h' : DiskAt w' F D) => step_any w' F D h' ⟨a0, a1⟩ ⟨s0, by omega⟩)
 have HS := Lib.hid hs
 by_cases hm : mayE [s] D.down = 0
 ·rw [hm] at HM
  cases hh : Maps.has D.names (keyS s) with
  |
   false =>
   have hcr : Hid (D.change s (fun f => (f.1, (f.1.length : Int))) = (D, 11)) := by
    show _ = _
    unfold DS.change
    rw [if_neg (by rw [hm]; simp), if_pos hh]
   have HH := Lib.hid hh
   clear hm hh
   go_enter Tryz.func62, Tryz.ntmps62
   go_wp2_with fail
   refine HM.out.mono ?_
   rintro e w1 ⟨rfl, hd1, hb1⟩
   obtain ⟨_, c1, _⟩ := hd1.cells
   obtain ⟨n1, ln1, f1⟩ := hd1.nam
   obtain ⟨hl, hkw, _⟩ := names_look f1 s hs
   rw [HH.out] at hl
   have HD1 := Lib.hid hd1
   have HB1 := Lib.hid hb1
   clear hd1 f1 hb1
   go_wp2_with fail
   go_ret
   exact ⟨by rw [hcr.out]; rfl, by rw [hcr.out]; exact HD1.out, Fr.of_below HB1.out⟩
  |
   true =>
   by_cases ht : D.step.2 = 0
   ·have hcr : Hid (D.change s (fun f => (f.1, (f.1.length : Int))) = ({ D.step.1 with files := D.files.put (.int .i64 (numOf D.names s)) (.agg [.lit (.string ((fun f => (f.1, (f.1.length : Int))) (fileOf D.files (numOf D.names s))).1), .lit (.int .i64 ((fun f => (f.1, (f.1.length : Int))) (fileOf D.files (numOf D.names s))).2)]), cap := D.cap + 1 }, 0)) := by
     show _ = _
     unfold DS.change
     rw [if_neg (by rw [hm]; simp), if_neg (by rw [hh]; simp), if_neg (by rw [ht]; simp)]
    have hd1 : D.step.1.files = D.files ∧ D.step.1.cap = D.cap := by
     unfold DS.step
     split <;> exact ⟨rfl, rfl⟩
    obtain ⟨D1, hD1⟩ : ∃ D1, D.step.1 = D1 := ⟨_, rfl⟩
    rw [hD1] at hd1 hcr
    rw [ht, hD1] at HST
    have HE := Lib.hid hd1
    have HH := Lib.hid hh
    clear hm hh ht hD1 hd1
    go_enter Tryz.func62, Tryz.ntmps62
    go_wp2_with fail
    refine HM.out.mono ?_
    rintro e w1 ⟨rfl, hd1, hb1⟩
    obtain ⟨_, c1, _⟩ := hd1.cells
    obtain ⟨n1, ln1, f1⟩ := hd1.nam
    obtain ⟨hl, hkw, _⟩ := names_look f1 s hs
    rw [HH.out] at hl
    have HD1 := Lib.hid hd1
    have HB1 := Lib.hid hb1
    clear hd1 f1 hb1
    generalize numOf D.names s = k at *
    go_wp2_with fail
    refine (HST.out _ HD1.out).mono ?_
    rintro e w2 ⟨rfl, hd2, hf2⟩
    clear c1 hl
    obtain ⟨c0, _⟩ := hd2.cells
    obtain ⟨n2, ln2, f2⟩ := hd2.fil
    have HF2 := Lib.hid f2
    have HD2 := Lib.hid hd2
    have HR2 := Lib.hid hf2
    have HL2 := Lib.hid ln2
    have HKW := Lib.hid hkw
    obtain ⟨r, hlk, hr, _, hm1, hw1, _⟩ := files_look (w := w2.drew) f2 k hkw false
    rw [hr rfl, HE.out.1] at hlk
    rw [HE.out.1] at hm1 hw1
    have hbs : bs (fileOf D.files k).1 = bs (fileOf D.files k).1 := rfl
    have HBS : Hid ((bs (fileOf D.files k).1).data.toList = (fileOf D.files k).1) := rfl
    have HSZ : Hid ((bs (fileOf D.files k).1).size = (fileOf D.files k).1.length) := by show _ = _; simp [bs, ByteArray.size]
    generalize hD0 : bs (fileOf D.files k).1 = d0 at *
    obtain ⟨m0, hm0⟩ : ∃ m0, (fileOf D.files k).2 = m0 := ⟨_, rfl⟩
    rw [hm0] at hlk hw1
    have HM0 := Lib.hid hm0
    have HM1 := Lib.hid hm1
    have HW1 := Lib.hid hw1
    clear hm0 hD0 hbs f2 hd2 hf2 ln2 hr hm1 hw1 hkw
    go_wp2_with fail
    have hcl := Lib.hid (sync1_any d0 m0 w2.drew)
    have HNM : Hid (d0.size ≤ maxLen) := by
     show _ ≤ _
     exact HM1.out
    have HNW : Hid ((Lit.int .i64 (d0.size : Int)).wf = true) := by
     show _ = _
     exact WalkArith.wf_i64 (by have := HM1.out; unfold maxLen at this; omega)
    go_region_held3 (fun w' => w'.cell? ⟨F.p, 0, none⟩ = some (.map (some F.fb)))
     (first
      | exact cell_grown (by assumption) HG3.out HAP.out.1
      | exact (hbn.cell (p := ⟨F.p, 0, none⟩) (lt_of_cell c0).1).trans c0
      | exact c0
      | (simp; done))
     ((go_at_call 64; refine hcl.out.mono ?_; rintro e wn ⟨rfl, hbn⟩; obtain ⟨w3, run3, ho3, ht3⟩ := World.ownsMap.store (w := wn) (map_below (w := w2.drew) HF2.out hbn) lawI Tryz.underlying78 (by unfold maxLen; have := HE.out.2; have := HL2.out; omega) (key := .int .i64 k) (val := .agg #[.string d0, .int .i64 (d0.size : Int)]) (keyOf_int_mk Tryz.underlying3 HKW.out) (fileElem_mk HNM.out HNW.out); have HG3 := Lib.hid ht3.grown; have HO3 := Lib.hid ho3; clear ho3 ht3))
    go_wp2_with fail
    go_ret
    have hd3 := (HD2.out.below (bcall (brefl w2).drew hbn)).files' (w' := w3) (Nat.succ_le_succ HL2.out) HO3.out HG3.out
    refine ⟨by rw [hcr.out]; rfl, ?_, (((Fr.of_below HB1.out).trans HR2.out).trans (Fr.of_below (bcall (brefl w2).drew hbn))).grown HG3.out (.inl rfl)⟩
    rw [hcr.out]
    simp only [HE.out.1, HE.out.2] at hd3
    rw [HBS.out, HSZ.out] at hd3
    exact hd3
   ·have hcr : Hid (D.change s (fun f => (f.1, (f.1.length : Int))) = D.step) := by
     show _ = _
     unfold DS.change
     rw [if_neg (by rw [hm]; simp), if_neg (by rw [hh]; simp), if_pos ht]
    obtain ⟨t, htt⟩ : ∃ t, D.step.2 = t := ⟨_, rfl⟩
    rw [htt] at ht HST
    have q1 : (t == 0) = false := by simpa using ht
    have q2 : (t != 0) = true := by simpa using ht
    have HT := Lib.hid htt
    have HH := Lib.hid hh
    clear hm ht htt hh
    go_enter Tryz.func62, Tryz.ntmps62
    go_wp2_with fail
    refine HM.out.mono ?_
    rintro e w1 ⟨rfl, hd1, hb1⟩
    obtain ⟨_, c1, _⟩ := hd1.cells
    obtain ⟨n1, ln1, f1⟩ := hd1.nam
    obtain ⟨hl, hkw, _⟩ := names_look f1 s hs
    rw [HH.out] at hl
    have HD1 := Lib.hid hd1
    have HB1 := Lib.hid hb1
    clear hd1 f1 hb1
    go_wp2_with fail
    refine (HST.out _ HD1.out).mono ?_
    rintro e w2 ⟨rfl, hd2, hf2⟩
    have HD2 := Lib.hid hd2
    clear hd2 c1 hl
    go_wp2_with fail
    go_ret
    exact ⟨by rw [hcr.out, HT.out]; rfl, by rw [hcr.out]; exact HD2.out, (Fr.of_below HB1.out).trans hf2⟩
 ·have hcr : Hid (D.change s (fun f => (f.1, (f.1.length : Int))) = (D, mayE [s] D.down)) := by
   show _ = _
   unfold DS.change
   rw [if_pos hm]
  obtain ⟨t, htt⟩ : ∃ t, mayE [s] D.down = t := ⟨_, rfl⟩
  rw [htt] at hm HM hcr
  have q1 : (t == 0) = false := by simpa using hm
  have q2 : (t != 0) = true := by simpa using hm
  clear hm htt hs
  go_enter Tryz.func62, Tryz.ntmps62
  go_wp2_with fail
  refine HM.out.mono ?_
  rintro e w1 ⟨rfl, hd1, hb1⟩
  have HD1 := Lib.hid hd1
  clear hd1
  go_wp2_with fail
  go_ret
  exact ⟨by rw [hcr.out]; rfl, by rw [hcr.out]; exact HD1.out, Fr.of_below hb1⟩
end Go.Proofs.YtkhemhiifhggmaaGreatDoor
namespace Go.Proofs.YtkhemhiifhggmaaGreatDoor
open Go.RowKit Go.Maps
def DS.append {H : Type} (D : DS H) (s x : ByteArray) : DS H × Int := D.change s (fun f => (f.1 ++ x.data.toList, f.2))
def DS.sync {H : Type} (D : DS H) (s : ByteArray) : DS H × Int := D.change s (fun f => (f.1, (f.1.length : Int)))
theorem append_any {H : Type} (w : World) (F : Foot) (D : DS H) (s x : ByteArray) (h : DiskAt w F D) (hf : D.fits) (hs : s.size ≤ maxLen) (hsz : (fileOf D.files (numOf D.names s)).1.length + x.size ≤ 9223372036854775807) :
  Calls Tryz.prog 26 #[.pointer (some ⟨F.p, 0, none⟩), .string s, .string x] w fun e w' => e = .returned (.int .i64 (D.append s x).2) ∧ DiskAt w' F (D.append s x).1 ∧ Fr F w w' := by
 have hp : F.p < w.heap.size := (Array.getElem?_eq_some_iff.1 h.blk).1
 have HC := Lib.hid (change_app (w.alloc (.cells #[.string x] 9)) F D s w.heap.size x (by have := news_at w #[.string x] 9 0 _ rfl; rwa [Addr.add_lit, Nat.zero_add] at this) hsz (by omega) (h.below (bnew (brefl w) _)) hf hs)
 clear h hf hs hsz hp
 go_enter Tryz.func26, Tryz.ntmps26
 go_wp2_with fail
 refine HC.out.mono ?_
 rintro e w1 ⟨rfl, hd1, hf1⟩
 have HD1 := Lib.hid hd1
 clear hd1
 go_wp2_with fail
 go_ret
 exact ⟨rfl, HD1.out, (Fr.of_below (bnew (brefl w) _)).trans hf1⟩
theorem sync_any {H : Type} (w : World) (F : Foot) (D : DS H) (s : ByteArray) (h : DiskAt w F D) (hf : D.fits) (hs : s.size ≤ maxLen) :
  Calls Tryz.prog 27 #[.pointer (some ⟨F.p, 0, none⟩), .string s] w fun e w' => e = .returned (.int .i64 (D.sync s).2) ∧ DiskAt w' F (D.sync s).1 ∧ Fr F w w' := by
 have HC := Lib.hid (change_syn w F D s h hf hs)
 clear h hf hs
 go_enter Tryz.func27, Tryz.ntmps27
 go_wp2_with fail
 refine HC.out.mono ?_
 rintro e w1 ⟨rfl, hd1, hf1⟩
 have HD1 := Lib.hid hd1
 clear hd1
 go_wp2_with fail
 go_ret
 exact ⟨rfl, HD1.out, hf1⟩
end Go.Proofs.YtkhemhiifhggmaaGreatDoor
namespace Go.Proofs.YtkhemhiifhggmaaGreatDoor
open Go.RowKit Go.Maps
theorem file_field (X : ByteArray) (m : Int) (w : World) : (Instr.field 98 (.agg #[.string X, .int .i64 m]) 0).run Tryz.prog w = .ok (.string X) w := by kernel_rfl
def readS {H : Type} (D : DS H) (s : ByteArray) : ByteArray := if mayE [s] D.down ≠ 0 then ⟨#[]⟩ else if Maps.has D.names (keyS s) = false then ⟨#[]⟩ else bs (fileOf D.files (numOf D.names s)).1
def readE {H : Type} (D : DS H) (s : ByteArray) : Int := if mayE [s] D.down ≠ 0 then mayE [s] D.down else if Maps.has D.names (keyS s) = false then 11 else 0
theorem read_any {H : Type} (w : World) (F : Foot) (D : DS H) (s : ByteArray) (h : DiskAt w F D) (hs : s.size ≤ maxLen) :
  Calls Tryz.prog 31 #[.pointer (some ⟨F.p, 0, none⟩), .string s] w fun e w' => e = .returned (.tuple #[.string (readS D s), .int .i64 (readE D s)]) ∧ Below w.heap.size w w' := by
 have HM := Lib.hid (may_one w F D s h)
 have HS := Lib.hid hs
 by_cases hm : mayE [s] D.down = 0
 ·rw [hm] at HM
  cases hh : Maps.has D.names (keyS s) with
  |
   false =>
   have hcr : Hid (readS D s = ⟨#[]⟩ ∧ readE D s = 11) := by
    unfold readS readE
    rw [if_neg (by rw [hm]; simp), if_pos hh, if_neg (by rw [hm]; simp), if_pos hh]
    exact ⟨rfl, rfl⟩
   have HH := Lib.hid hh
   clear hm hh
   go_enter Tryz.func31, Tryz.ntmps31
   go_wp2_with fail
   refine HM.out.mono ?_
   rintro e w1 ⟨rfl, hd1, hb1⟩
   obtain ⟨_, c1, _⟩ := hd1.cells
   obtain ⟨n1, ln1, f1⟩ := hd1.nam
   have hl := (names_look f1 s hs).1
   rw [HH.out] at hl
   clear hd1 f1
   go_wp2_with fail
   go_ret2
   exact ⟨by rw [hcr.out.1, hcr.out.2]; rfl, hb1⟩
  |
   true =>
   have hcr : Hid (readS D s = bs (fileOf D.files (numOf D.names s)).1 ∧ readE D s = 0) := by
    unfold readS readE
    rw [if_neg (by rw [hm]; simp), if_neg (by rw [hh]; simp), if_neg (by rw [hm]; simp), if_neg (by rw [hh]; simp)]
    exact ⟨rfl, rfl⟩
   have HH := Lib.hid hh
   clear hm hh
   go_enter Tryz.func31, Tryz.ntmps31
   go_wp2_with fail
   refine HM.out.mono ?_
   rintro e w1 ⟨rfl, hd1, hb1⟩
   obtain ⟨c0, c1, _⟩ := hd1.cells
   obtain ⟨n1, ln1, f1⟩ := hd1.nam
   obtain ⟨n2, ln2, f2⟩ := hd1.fil
   obtain ⟨hl, hkw, _⟩ := names_look f1 s hs
   rw [HH.out] at hl
   obtain ⟨r, hlk, hr, _⟩ := files_look (w := w1) f2 _ hkw false
   rw [hr rfl] at hlk
   have hfld := file_field (bs (fileOf D.files (numOf D.names s)).1) (fileOf D.files (numOf D.names s)).2 w1
   clear hd1 f1 f2 hr
   go_wp2_with fail
   go_ret2
   exact ⟨by rw [hcr.out.1, hcr.out.2]; rfl, hb1⟩
 ·have hcr : Hid (readS D s = ⟨#[]⟩ ∧ readE D s = mayE [s] D.down) := by
   unfold readS readE
   rw [if_pos hm, if_pos hm]
   exact ⟨rfl, rfl⟩
  obtain ⟨t, htt⟩ : ∃ t, mayE [s] D.down = t := ⟨_, rfl⟩
  rw [htt] at hm HM hcr
  have q1 : (t == 0) = false := by simpa using hm
  have q2 : (t != 0) = true := by simpa using hm
  clear hm htt hs
  go_enter Tryz.func31, Tryz.ntmps31
  go_wp2_with fail
  refine HM.out.mono ?_
  rintro e w1 ⟨rfl, hd1, hb1⟩
  clear hd1
  go_wp2_with fail
  go_ret2
  exact ⟨by rw [hcr.out.1, hcr.out.2]; rfl, hb1⟩
theorem down_any {H : Type} (w : World) (F : Foot) (D : DS H) (h : DiskAt w F D) : Calls Tryz.prog 52 #[.pointer (some ⟨F.p, 0, none⟩)] w fun e w' => e = .returned (.bool D.down) ∧ Below w.heap.size w w' := by
 obtain ⟨_, _, _, _, _, _, _, c7⟩ := h.cells
 clear h
 go_enter Tryz.func52, Tryz.ntmps52
 go_wp2_with fail
 go_ret
 exact ⟨rfl, brefl w⟩
end Go.Proofs.YtkhemhiifhggmaaGreatDoor
namespace Go.Proofs.YtkhemhiifhggmaaGreatDoor
open Go.RowKit Go.Maps
theorem may_two {H : Type} (w : World) (F : Foot) (D : DS H) (s x : ByteArray) (h : DiskAt w F D) : Calls Tryz.prog 60 #[.pointer (some ⟨F.p, 0, none⟩), .slice (some ⟨w.heap.size, 0, none⟩) 2 2] (w.alloc (.cells #[.string s, .string x] 9)) fun e w' => e = .returned (.int .i64 (mayE [s, x] D.down)) ∧ DiskAt w' F D ∧ Below w.heap.size w w' := by
 have hs : Sl (w.alloc (.cells #[.string s, .string x] 9)) (w.heap.size + 1) 1 (some ⟨w.heap.size, 0, none⟩) 2 (([s, x] : List ByteArray).map .string) :=
  ⟨rfl, fun _ => ⟨w.heap.size, 0, rfl, by omega, fun j u hu => by
   have h := news_at w #[.string s, .string x] 9 j u hu
   rwa [Addr.add_lit] at h⟩⟩
 refine (may_any (w.alloc (.cells #[.string s, .string x] 9)) F D _ 2 2 (w.heap.size + 1) [s, x] (h.below (bnew (brefl w) _)) hs (by simp) (by omega)).mono ?_
 rintro e w' ⟨rfl, hb⟩
 exact ⟨rfl, h.below (bcall (bnew (brefl w) _) hb), bcall (bnew (brefl w) _) hb⟩
def DS.rename {H : Type} (D : DS H) (s x : ByteArray) : DS H × Int :=
 if mayE [s, x] D.down ≠ 0 then (D, mayE [s, x] D.down) else if Maps.has D.names (keyS s) = false then (D, 11) else if D.step.2 ≠ 0 then D.step else
  ({ D.step.1 with names := (D.names.del (keyS s)).put (keyS x) (.lit (.int .i64 (numOf D.names s))), cap := D.cap + 2 }, 0)
theorem rename_any {H : Type} (w : World) (F : Foot) (D : DS H) (s x : ByteArray) (h : DiskAt w F D) (hf : D.fits) (hs : s.size ≤ maxLen) (hx : x.size ≤ maxLen) :
  Calls Tryz.prog 51 #[.pointer (some ⟨F.p, 0, none⟩), .string s, .string x] w fun e w' => e = .returned (.int .i64 (D.rename s x).2) ∧ DiskAt w' F (D.rename s x).1 ∧ Fr F w w' := by
 obtain ⟨a0, a1, s0, s1, l0, l1, cp⟩ := hf
 have HM := Lib.hid (may_two w F D s x h)
 have HAP := Lib.hid h.apart
 have HST := Lib.hid (fun (w' : World) (h' : DiskAt w' F D) => step_any w' F D h' ⟨a0, a1⟩ ⟨s0, by omega⟩)
 have HS := Lib.hid hs
 have HX := Lib.hid hx
 by_cases hm : mayE [s, x] D.down = 0
 ·rw [hm] at HM
  cases hh : Maps.has D.names (keyS s) with
  |
   false =>
   have hcr : Hid (D.rename s x = (D, 11)) := by
    show _ = _
    unfold DS.rename
    rw [if_neg (by rw [hm]; simp), if_pos hh]
   have HH := Lib.hid hh
   clear hm hh
   go_enter Tryz.func51, Tryz.ntmps51
   go_wp2_with fail
   refine HM.out.mono ?_
   rintro e w1 ⟨rfl, hd1, hb1⟩
   obtain ⟨_, c1, _⟩ := hd1.cells
   obtain ⟨n1, ln1, f1⟩ := hd1.nam
   have hl := (names_look f1 s hs).1
   rw [HH.out] at hl
   have HD1 := Lib.hid hd1
   clear hd1 f1
   go_wp2_with fail
   go_ret
   exact ⟨by rw [hcr.out]; rfl, by rw [hcr.out]; exact HD1.out, Fr.of_below hb1⟩
  |
   true =>
   by_cases ht : D.step.2 = 0
   ·have hcr : Hid (D.rename s x = ({ D.step.1 with names := (D.names.del (keyS s)).put (keyS x) (.lit (.int .i64 (numOf D.names s))), cap := D.cap + 2 }, 0)) := by
     show _ = _
     unfold DS.rename
     rw [if_neg (by rw [hm]; simp), if_neg (by rw [hh]; simp), if_neg (by rw [ht]; simp)]
    have hd1 : D.step.1.names = D.names ∧ D.step.1.cap = D.cap := by
     unfold DS.step
     split <;> exact ⟨rfl, rfl⟩
    obtain ⟨D1, hD1⟩ : ∃ D1, D.step.1 = D1 := ⟨_, rfl⟩
    rw [hD1] at hd1 hcr
    rw [ht, hD1] at HST
    have HE := Lib.hid hd1
    have HH := Lib.hid hh
    clear hm hh ht hD1 hd1
    go_enter Tryz.func51, Tryz.ntmps51
    go_wp2_with fail
    refine HM.out.mono ?_
    rintro e w1 ⟨rfl, hd1, hb1⟩
    obtain ⟨_, c1, _⟩ := hd1.cells
    obtain ⟨n1, ln1, f1⟩ := hd1.nam
    obtain ⟨hl, hkw, _⟩ := names_look f1 s hs
    have HKW := Lib.hid hkw
    rw [HH.out] at hl
    have HD1 := Lib.hid hd1
    have HB1 := Lib.hid hb1
    clear hd1 f1 hb1 hkw
    generalize numOf D.names s = k at *
    go_wp2_with fail
    refine (HST.out _ HD1.out).mono ?_
    rintro e w2 ⟨rfl, hd2, hf2⟩
    clear c1 hl
    obtain ⟨_, c1, _⟩ := hd2.cells
    obtain ⟨n2, ln2, f2⟩ := hd2.nam
    have HF2 := Lib.hid f2
    have HD2 := Lib.hid hd2
    have HR2 := Lib.hid hf2
    have HL2 := Lib.hid ln2
    clear f2 hd2 hf2 ln2
    go_wp2_with (first
     | (at_delete; refine wpList_delete_own _ rfl _ _ _ _ rfl _ lawS Tryz.underlying79 (plainElem Tryz.prog 3) F.nb n2 D1.names rfl HF2.out (.string s) (keyS s) rfl (Go.WideMaps.keyOf_string_mk Tryz.underlying9 HS.out) ?_; intro w3 ho3 hg3; have c1w := cell_grown c1 hg3.grown HAP.out.2.1; have HO3 := Lib.hid ho3; have HG3 := Lib.hid hg3.grown; clear ho3 hg3)
     | (at_mapUpdate; refine wpList_mapUpdate_own _ rfl _ _ _ _ rfl _ _ lawS Tryz.underlying79 (plainElem Tryz.prog 3) F.nb n2 _ rfl HO3.out (by unfold maxLen; have := HE.out.2; have := HL2.out; omega) (.string x) (.int .i64 k) (keyS x) rfl rfl (Go.WideMaps.keyOf_string_mk Tryz.underlying9 HX.out) _ _ (plainElem_int Tryz.underlying3 HKW.out) ?_; intro w4 ho4 hg4))
    have hd3 := HD2.out.names' (w' := w3) (Nat.le_succ_of_le HL2.out) HO3.out HG3.out
    have HR3 := Lib.hid (((Fr.of_below HB1.out).trans HR2.out).grown HG3.out (.inr (.inl rfl)))
    have HD3 := Lib.hid hd3
    clear hd3
    go_ret
    have hd4 := HD3.out.names' (w' := w4) (Nat.succ_le_succ (Nat.le_succ_of_le HL2.out)) ho4 hg4
    refine ⟨by rw [hcr.out]; rfl, ?_, HR3.out.grown hg4 (.inr (.inl rfl))⟩
    rw [hcr.out]
    simp only [HE.out.1, HE.out.2] at hd4
    exact hd4
   ·have hcr : Hid (D.rename s x = D.step) := by
     show _ = _
     unfold DS.rename
     rw [if_neg (by rw [hm]; simp), if_neg (by rw [hh]; simp), if_pos ht]
    obtain ⟨t, htt⟩ : ∃ t, D.step.2 = t := ⟨_, rfl⟩
    rw [htt] at ht HST
    have q1 : (t == 0) = false := by simpa using ht
    have q2 : (t != 0) = true := by simpa using ht
    have HT := Lib.hid htt
    have HH := Lib.hid hh
    clear hm ht htt hh
    go_enter Tryz.func51, Tryz.ntmps51
    go_wp2_with fail
    refine HM.out.mono ?_
    rintro e w1 ⟨rfl, hd1, hb1⟩
    obtain ⟨_, c1, _⟩ := hd1.cells
    obtain ⟨n1, ln1, f1⟩ := hd1.nam
    have hl := (names_look f1 s hs).1
    rw [HH.out] at hl
    have HD1 := Lib.hid hd1
    have HB1 := Lib.hid hb1
    clear hd1 f1 hb1
    go_wp2_with fail
    refine (HST.out _ HD1.out).mono ?_
    rintro e w2 ⟨rfl, hd2, hf2⟩
    have HD2 := Lib.hid hd2
    clear hd2 c1 hl
    go_wp2_with fail
    go_ret
    exact ⟨by rw [hcr.out, HT.out]; rfl, by rw [hcr.out]; exact HD2.out, (Fr.of_below HB1.out).trans hf2⟩
 ·have hcr : Hid (D.rename s x = (D, mayE [s, x] D.down)) := by
   show _ = _
   unfold DS.rename
   rw [if_pos hm]
  obtain ⟨t, htt⟩ : ∃ t, mayE [s, x] D.down = t := ⟨_, rfl⟩
  rw [htt] at hm HM hcr
  have q1 : (t == 0) = false := by simpa using hm
  have q2 : (t != 0) = true := by simpa using hm
  clear hm htt hs
  go_enter Tryz.func51, Tryz.ntmps51
  go_wp2_with fail
  refine HM.out.mono ?_
  rintro e w1 ⟨rfl, hd1, hb1⟩
  have HD1 := Lib.hid hd1
  clear hd1
  go_wp2_with fail
  go_ret
  exact ⟨by rw [hcr.out]; rfl, by rw [hcr.out]; exact HD1.out, Fr.of_below hb1⟩
end Go.Proofs.YtkhemhiifhggmaaGreatDoor
namespace Go.Proofs.YtkhemhiifhggmaaGreatDoor
open Go.RowKit Go.Maps
def DS.new (H : Type) : DS H := ⟨.map [], .map [], .map [], 0, 0, -1, 0, false, 0⟩
theorem map_alloc {H : Type} {w : World} {b k n : Nat} {R : Value → Option (DataW H × List MemPlace)} {D : DataW H} (h : w.ownsMap Tryz.prog k R b n D) (o : Obj) : (w.alloc o).ownsMap Tryz.prog k R b n D := map_below h (bnew (brefl w) o)
theorem new_any (H : Type) (w : World) : Calls Tryz.prog 20 #[] w fun e w' => e = .returned (.pointer (some ⟨w.heap.size + 3, 0, none⟩)) ∧ DiskAt w' ⟨w.heap.size + 3, w.heap.size, w.heap.size + 1, w.heap.size + 2⟩ (DS.new H) ∧ Below w.heap.size w w' := by
 have hmm := @run_makeMap Tryz.prog
 go_enter Tryz.func20, Tryz.ntmps20
 go_wp2_with fail
 go_ret
 refine ⟨rfl, ⟨?_, ⟨0, Nat.le_refl _, ?_⟩, ⟨0, Nat.le_refl _, ?_⟩, ⟨0, Nat.le_refl _, ?_⟩, by simp, by simp, by simp⟩, bnew (bnew (bnew (bnew (brefl w) _) _) _) _⟩
 ·have := heap_alloc_new (((w.alloc (.map #[] 0)).alloc (.map #[] 0)).alloc (.map #[] 0)) (.cells (DS.cells ⟨w.heap.size + 3, w.heap.size, w.heap.size + 1, w.heap.size + 2⟩ (DS.new H)) 81)
  simp only [World.size_alloc] at this
  exact this
 ·exact map_alloc (map_alloc (map_alloc (World.ownsMap_made w Tryz.prog 3 fileElem) _) _) _
 ·have := map_alloc (map_alloc (World.ownsMap_made (H := H) (w.alloc (.map #[] 0)) Tryz.prog 9 (plainElem Tryz.prog 3)) (.map #[] 0)) (.cells (DS.cells ⟨w.heap.size + 3, w.heap.size, w.heap.size + 1, w.heap.size + 2⟩ (DS.new H)) 81)
  simp only [World.size_alloc] at this
  exact this
 ·have := map_alloc (World.ownsMap_made (H := H) ((w.alloc (.map #[] 0)).alloc (.map #[] 0)) Tryz.prog 9 (plainElem Tryz.prog 3)) (.cells (DS.cells ⟨w.heap.size + 3, w.heap.size, w.heap.size + 1, w.heap.size + 2⟩ (DS.new H)) 81)
  simp only [World.size_alloc] at this
  exact this
end Go.Proofs.YtkhemhiifhggmaaGreatDoor
