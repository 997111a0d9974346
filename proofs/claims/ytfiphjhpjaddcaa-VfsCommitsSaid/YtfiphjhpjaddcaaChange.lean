/- Disk.change, at the two closures that are handed to it. -/
import Derived.Test.YtfiphjhpjaddcaaFile
namespace Go.Proofs.Ytfiphjhpjaddcaa
open Go.RowKit Go.Maps

/-- What change makes of a disk: G says what becomes of a file. -/
def DS.change {H : Type} (D : DS H) (s : ByteArray) (G : List UInt8 × Int → List UInt8 × Int) : DS H × Int :=
  if mayE [s] D.down ≠ 0 then (D, mayE [s] D.down) else if Maps.has D.names (keyS s) = false then (D, 11) else if D.step.2 ≠ 0 then D.step else
    ({ D.step.1 with files := D.files.put (.int .i64 (numOf D.names s)) (.agg [.lit (.string (G (fileOf D.files (numOf D.names s))).1), .lit (.int .i64 (G (fileOf D.files (numOf D.names s))).2)]), cap := D.cap + 1 }, 0)
theorem Fr.cell {H : Type} {w w' : World} {F : Foot} {D : DS H} {b o : Nat} {u : Value} (h : Fr F w w') (hd : DiskAt w F D) (hc : w.cell? ⟨b, o, none⟩ = some u) (hp : b ≠ F.p) : w'.cell? ⟨b, o, none⟩ = some u := by
  obtain ⟨_, ⟨n1, l1, f1⟩, ⟨n2, l2, f2⟩, ⟨n3, l3, f3⟩, _⟩ := hd
  have hl := (lt_of_cell hc).1
  have hb : ∃ C t f, w.heap[b]? = some (.cells C t f) := by
    unfold World.cell? at hc
    split at hc
    · rename_i C t f hh
      exact ⟨C, t, f, hh⟩
    · cases hc
  obtain ⟨C, t, f, hb⟩ := hb
  have := h.block b hl hp (Ne.symm (map_ne_cells f1 hb)) (Ne.symm (map_ne_cells f2 hb)) (Ne.symm (map_ne_cells f3 hb))
  exact (World.cell?_of_block (w := w) this).trans hc
theorem ba_append (a b : ByteArray) : (a ++ b).data.toList = a.data.toList ++ b.data.toList := by simp
theorem cell_grown {w' w'' : World} {p i c : Nat} {x : Value} (h : w'.cell? ⟨p, i, none⟩ = some x) (hg : w'.grownBy w'' (some c)) (hr : p ≠ c) : w''.cell? ⟨p, i, none⟩ = some x :=
  (World.cell?_of_block (w := w') (hg.block p (lt_of_cell h).1 (by simpa using hr))).trans h

set_option maxRecDepth 100000 in
set_option maxHeartbeats 4000000 in
theorem change_app {H : Type} (w : World) (F : Foot) (D : DS H) (s : ByteArray) (bx : Nat) (x : ByteArray) (hbx : w.cell? ⟨bx, 0, none⟩ = some (.string x)) (hsz : (fileOf D.files (numOf D.names s)).1.length + x.size ≤ 9223372036854775807) (hap : bx ≠ F.p) (h : DiskAt w F D) (hf : D.fits) (hs : s.size ≤ maxLen) :
    Calls Try.prog 29 #[.pointer (some ⟨F.p, 0, none⟩), .string s, .func (.func 30) #[] #[.pointer (some ⟨bx, 0, none⟩)]] w fun e w' => e = .returned (.int .i64 (D.change s (fun f => (f.1 ++ x.data.toList, f.2))).2) ∧ DiskAt w' F (D.change s (fun f => (f.1 ++ x.data.toList, f.2))).1 ∧ Fr F w w' := by
  obtain ⟨a0, a1, s0, s1, l0, l1, cp⟩ := hf
  have HM := Lib.hid (may_one w F D s h)
  have HAP := Lib.hid h.apart
  have HST := Lib.hid (fun (w' : World) (h' : DiskAt w' F D) => step_any w' F D h' ⟨a0, a1⟩ ⟨s0, by omega⟩)
  have HS := Lib.hid hs
  have HBX := Lib.hid hbx
  by_cases hm : mayE [s] D.down = 0
  · rw [hm] at HM
    cases hh : Maps.has D.names (keyS s) with
    | false =>
      have hcr : Hid (D.change s (fun f => (f.1 ++ x.data.toList, f.2)) = (D, 11)) := by
        show _ = _
        unfold DS.change
        rw [if_neg (by rw [hm]; simp), if_pos hh]
      have HH := Lib.hid hh
      clear hm hh hbx
      go_enter Try.func29, Try.ntmps29
      go_wp2_with fail
      refine HM.out.mono ?_
      rintro e w1 ⟨rfl, hd1, hb1⟩
      obtain ⟨_, c1, _⟩ := hd1.cells
      obtain ⟨n1, ln1, f1⟩ := hd1.nam
      obtain ⟨hl, hkw, _⟩ := names_look f1 s hs
      rw [HH.out] at hl
      have HD1 := Lib.hid hd1
      have HB1 := Lib.hid hb1
      clear hd1 f1 hb1
      go_wp2_with fail
      go_ret
      exact ⟨by rw [hcr.out]; rfl, by rw [hcr.out]; exact HD1.out, Fr.of_below HB1.out⟩
    | true =>
      by_cases ht : D.step.2 = 0
      · have hcr : Hid (D.change s (fun f => (f.1 ++ x.data.toList, f.2)) = ({ D.step.1 with files := D.files.put (.int .i64 (numOf D.names s)) (.agg [.lit (.string ((fun f => (f.1 ++ x.data.toList, f.2)) (fileOf D.files (numOf D.names s))).1), .lit (.int .i64 ((fun f => (f.1 ++ x.data.toList, f.2)) (fileOf D.files (numOf D.names s))).2)]), cap := D.cap + 1 }, 0)) := by
          show _ = _
          unfold DS.change
          rw [if_neg (by rw [hm]; simp), if_neg (by rw [hh]; simp), if_neg (by rw [ht]; simp)]
        have hd1 : D.step.1.files = D.files ∧ D.step.1.cap = D.cap := by
          unfold DS.step
          split <;> exact ⟨rfl, rfl⟩
        obtain ⟨D1, hD1⟩ : ∃ D1, D.step.1 = D1 := ⟨_, rfl⟩
        rw [hD1] at hd1 hcr
        rw [ht, hD1] at HST
        have HE := Lib.hid hd1
        have HH := Lib.hid hh
        clear hm hh ht hD1 hd1 hbx
        go_enter Try.func29, Try.ntmps29
        go_wp2_with fail
        refine HM.out.mono ?_
        rintro e w1 ⟨rfl, hd1, hb1⟩
        obtain ⟨_, c1, _⟩ := hd1.cells
        obtain ⟨n1, ln1, f1⟩ := hd1.nam
        obtain ⟨hl, hkw, _⟩ := names_look f1 s hs
        rw [HH.out] at hl
        have HD1 := Lib.hid hd1
        have HB1 := Lib.hid hb1
        clear hd1 f1 hb1
        generalize numOf D.names s = k at *
        go_wp2_with fail
        refine (HST.out _ HD1.out).mono ?_
        rintro e w2 ⟨rfl, hd2, hf2⟩
        clear c1 hl
        obtain ⟨c0, _⟩ := hd2.cells
        obtain ⟨n2, ln2, f2⟩ := hd2.fil
        have HF2 := Lib.hid f2
        have HD2 := Lib.hid hd2
        have HR2 := Lib.hid hf2
        have HL2 := Lib.hid ln2
        have HKW := Lib.hid hkw
        obtain ⟨r, hlk, hr, _, hm1, hw1, _⟩ := files_look (w := w2.drew) f2 k hkw false
        rw [hr rfl, HE.out.1] at hlk
        rw [HE.out.1] at hm1 hw1
        have hbs : bs (fileOf D.files k).1 = bs (fileOf D.files k).1 := rfl
        have HBS : Hid ((bs (fileOf D.files k).1).data.toList = (fileOf D.files k).1) := rfl
        have HSZ : Hid ((bs (fileOf D.files k).1).size = (fileOf D.files k).1.length) := by show _ = _; simp [bs, ByteArray.size]
        generalize hD0 : bs (fileOf D.files k).1 = d0 at *
        obtain ⟨m0, hm0⟩ : ∃ m0, (fileOf D.files k).2 = m0 := ⟨_, rfl⟩
        rw [hm0] at hlk hw1
        have HM0 := Lib.hid hm0
        have HM1 := Lib.hid hm1
        have HW1 := Lib.hid hw1
        clear hm0 hD0 hbs f2 hd2 hf2 ln2 hr hm1 hw1 hkw
        go_wp2_with fail
        have hbx2 : w2.drew.cell? ⟨bx, 0, none⟩ = some (.string x) := by
          have hl := (lt_of_cell HBX.out).1
          have h1 : w1.cell? ⟨bx, 0, none⟩ = some (.string x) := (HB1.out.cell (p := ⟨bx, 0, none⟩) hl).trans HBX.out
          exact HR2.out.cell HD1.out h1 hap
        have hcl := Lib.hid (append1_any d0 x m0 bx w2.drew hbx2 (by rw [HSZ.out]; exact hsz))
        clear hbx2
        have HNM : Hid ((d0 ++ x).size ≤ maxLen) := by
          show _ ≤ _
          rw [ByteArray.size_append, HSZ.out]; unfold maxLen; exact hsz
        have HNW : Hid ((Lit.int .i64 m0).wf = true) := by
          show _ = _
          exact HW1.out
        go_region_held3 (fun w' => w'.cell? ⟨F.p, 0, none⟩ = some (.map (some F.fb)))
          (first
            | exact cell_grown (by assumption) HG3.out HAP.out.1
            | exact (hbn.cell (p := ⟨F.p, 0, none⟩) (lt_of_cell c0).1).trans c0
            | exact c0
            | (simp; done))
          ((go_at_call 30; refine hcl.out.mono ?_; rintro e wn ⟨rfl, hbn⟩; obtain ⟨w3, run3, ho3, ht3⟩ := World.ownsMap.store (w := wn) (map_below (w := w2.drew) HF2.out hbn) lawI Try.underlying55 (by unfold maxLen; have := HE.out.2; have := HL2.out; omega) (key := .int .i64 k) (val := .agg #[.string (d0 ++ x), .int .i64 m0]) (keyOf_int_mk Try.underlying3 HKW.out) (fileElem_mk HNM.out HNW.out); have HG3 := Lib.hid ht3.grown; have HO3 := Lib.hid ho3; clear ho3 ht3))
        go_wp2_with fail
        go_ret
        have hd3 := (HD2.out.below (bcall (brefl w2).drew hbn)).files' (w' := w3) (Nat.succ_le_succ HL2.out) HO3.out HG3.out
        refine ⟨by rw [hcr.out]; rfl, ?_, (((Fr.of_below HB1.out).trans HR2.out).trans (Fr.of_below (bcall (brefl w2).drew hbn))).grown HG3.out (.inl rfl)⟩
        rw [hcr.out]
        simp only [HE.out.1, HE.out.2] at hd3
        rw [ba_append, HBS.out] at hd3
        rw [HM0.out]
        exact hd3
      · have hcr : Hid (D.change s (fun f => (f.1 ++ x.data.toList, f.2)) = D.step) := by
          show _ = _
          unfold DS.change
          rw [if_neg (by rw [hm]; simp), if_neg (by rw [hh]; simp), if_pos ht]
        obtain ⟨t, htt⟩ : ∃ t, D.step.2 = t := ⟨_, rfl⟩
        rw [htt] at ht HST
        have q1 : (t == 0) = false := by simpa using ht
        have q2 : (t != 0) = true := by simpa using ht
        have HT := Lib.hid htt
        have HH := Lib.hid hh
        clear hm ht htt hh hbx
        go_enter Try.func29, Try.ntmps29
        go_wp2_with fail
        refine HM.out.mono ?_
        rintro e w1 ⟨rfl, hd1, hb1⟩
        obtain ⟨_, c1, _⟩ := hd1.cells
        obtain ⟨n1, ln1, f1⟩ := hd1.nam
        obtain ⟨hl, hkw, _⟩ := names_look f1 s hs
        rw [HH.out] at hl
        have HD1 := Lib.hid hd1
        have HB1 := Lib.hid hb1
        clear hd1 f1 hb1
        go_wp2_with fail
        refine (HST.out _ HD1.out).mono ?_
        rintro e w2 ⟨rfl, hd2, hf2⟩
        have HD2 := Lib.hid hd2
        clear hd2 c1 hl
        go_wp2_with fail
        go_ret
        exact ⟨by rw [hcr.out, HT.out]; rfl, by rw [hcr.out]; exact HD2.out, (Fr.of_below HB1.out).trans hf2⟩
  · have hcr : Hid (D.change s (fun f => (f.1 ++ x.data.toList, f.2)) = (D, mayE [s] D.down)) := by
      show _ = _
      unfold DS.change
      rw [if_pos hm]
    obtain ⟨t, htt⟩ : ∃ t, mayE [s] D.down = t := ⟨_, rfl⟩
    rw [htt] at hm HM hcr
    have q1 : (t == 0) = false := by simpa using hm
    have q2 : (t != 0) = true := by simpa using hm
    clear hm htt hs hbx
    go_enter Try.func29, Try.ntmps29
    go_wp2_with fail
    refine HM.out.mono ?_
    rintro e w1 ⟨rfl, hd1, hb1⟩
    have HD1 := Lib.hid hd1
    clear hd1
    go_wp2_with fail
    go_ret
    exact ⟨by rw [hcr.out]; rfl, by rw [hcr.out]; exact HD1.out, Fr.of_below hb1⟩

set_option maxRecDepth 100000 in
set_option maxHeartbeats 4000000 in
theorem change_syn {H : Type} (w : World) (F : Foot) (D : DS H) (s : ByteArray) (h : DiskAt w F D) (hf : D.fits) (hs : s.size ≤ maxLen) :
    Calls Try.prog 29 #[.pointer (some ⟨F.p, 0, none⟩), .string s, .func (.func 31) #[] #[]] w fun e w' => e = .returned (.int .i64 (D.change s (fun f => (f.1, (f.1.length : Int)))).2) ∧ DiskAt w' F (D.change s (fun f => (f.1, (f.1.length : Int)))).1 ∧ Fr F w w' := by
  obtain ⟨a0, a1, s0, s1, l0, l1, cp⟩ := hf
  have HM := Lib.hid (may_one w F D s h)
  have HAP := Lib.hid h.apart
  have HST := Lib.hid (fun (w' : World) (h' : DiskAt w' F D) => step_any w' F D h' ⟨a0, a1⟩ ⟨s0, by omega⟩)
  have HS := Lib.hid hs

  by_cases hm : mayE [s] D.down = 0
  · rw [hm] at HM
    cases hh : Maps.has D.names (keyS s) with
    | false =>
      have hcr : Hid (D.change s (fun f => (f.1, (f.1.length : Int))) = (D, 11)) := by
        show _ = _
        unfold DS.change
        rw [if_neg (by rw [hm]; simp), if_pos hh]
      have HH := Lib.hid hh
      clear hm hh
      go_enter Try.func29, Try.ntmps29
      go_wp2_with fail
      refine HM.out.mono ?_
      rintro e w1 ⟨rfl, hd1, hb1⟩
      obtain ⟨_, c1, _⟩ := hd1.cells
      obtain ⟨n1, ln1, f1⟩ := hd1.nam
      obtain ⟨hl, hkw, _⟩ := names_look f1 s hs
      rw [HH.out] at hl
      have HD1 := Lib.hid hd1
      have HB1 := Lib.hid hb1
      clear hd1 f1 hb1
      go_wp2_with fail
      go_ret
      exact ⟨by rw [hcr.out]; rfl, by rw [hcr.out]; exact HD1.out, Fr.of_below HB1.out⟩
    | true =>
      by_cases ht : D.step.2 = 0
      · have hcr : Hid (D.change s (fun f => (f.1, (f.1.length : Int))) = ({ D.step.1 with files := D.files.put (.int .i64 (numOf D.names s)) (.agg [.lit (.string ((fun f => (f.1, (f.1.length : Int))) (fileOf D.files (numOf D.names s))).1), .lit (.int .i64 ((fun f => (f.1, (f.1.length : Int))) (fileOf D.files (numOf D.names s))).2)]), cap := D.cap + 1 }, 0)) := by
          show _ = _
          unfold DS.change
          rw [if_neg (by rw [hm]; simp), if_neg (by rw [hh]; simp), if_neg (by rw [ht]; simp)]
        have hd1 : D.step.1.files = D.files ∧ D.step.1.cap = D.cap := by
          unfold DS.step
          split <;> exact ⟨rfl, rfl⟩
        obtain ⟨D1, hD1⟩ : ∃ D1, D.step.1 = D1 := ⟨_, rfl⟩
        rw [hD1] at hd1 hcr
        rw [ht, hD1] at HST
        have HE := Lib.hid hd1
        have HH := Lib.hid hh
        clear hm hh ht hD1 hd1
        go_enter Try.func29, Try.ntmps29
        go_wp2_with fail
        refine HM.out.mono ?_
        rintro e w1 ⟨rfl, hd1, hb1⟩
        obtain ⟨_, c1, _⟩ := hd1.cells
        obtain ⟨n1, ln1, f1⟩ := hd1.nam
        obtain ⟨hl, hkw, _⟩ := names_look f1 s hs
        rw [HH.out] at hl
        have HD1 := Lib.hid hd1
        have HB1 := Lib.hid hb1
        clear hd1 f1 hb1
        generalize numOf D.names s = k at *
        go_wp2_with fail
        refine (HST.out _ HD1.out).mono ?_
        rintro e w2 ⟨rfl, hd2, hf2⟩
        clear c1 hl
        obtain ⟨c0, _⟩ := hd2.cells
        obtain ⟨n2, ln2, f2⟩ := hd2.fil
        have HF2 := Lib.hid f2
        have HD2 := Lib.hid hd2
        have HR2 := Lib.hid hf2
        have HL2 := Lib.hid ln2
        have HKW := Lib.hid hkw
        obtain ⟨r, hlk, hr, _, hm1, hw1, _⟩ := files_look (w := w2.drew) f2 k hkw false
        rw [hr rfl, HE.out.1] at hlk
        rw [HE.out.1] at hm1 hw1
        have hbs : bs (fileOf D.files k).1 = bs (fileOf D.files k).1 := rfl
        have HBS : Hid ((bs (fileOf D.files k).1).data.toList = (fileOf D.files k).1) := rfl
        have HSZ : Hid ((bs (fileOf D.files k).1).size = (fileOf D.files k).1.length) := by show _ = _; simp [bs, ByteArray.size]
        generalize hD0 : bs (fileOf D.files k).1 = d0 at *
        obtain ⟨m0, hm0⟩ : ∃ m0, (fileOf D.files k).2 = m0 := ⟨_, rfl⟩
        rw [hm0] at hlk hw1
        have HM0 := Lib.hid hm0
        have HM1 := Lib.hid hm1
        have HW1 := Lib.hid hw1
        clear hm0 hD0 hbs f2 hd2 hf2 ln2 hr hm1 hw1 hkw
        go_wp2_with fail
        have hcl := Lib.hid (sync1_any d0 m0 w2.drew)
        have HNM : Hid (d0.size ≤ maxLen) := by
          show _ ≤ _
          exact HM1.out
        have HNW : Hid ((Lit.int .i64 (d0.size : Int)).wf = true) := by
          show _ = _
          exact WalkArith.wf_i64 (by have := HM1.out; unfold maxLen at this; omega)
        go_region_held3 (fun w' => w'.cell? ⟨F.p, 0, none⟩ = some (.map (some F.fb)))
          (first
            | exact cell_grown (by assumption) HG3.out HAP.out.1
            | exact (hbn.cell (p := ⟨F.p, 0, none⟩) (lt_of_cell c0).1).trans c0
            | exact c0
            | (simp; done))
          ((go_at_call 31; refine hcl.out.mono ?_; rintro e wn ⟨rfl, hbn⟩; obtain ⟨w3, run3, ho3, ht3⟩ := World.ownsMap.store (w := wn) (map_below (w := w2.drew) HF2.out hbn) lawI Try.underlying55 (by unfold maxLen; have := HE.out.2; have := HL2.out; omega) (key := .int .i64 k) (val := .agg #[.string d0, .int .i64 (d0.size : Int)]) (keyOf_int_mk Try.underlying3 HKW.out) (fileElem_mk HNM.out HNW.out); have HG3 := Lib.hid ht3.grown; have HO3 := Lib.hid ho3; clear ho3 ht3))
        go_wp2_with fail
        go_ret
        have hd3 := (HD2.out.below (bcall (brefl w2).drew hbn)).files' (w' := w3) (Nat.succ_le_succ HL2.out) HO3.out HG3.out
        refine ⟨by rw [hcr.out]; rfl, ?_, (((Fr.of_below HB1.out).trans HR2.out).trans (Fr.of_below (bcall (brefl w2).drew hbn))).grown HG3.out (.inl rfl)⟩
        rw [hcr.out]
        simp only [HE.out.1, HE.out.2] at hd3
        rw [HBS.out, HSZ.out] at hd3
        
        exact hd3
      · have hcr : Hid (D.change s (fun f => (f.1, (f.1.length : Int))) = D.step) := by
          show _ = _
          unfold DS.change
          rw [if_neg (by rw [hm]; simp), if_neg (by rw [hh]; simp), if_pos ht]
        obtain ⟨t, htt⟩ : ∃ t, D.step.2 = t := ⟨_, rfl⟩
        rw [htt] at ht HST
        have q1 : (t == 0) = false := by simpa using ht
        have q2 : (t != 0) = true := by simpa using ht
        have HT := Lib.hid htt
        have HH := Lib.hid hh
        clear hm ht htt hh
        go_enter Try.func29, Try.ntmps29
        go_wp2_with fail
        refine HM.out.mono ?_
        rintro e w1 ⟨rfl, hd1, hb1⟩
        obtain ⟨_, c1, _⟩ := hd1.cells
        obtain ⟨n1, ln1, f1⟩ := hd1.nam
        obtain ⟨hl, hkw, _⟩ := names_look f1 s hs
        rw [HH.out] at hl
        have HD1 := Lib.hid hd1
        have HB1 := Lib.hid hb1
        clear hd1 f1 hb1
        go_wp2_with fail
        refine (HST.out _ HD1.out).mono ?_
        rintro e w2 ⟨rfl, hd2, hf2⟩
        have HD2 := Lib.hid hd2
        clear hd2 c1 hl
        go_wp2_with fail
        go_ret
        exact ⟨by rw [hcr.out, HT.out]; rfl, by rw [hcr.out]; exact HD2.out, (Fr.of_below HB1.out).trans hf2⟩
  · have hcr : Hid (D.change s (fun f => (f.1, (f.1.length : Int))) = (D, mayE [s] D.down)) := by
      show _ = _
      unfold DS.change
      rw [if_pos hm]
    obtain ⟨t, htt⟩ : ∃ t, mayE [s] D.down = t := ⟨_, rfl⟩
    rw [htt] at hm HM hcr
    have q1 : (t == 0) = false := by simpa using hm
    have q2 : (t != 0) = true := by simpa using hm
    clear hm htt hs
    go_enter Try.func29, Try.ntmps29
    go_wp2_with fail
    refine HM.out.mono ?_
    rintro e w1 ⟨rfl, hd1, hb1⟩
    have HD1 := Lib.hid hd1
    clear hd1
    go_wp2_with fail
    go_ret
    exact ⟨by rw [hcr.out]; rfl, by rw [hcr.out]; exact HD1.out, Fr.of_below hb1⟩

end Go.Proofs.Ytfiphjhpjaddcaa
