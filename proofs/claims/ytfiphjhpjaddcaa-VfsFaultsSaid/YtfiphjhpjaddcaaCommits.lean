/- A fault that is armed; VfsCommits in plain words. -/
import Derived.Test.YtfiphjhpjaddcaaKeeps
namespace Go.Proofs.Ytfiphjhpjaddcaa
open Go.RowKit Go.Maps Go.Sort

/-- A disk with a fault behind a changes. -/
def arm {H : Type} (D : DS H) (a f : Int) : DS H := { D with armed := a, fault := f }
section
variable {H : Type} {D : DS H} {a f : Int}
theorem small_arm {n : Nat} (h : D.small n) (h0 : -1 ≤ a) (h1 : a ≤ 9223372036854775807) : (arm D a f).small n :=
  ⟨h0, h1, h.s0, h.s1, h.l0, h.l1, h.c1⟩
theorem good_arm {L : Nat} (h : D.good L) : (arm D a f).good L := h.of_files rfl
theorem step_arm (ha : 0 < a) (hd : D.armed ≠ 0) : (arm D a f).step = (arm D.step.1 (a - 1) f, 0) ∧ D.step.2 = 0 := by
  have e1 : (arm D a f).step = ({ (arm D a f) with armed := max (-1) (a - 1), steps := D.steps + 1 }, 0) := by
    unfold DS.step
    rw [if_neg (by show a ≠ 0; omega)]
    rfl
  have e2 : D.step = ({ D with armed := max (-1) (D.armed - 1), steps := D.steps + 1 }, 0) := by
    unfold DS.step
    rw [if_neg hd]
  have e3 : max (-1) (a - 1) = a - 1 := by omega
  rw [e1, e2, e3]
  exact ⟨rfl, rfl⟩
theorem arm_maps (D : DS H) (a f : Int) : (arm D a f).kept = D.kept ∧ (arm D a f).names = D.names ∧ (arm D a f).files = D.files := ⟨rfl, rfl, rfl⟩
theorem arm_create (ha : 0 < a) (hd : D.armed ≠ 0) {s : ByteArray} (hs : (D.create s).2 = 0) : (arm D a f).create s = (arm (D.create s).1 (a - 1) f, 0) := by
  obtain ⟨e1, e2⟩ := step_arm (f := f) ha hd
  unfold DS.create at hs ⊢
  rw [e1]
  show (if mayE [s] D.down ≠ 0 then _ else _) = _
  by_cases hm : mayE [s] D.down = 0
  · rw [if_neg (by simp [hm])] at hs
    rw [if_neg (by simp [hm]), if_neg (by simp), if_neg (by simp [hm]), if_neg (by simp [e2])]
    rfl
  · rw [if_pos hm] at hs
    exact absurd hs hm
theorem arm_change (ha : 0 < a) (hd : D.armed ≠ 0) {s : ByteArray} {G : List UInt8 × Int → List UInt8 × Int} (hs : (D.change s G).2 = 0) : (arm D a f).change s G = (arm (D.change s G).1 (a - 1) f, 0) := by
  obtain ⟨e1, e2⟩ := step_arm (f := f) ha hd
  unfold DS.change at hs ⊢
  rw [e1]
  show (if mayE [s] D.down ≠ 0 then _ else if Maps.has D.names (keyS s) = false then _ else _) = _
  by_cases hm : mayE [s] D.down = 0
  · rw [if_neg (by simp [hm])] at hs
    rw [if_neg (by simp [hm])]
    by_cases hh : Maps.has D.names (keyS s) = false
    · rw [if_pos hh] at hs
      cases hs
    · rw [if_neg hh, if_neg (by simp), if_neg (by simp [hm]), if_neg hh, if_neg (by simp [e2])]
      rfl
  · rw [if_pos hm] at hs
    exact absurd hs hm
theorem arm_append (ha : 0 < a) (hd : D.armed ≠ 0) {s x : ByteArray} (hs : (D.append s x).2 = 0) : (arm D a f).append s x = (arm (D.append s x).1 (a - 1) f, 0) := arm_change ha hd hs
theorem arm_sync (ha : 0 < a) (hd : D.armed ≠ 0) {s : ByteArray} (hs : (D.sync s).2 = 0) : (arm D a f).sync s = (arm (D.sync s).1 (a - 1) f, 0) := arm_change ha hd hs
theorem arm_rename (ha : 0 < a) (hd : D.armed ≠ 0) {s x : ByteArray} (hs : (D.rename s x).2 = 0) : (arm D a f).rename s x = (arm (D.rename s x).1 (a - 1) f, 0) := by
  obtain ⟨e1, e2⟩ := step_arm (f := f) ha hd
  unfold DS.rename at hs ⊢
  rw [e1]
  show (if mayE [s, x] D.down ≠ 0 then _ else if Maps.has D.names (keyS s) = false then _ else _) = _
  by_cases hm : mayE [s, x] D.down = 0
  · rw [if_neg (by simp [hm])] at hs
    rw [if_neg (by simp [hm])]
    by_cases hh : Maps.has D.names (keyS s) = false
    · rw [if_pos hh] at hs
      cases hs
    · rw [if_neg hh, if_neg (by simp), if_neg (by simp [hm]), if_neg hh, if_neg (by simp [e2])]
      rfl
  · rw [if_pos hm] at hs
    exact absurd hs hm
theorem arm_syncDir (ha : 0 < a) (hd : D.armed ≠ 0) (hs : (D.syncDir).2 = 0) : (arm D a f).syncDir = (arm (D.syncDir).1 (a - 1) f, 0) := by
  obtain ⟨e1, e2⟩ := step_arm (f := f) ha hd
  unfold DS.syncDir at hs ⊢
  rw [e1]
  show (if D.down = true then _ else _) = _
  by_cases hm : D.down = true
  · rw [if_pos hm] at hs
    cases hs
  · rw [if_neg hm, if_neg hm, if_neg (by simp), if_neg (by simp [e2])]
    rfl
end
theorem dk_arm' {H : Type} {w W : World} {p : Nat} {D : DS H} (h : Own w W p D) (n e : Int) (hn : 0 ≤ n) (he : e = 14 ∨ e = 13 ∨ e = 15) : Calls Try.prog 17 #[.pointer (some ⟨p, 0, none⟩), .int .i64 n, .int .i64 e] W fun x w' => x = .returned (.int .i64 0) ∧ Own w w' p (arm D n e) :=
  dk_arm h n e hn he
def bx : ByteArray := ⟨#[120]⟩
def bt : ByteArray := ⟨#[116]⟩
def cm1 (_ _ : ByteArray) : DS Unit := ((DS.new Unit).create bx).1
def cm2 (o t : ByteArray) : DS Unit := ((cm1 o t).append bx o).1
def cm3 (o t : ByteArray) : DS Unit := ((cm2 o t).sync bx).1
def cu0 (o t : ByteArray) : DS Unit := ((cm3 o t).syncDir).1
def cu1 (o t : ByteArray) : DS Unit := ((cu0 o t).create bt).1
def cu2 (o t : ByteArray) : DS Unit := ((cu1 o t).append bt t).1
def cu3 (o t : ByteArray) : DS Unit := ((cu2 o t).sync bt).1
def cu4 (o t : ByteArray) : DS Unit := ((cu3 o t).rename bt bx).1
def cu5 (o t : ByteArray) : DS Unit := ((cu4 o t).syncDir).1
def cf0 (o t : ByteArray) : DS Unit := ((arm (cu0 o t) 0 15).create bt).1
def cf1 (o t : ByteArray) : DS Unit := ((arm (cu1 o t) 0 15).append bt t).1
def cf2 (o t : ByteArray) : DS Unit := ((arm (cu2 o t) 0 15).sync bt).1
def cf3 (o t : ByteArray) : DS Unit := ((arm (cu3 o t) 0 15).rename bt bx).1
def cf4 (o t : ByteArray) : DS Unit := ((arm (cu4 o t) 0 15).syncDir).1
section
variable (o t : ByteArray)
theorem cc1 : ((DS.new Unit).create bx).2 = 0 := by kernel_rfl
theorem cc2 : ((cm1 o t).append bx o).2 = 0 := by kernel_rfl
theorem cc3 : ((cm2 o t).sync bx).2 = 0 := by kernel_rfl
theorem cc4 : ((cm3 o t).syncDir).2 = 0 := by kernel_rfl
theorem cv1 : ((cu0 o t).create bt).2 = 0 := by kernel_rfl
theorem cv2 : ((cu1 o t).append bt t).2 = 0 := by kernel_rfl
theorem cv3 : ((cu2 o t).sync bt).2 = 0 := by kernel_rfl
theorem cv4 : ((cu3 o t).rename bt bx).2 = 0 := by kernel_rfl
theorem cv5 : ((cu4 o t).syncDir).2 = 0 := by kernel_rfl
theorem ca0 : (cu0 o t).armed = -1 := by kernel_rfl
theorem ca1 : (cu1 o t).armed = -1 := by kernel_rfl
theorem ca2 : (cu2 o t).armed = -1 := by kernel_rfl
theorem ca3 : (cu3 o t).armed = -1 := by kernel_rfl
theorem ca4 : (cu4 o t).armed = -1 := by kernel_rfl
theorem cw0 : ((arm (cu0 o t) 0 15).create bt).2 = 15 := by kernel_rfl
theorem cw1 : ((arm (cu1 o t) 0 15).append bt t).2 = 15 := by kernel_rfl
theorem cw2 : ((arm (cu2 o t) 0 15).sync bt).2 = 15 := by kernel_rfl
theorem cw3 : ((arm (cu3 o t) 0 15).rename bt bx).2 = 15 := by kernel_rfl
theorem cw4 : ((arm (cu4 o t) 0 15).syncDir).2 = 15 := by kernel_rfl
theorem cz1 {a f : Int} (ha : 0 < a) : (arm (cu0 o t) a f).create bt = (arm (cu1 o t) (a - 1) f, 0) := by
  unfold cu1
  exact arm_create ha (by rw [ca0]; omega) (cv1 o t)
theorem cy0 : (arm (cu0 o t) 0 15).create bt = (cf0 o t, 15) := Prod.ext (by unfold cf0; rfl) (cw0 o t)
theorem cz2 {a f : Int} (ha : 0 < a) : (arm (cu1 o t) a f).append bt t = (arm (cu2 o t) (a - 1) f, 0) := by
  unfold cu2
  exact arm_append ha (by rw [ca1]; omega) (cv2 o t)
theorem cy1 : (arm (cu1 o t) 0 15).append bt t = (cf1 o t, 15) := Prod.ext (by unfold cf1; rfl) (cw1 o t)
theorem cz3 {a f : Int} (ha : 0 < a) : (arm (cu2 o t) a f).sync bt = (arm (cu3 o t) (a - 1) f, 0) := by
  unfold cu3
  exact arm_sync ha (by rw [ca2]; omega) (cv3 o t)
theorem cy2 : (arm (cu2 o t) 0 15).sync bt = (cf2 o t, 15) := Prod.ext (by unfold cf2; rfl) (cw2 o t)
theorem cz4 {a f : Int} (ha : 0 < a) : (arm (cu3 o t) a f).rename bt bx = (arm (cu4 o t) (a - 1) f, 0) := by
  unfold cu4
  exact arm_rename ha (by rw [ca3]; omega) (cv4 o t)
theorem cy3 : (arm (cu3 o t) 0 15).rename bt bx = (cf3 o t, 15) := Prod.ext (by unfold cf3; rfl) (cw3 o t)
theorem cz5 {a f : Int} (ha : 0 < a) : (arm (cu4 o t) a f).syncDir = (arm (cu5 o t) (a - 1) f, 0) := by
  unfold cu5
  exact arm_syncDir ha (by rw [ca4]; omega) (cv5 o t)
theorem cy4 : (arm (cu4 o t) 0 15).syncDir = (cf4 o t, 15) := Prod.ext (by unfold cf4; rfl) (cw4 o t)
theorem cs1 : (cm1 o t).small 1 := (small_new Unit).create _
theorem cs2 : (cm2 o t).small 2 := (cs1 o t).append _ _
theorem cs3 : (cm3 o t).small 3 := (cs2 o t).sync _
theorem ct0 : (cu0 o t).small 4 := (cs3 o t).syncDir
theorem ct1 : (cu1 o t).small 5 := (ct0 o t).create _
theorem ct2 : (cu2 o t).small 6 := (ct1 o t).append _ _
theorem ct3 : (cu3 o t).small 7 := (ct2 o t).sync _
theorem ct4 : (cu4 o t).small 8 := (ct3 o t).rename _ _
theorem ct5 : (cu5 o t).small 9 := (ct4 o t).syncDir
theorem cp0 : (cf0 o t).small 10 := ((small_arm (ct0 o t) (by omega) (by omega)).create _).more (by omega)
theorem cp1 : (cf1 o t).small 10 := ((small_arm (ct1 o t) (by omega) (by omega)).append _ _).more (by omega)
theorem cp2 : (cf2 o t).small 10 := ((small_arm (ct2 o t) (by omega) (by omega)).sync _).more (by omega)
theorem cp3 : (cf3 o t).small 10 := ((small_arm (ct3 o t) (by omega) (by omega)).rename _ _).more (by omega)
theorem cp4 : (cf4 o t).small 10 := ((small_arm (ct4 o t) (by omega) (by omega)).syncDir).more (by omega)
theorem cg1 : (cm1 o t).good 0 := (good_new Unit).create _
theorem cg2 : (cm2 o t).good (0 + o.size) := (cg1 o t).append _ _
theorem ch0 : (cu0 o t).good (0 + o.size) := ((cg2 o t).sync _).syncDir
theorem ch1 : (cu1 o t).good (0 + o.size) := (ch0 o t).create _
theorem ch2 : (cu2 o t).good (0 + o.size + t.size) := (ch1 o t).append _ _
theorem ch3 : (cu3 o t).good (0 + o.size + t.size) := (ch2 o t).sync _
theorem ch4 : (cu4 o t).good (0 + o.size + t.size) := (ch3 o t).rename _ _
theorem ch5 : (cu5 o t).good (0 + o.size + t.size) := (ch4 o t).syncDir
theorem ci0 : (cf0 o t).good (0 + o.size + t.size) := ((good_arm (ch0 o t)).create _).more (by omega)
theorem ci1 : (cf1 o t).good (0 + o.size + t.size) := (good_arm (ch1 o t)).append _ _
theorem ci2 : (cf2 o t).good (0 + o.size + t.size) := (good_arm (ch2 o t)).sync _
theorem ci3 : (cf3 o t).good (0 + o.size + t.size) := (good_arm (ch3 o t)).rename _ _
theorem ci4 : (cf4 o t).good (0 + o.size + t.size) := (good_arm (ch4 o t)).syncDir
theorem cn0 : (cf0 o t).kept = .map [(keyS bx, .lit (.int .i64 1))] ∧ (cf0 o t).names = .map [(keyS bx, .lit (.int .i64 1))] ∧ fileOf (cf0 o t).files 1 = (o.data.toList, (o.data.toList.length : Int)) := ⟨by kernel_rfl, by kernel_rfl, by kernel_rfl⟩
theorem cn1 : (cf1 o t).kept = .map [(keyS bx, .lit (.int .i64 1))] ∧ (cf1 o t).names = .map [(keyS bt, .lit (.int .i64 2)), (keyS bx, .lit (.int .i64 1))] ∧ fileOf (cf1 o t).files 1 = (o.data.toList, (o.data.toList.length : Int)) := ⟨by kernel_rfl, by kernel_rfl, by kernel_rfl⟩
theorem cn2 : (cf2 o t).kept = .map [(keyS bx, .lit (.int .i64 1))] ∧ (cf2 o t).names = .map [(keyS bt, .lit (.int .i64 2)), (keyS bx, .lit (.int .i64 1))] ∧ fileOf (cf2 o t).files 1 = (o.data.toList, (o.data.toList.length : Int)) := ⟨by kernel_rfl, by kernel_rfl, by kernel_rfl⟩
theorem cn3 : (cf3 o t).kept = .map [(keyS bx, .lit (.int .i64 1))] ∧ (cf3 o t).names = .map [(keyS bt, .lit (.int .i64 2)), (keyS bx, .lit (.int .i64 1))] ∧ fileOf (cf3 o t).files 1 = (o.data.toList, (o.data.toList.length : Int)) := ⟨by kernel_rfl, by kernel_rfl, by kernel_rfl⟩
theorem cn4 : (cf4 o t).kept = .map [(keyS bx, .lit (.int .i64 1))] ∧ (cf4 o t).names = .map [(keyS bx, .lit (.int .i64 2))] ∧ fileOf (cf4 o t).files 1 = (o.data.toList, (o.data.toList.length : Int)) ∧ fileOf (cf4 o t).files 2 = (t.data.toList, (t.data.toList.length : Int)) := ⟨by kernel_rfl, by kernel_rfl, by kernel_rfl, by kernel_rfl⟩
theorem cn5 : (cu5 o t).kept = .map [(keyS bx, .lit (.int .i64 2))] ∧ (cu5 o t).names = .map [(keyS bx, .lit (.int .i64 2))] ∧ fileOf (cu5 o t).files 2 = (t.data.toList, (t.data.toList.length : Int)) := ⟨by kernel_rfl, by kernel_rfl, by kernel_rfl⟩
end
/-- A name that stands, kept and now, at files that are wholly sure. -/
theorem read_sure {H : Type} {L : Nat} {D : DS H} (hg : D.good L) (hK : IsMap D.kept) (hN : Keyed' D.names) (loss : Int) {s : ByteArray} (hs : nameB s = true) (h1 : Maps.has D.kept (keyS s) = true) (h2 : Maps.has D.names (keyS s) = true)
    {x y : ByteArray} (e1 : fileOf D.files (numOf D.kept s) = (x.data.toList, (x.data.toList.length : Int))) (e2 : fileOf D.files (numOf D.names s) = (y.data.toList, (y.data.toList.length : Int))) : readE (D.restart loss) s = 0 ∧ (readS (D.restart loss) s = x ∨ readS (D.restart loss) s = y) := by
  rcases read_restart hg hK hN loss hs with ⟨_, _, h | h⟩ | ⟨e0, k, q, hk, q0, q1, e⟩
  · rw [h1] at h; cases h
  · rw [h2] at h; cases h
  · refine ⟨e0, ?_⟩
    rcases hk with ⟨_, rfl⟩ | ⟨_, rfl⟩
    · rw [e1] at q0 q1 e
      simp only at q0 q1 e
      exact .inl (ba_eq (e.trans (List.take_of_length_le (by omega))))
    · rw [e2] at q0 q1 e
      simp only at q0 q1 e
      exact .inr (ba_eq (e.trans (List.take_of_length_le (by omega))))
theorem num_first {H : Type} {M : DataW H} {s : ByteArray} {k : Int} {r : List (Lit × DataW H)} (h : M = .map ((keyS s, .lit (.int .i64 k)) :: r)) : Maps.has M (keyS s) = true ∧ numOf M s = k := by
  subst h
  have hs : (keyS s).sameKey (keyS s) = true := Go.WideAt.sameKey_self (by simp [keyS, Go.WideAt.IsKeyLit])
  refine ⟨by rw [has_eq, List.any_cons, hs]; rfl, ?_⟩
  unfold numOf
  show intOfD (match ((keyS s, (DataW.lit (.int .i64 k) : DataW H)) :: r).find? (fun p => p.1.sameKey (keyS s)) with | some p => p.2 | none => _) = k
  rw [List.find?_cons]
  simp only [hs]
  rfl
theorem num_x2 {M : DataW Unit} (h : M = .map [(keyS bt, .lit (.int .i64 2)), (keyS bx, .lit (.int .i64 1))]) : Maps.has M (keyS bx) = true ∧ numOf M bx = 1 := by
  subst h; decide +kernel
theorem commits_plain (o t : ByteArray) (loss : Int) :
    (∀ D, D = cf0 o t ∨ D = cf1 o t ∨ D = cf2 o t ∨ D = cf3 o t → readE (D.restart loss) bx = 0 ∧ readS (D.restart loss) bx = o) ∧
    (readE ((cf4 o t).restart loss) bx = 0 ∧ (readS ((cf4 o t).restart loss) bx = o ∨ readS ((cf4 o t).restart loss) bx = t)) ∧
    (∀ a f, readE ((arm (cu5 o t) a f).restart loss) bx = 0 ∧ readS ((arm (cu5 o t) a f).restart loss) bx = t) := by
  have hx : nameB bx = true := by decide +kernel
  have one : ∀ {D : DS Unit} {r}, D.good (0 + o.size + t.size) → D.kept = .map [(keyS bx, .lit (.int .i64 1))] → D.names = .map r → (∀ p ∈ r, Go.WideAt.IsKeyLit p.1) → Maps.has D.names (keyS bx) = true ∧ numOf D.names bx = 1 → fileOf D.files 1 = (o.data.toList, (o.data.toList.length : Int)) → readE (D.restart loss) bx = 0 ∧ readS (D.restart loss) bx = o := by
    intro D r hg h1 h2 h3 h4 h5
    obtain ⟨a1, a2⟩ := num_first h1
    obtain ⟨c1, c2⟩ := read_sure hg ⟨_, h1⟩ ⟨_, h2, h3⟩ loss hx a1 h4.1 (x := o) (y := o) (by rw [a2]; exact h5) (by rw [h4.2]; exact h5)
    exact ⟨c1, by rcases c2 with c | c <;> exact c⟩
  refine ⟨?_, ?_, ?_⟩
  · rintro D (rfl | rfl | rfl | rfl)
    · obtain ⟨h1, h2, h3⟩ := cn0 o t
      exact one (ci0 o t) h1 h2 (by simp [keyS, Go.WideAt.IsKeyLit]) (num_first h2) h3
    · obtain ⟨h1, h2, h3⟩ := cn1 o t
      exact one (ci1 o t) h1 h2 (by simp [keyS, Go.WideAt.IsKeyLit]) (num_x2 h2) h3
    · obtain ⟨h1, h2, h3⟩ := cn2 o t
      exact one (ci2 o t) h1 h2 (by simp [keyS, Go.WideAt.IsKeyLit]) (num_x2 h2) h3
    · obtain ⟨h1, h2, h3⟩ := cn3 o t
      exact one (ci3 o t) h1 h2 (by simp [keyS, Go.WideAt.IsKeyLit]) (num_x2 h2) h3
  · obtain ⟨h1, h2, h3, h4⟩ := cn4 o t
    obtain ⟨a1, a2⟩ := num_first h1
    obtain ⟨b1, b2⟩ := num_first h2
    exact read_sure (ci4 o t) ⟨_, h1⟩ ⟨_, h2, by simp [keyS, Go.WideAt.IsKeyLit]⟩ loss hx a1 b1 (by rw [a2]; exact h3) (by rw [b2]; exact h4)
  · intro a f
    obtain ⟨h1, h2, h3⟩ := cn5 o t
    obtain ⟨a1, a2⟩ := num_first h1
    obtain ⟨b1, b2⟩ := num_first h2
    obtain ⟨m1, m2, m3⟩ := arm_maps (cu5 o t) a f
    have hg := good_arm (a := a) (f := f) (ch5 o t)
    generalize arm (cu5 o t) a f = D at *
    rw [← m1] at h1 a1 a2
    rw [← m2] at h2 b1 b2
    rw [← m3] at h3
    obtain ⟨c1, c2⟩ := read_sure hg ⟨_, h1⟩ ⟨_, h2, by simp [keyS, Go.WideAt.IsKeyLit]⟩ loss hx a1 b1 (x := t) (y := t) (by rw [a2]; exact h3) (by rw [b2]; exact h3)
    exact ⟨c1, by rcases c2 with c | c <;> exact c⟩
end Go.Proofs.Ytfiphjhpjaddcaa
