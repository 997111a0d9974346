/- VfsFaults in plain words; its texts in memory. -/
import Derived.Test.YtfiphjhpjaddcaaCommits
import Derived.Test.YtfiphjhpjaddcaaDeep
namespace Go.Proofs.Ytfiphjhpjaddcaa
open Go.RowKit Go.Maps Go.Sort

theorem ty_texts : tyOf Try.prog 8 35 = some (.slice .str 16) := by kernel_rfl
/-- An argument of texts. -/
structure TextsIn (w : World) (A : Option Addr) (n c : Nat) (x : Nat → ByteArray) : Prop where
  nc : n ≤ c
  cm : c ≤ maxLen
  sl : Sl w w.heap.size 1 A n ((List.range n).map fun i => .string (x i))
  sz : ∀ i, i < n → (x i).size ≤ maxLen ∧ (x i).size ≤ reachBytes
theorem texts_in {w : World} {A : Option Addr} {n c : Nat} {x : Nat → Ty.str.den} {cs : List Value} (h : Reads w w.heap.size (.slice .str 16) (⟨A, n, c⟩, x) cs) : TextsIn w A n c x := by
  have hs := h.sl (e := .str) (fun d => rfl)
  refine ⟨h.2.1.1, h.2.1.2.1, ?_, fun i hi => ?_⟩
  · have e : ((List.range n).flatMap fun i => Ty.cells .str (x i)) = (List.range n).map fun i => .string (x i) := by
      rw [List.map_eq_flatMap]
      rfl
    rw [← e]
    exact hs
  · obtain ⟨cl, z, hz, _, h1, h2⟩ := h.elem hi
    have hz' : (x i : ByteArray) = z := hz
    exact ⟨by rw [hz']; exact h1, by rw [hz']; exact h2⟩
/-- The disk of VfsFaults: one file with these bytes. -/
structure Fa (D : DS Unit) (wl : List UInt8) (a E : Int) (dn : Bool) (k : Nat) : Prop where
  nm : D.names = .map [(keyS baA, .lit (.int .i64 1))]
  fl : D.files = .map [(.int .i64 1, .agg [.lit (.string wl), .lit (.int .i64 0)])]
  ar : D.armed = a
  fa : D.fault = E
  dn : D.down = dn
  sm : D.small (k + 1)
def fz0 : DS Unit := ((DS.new Unit).create baA).1
theorem fz0_ok : ((DS.new Unit).create baA).2 = 0 := by kernel_rfl
theorem fa_new (n E : Int) (h0 : 0 ≤ n) (h1 : n ≤ 9223372036854775807) : Fa (arm fz0 n E) [] n E false 0 :=
  ⟨by kernel_rfl, by kernel_rfl, rfl, rfl, by kernel_rfl, small_arm ((small_new Unit).create _) (by omega) h1⟩
theorem hasA : Maps.has (.map [(keyS baA, .lit (.int .i64 1))] : DataW Unit) (keyS baA) = true := by kernel_rfl
theorem numA : numOf (.map [(keyS baA, .lit (.int .i64 1))] : DataW Unit) baA = 1 := by kernel_rfl
theorem filA (wl : List UInt8) : fileOf (.map [(.int .i64 1, .agg [.lit (.string wl), .lit (.int .i64 0)])] : DataW Unit) 1 = (wl, 0) := by kernel_rfl
theorem putA (wl w2 : List UInt8) : (.map [(.int .i64 1, .agg [.lit (.string wl), .lit (.int .i64 0)])] : DataW Unit).put (.int .i64 1) (.agg [.lit (.string w2), .lit (.int .i64 0)]) = .map [(.int .i64 1, .agg [.lit (.string w2), .lit (.int .i64 0)])] := by kernel_rfl
theorem mayA : mayE [baA] false = 0 := by kernel_rfl
theorem mayAd : mayE [baA] true = 15 := by kernel_rfl
theorem mayB : mayE [bb] false = 0 := by kernel_rfl
theorem mayBd : mayE [bb] true = 15 := by kernel_rfl
section
variable {D : DS Unit} {wl : List UInt8} {a E : Int} {dn : Bool} {k : Nat}
theorem Fa.file (h : Fa D wl a E dn k) : fileOf D.files (numOf D.names baA) = (wl, 0) := by rw [h.nm, numA, h.fl, filA]
theorem fa_down (h : Fa D wl a E true k) (x : ByteArray) : D.append baA x = (D, 15) := by
  unfold DS.append DS.change
  rw [h.dn, mayAd]
  rfl
theorem fa_fault (h : Fa D wl 0 E false k) (hE : E ≠ 0) (x : ByteArray) : (D.append baA x).2 = E ∧ Fa (D.append baA x).1 wl (-1) E (E == 15) (k + 1) := by
  have hs := h.sm.append baA x
  have e : D.append baA x = ({ D with armed := -1, down := E == 15 }, E) := by
    unfold DS.append DS.change DS.step
    rw [h.dn, mayA, h.ar, h.nm, hasA, h.fa]
    simp [hE]
  rw [e] at hs ⊢
  exact ⟨rfl, h.nm, h.fl, rfl, h.fa, rfl, hs⟩
theorem fa_ok (h : Fa D wl a E false k) (ha : a ≠ 0) (x : ByteArray) : (D.append baA x).2 = 0 ∧ Fa (D.append baA x).1 (wl ++ x.data.toList) (max (-1) (a - 1)) E false (k + 1) := by
  have hs := h.sm.append baA x
  have e : D.append baA x = ({ D with armed := max (-1) (a - 1), steps := D.steps + 1, files := .map [(.int .i64 1, .agg [.lit (.string (wl ++ x.data.toList)), .lit (.int .i64 0)])], cap := D.cap + 1 }, 0) := by
    unfold DS.append DS.change
    rw [h.file]
    unfold DS.step
    rw [h.dn, mayA, h.ar, h.nm, hasA, numA, h.fl, putA]
    simp [ha]
  rw [e] at hs ⊢
  exact ⟨rfl, h.nm, rfl, rfl, h.fa, h.dn, hs⟩
theorem Fa.good (h : Fa D wl a E dn k) : D.good wl.length :=
  ((good_new Unit).more (Nat.zero_le _)).put (k := 1) (l := wl) (m := 0) (h.fl.trans (by kernel_rfl)) (Int.le_refl _) (by omega) (Nat.le_refl _)
theorem fa_read {wb : ByteArray} (h : Fa D wb.data.toList a E false k) : readE { D with armed := -1 } baA = 0 ∧ readS { D with armed := -1 } baA = wb ∧ (DS.create { D with armed := -1 } bb).2 = 0 := by
  refine ⟨?_, ?_, ?_⟩
  · unfold readE
    show (if mayE [baA] D.down ≠ 0 then _ else if Maps.has D.names _ = false then _ else _) = _
    rw [h.dn, mayA, h.nm, hasA]
    rfl
  · unfold readS
    show (if mayE [baA] D.down ≠ 0 then _ else if Maps.has D.names _ = false then _ else bs (fileOf D.files (numOf D.names baA)).1) = _
    rw [h.file, h.dn, mayA, h.nm, hasA]
    exact ba_eq (by simp [bs])
  · unfold DS.create DS.step
    show (if mayE [bb] D.down ≠ 0 then _ else if _ then _ else _ : DS Unit × Int).2 = _
    rw [h.dn, mayB]
    rfl
theorem fa_calm (h : Fa D wl a E dn k) : (DS.small (k + 1) { D with armed := -1 }) := by
  obtain ⟨_, _, c, d, e, f, g⟩ := h.sm
  exact ⟨by show (-1 : Int) ≤ -1; omega, by show (-1 : Int) ≤ 9223372036854775807; omega, c, d, e, f, g⟩
theorem fa_dead (h : Fa D wl a E true k) : D.create bb = (D, 15) ∧ D.syncDir = (D, 15) ∧ (D.restart 0).down = false := by
  refine ⟨?_, ?_, rfl⟩
  · unfold DS.create
    rw [h.dn, mayBd]
    rfl
  · unfold DS.syncDir
    rw [h.dn]
    rfl
end
set_option maxRecDepth 100000 in
theorem list_down {H : Type} (w : World) (F : Foot) (D : DS H) (h : DiskAt w F D) (hd : D.down = true) : Calls Try.prog 19 #[.pointer (some ⟨F.p, 0, none⟩)] w fun e w' => e = .returned (.slice none 0 0) ∧ Below w.heap.size w w' := by
  obtain ⟨_, c1, _, _, _, _, _, c7⟩ := h.cells
  rw [hd] at c7
  clear h hd
  go_enter Try.func19, Try.ntmps19
  go_wp2_with fail
  go_ret
  exact ⟨rfl, brefl w⟩
theorem dk_list_down {H : Type} {w W : World} {p : Nat} {D : DS H} (h : Own w W p D) (hd : D.down = true) : Calls Try.prog 19 #[.pointer (some ⟨p, 0, none⟩)] W fun e w' => e = .returned (.slice none 0 0) ∧ Own w w' p D := by
  obtain ⟨F, rfl, h1, h2⟩ := h
  refine (list_down W F D h1 hd).mono fun e' w' hh => ⟨hh.1, F, rfl, h1.below hh.2, bcall h2.1 hh.2, h2.2⟩
set_option maxRecDepth 100000 in
theorem arm_bad {H : Type} (w : World) (F : Foot) (D : DS H) (n e : Int) (_ : DiskAt w F D) (hn : n < 0 ∨ (e ≠ 14 ∧ e ≠ 13 ∧ e ≠ 15)) : Calls Try.prog 17 #[.pointer (some ⟨F.p, 0, none⟩), .int .i64 n, .int .i64 e] w fun x w' => x = .returned (.int .i64 1) ∧ Below w.heap.size w w' := by
  have hcase : decide (n < 0) = true ∨ (decide (n < 0) = false ∧ (e != 14) = true ∧ (e != 13) = true ∧ (e != 15) = true) := by
    by_cases h : n < 0
    · exact .inl (by simpa using h)
    · obtain ⟨h1, h2, h3⟩ := hn.resolve_left h
      exact .inr ⟨by simpa using h, by simpa using h1, by simpa using h2, by simpa using h3⟩
  rcases hcase with hz | ⟨hz, q1, q2, q3⟩
  all_goals
    go_enter Try.func17, Try.ntmps17
    go_wp2_with fail
    try go_region
    all_goals
      go_wp2_with fail
      go_ret
      exact ⟨rfl, brefl w⟩
theorem dk_arm_no {H : Type} {w W : World} {p : Nat} {D : DS H} (h : Own w W p D) (n e : Int) (hn : n < 0) : Calls Try.prog 17 #[.pointer (some ⟨p, 0, none⟩), .int .i64 n, .int .i64 e] W fun x w' => x = .returned (.int .i64 1) ∧ Own w w' p D := by
  obtain ⟨F, rfl, h1, h2⟩ := h
  refine (arm_bad W F D n e h1 (.inl hn)).mono fun e' w' hh => ⟨hh.1, F, rfl, h1.below hh.2, bcall h2.1 hh.2, h2.2⟩
end Go.Proofs.Ytfiphjhpjaddcaa
