/- A disk of the call's own, for the laws' walks; bounds that the calls keep. -/
import Derived.Test.YtfiphjhpjaddcaaRestart
namespace Go.Proofs.Ytfiphjhpjaddcaa
open Go.RowKit Go.Maps Go.Sort

/-- A disk at block p that the call has made itself: nothing that lay ahead of the call has turned. -/
def Own {H : Type} (w W : World) (p : Nat) (D : DS H) : Prop :=
  ∃ F : Foot, F.p = p ∧ DiskAt W F D ∧ Below w.heap.size w W ∧ w.heap.size ≤ F.p ∧ w.heap.size ≤ F.fb ∧ w.heap.size ≤ F.nb ∧ w.heap.size ≤ F.kb
section
variable {H : Type} {w W W' : World} {p : Nat} {D D' : DS H}
theorem Own.below (h : Own w W p D) : Below w.heap.size w W := by
  obtain ⟨F, _, _, h, _⟩ := h
  exact h
theorem Own.on (h : Own w W p D) (hb : Below W.heap.size W W') : Own w W' p D := by
  obtain ⟨F, e, h1, h2, h3⟩ := h
  exact ⟨F, e, h1.below hb, bcall h2 hb, h3⟩
theorem Own.by_ (h : Own w W p D) {Q : Foot → Ending → World → Prop} {x : Value} {f : Nat} {av : Array Value} (hc : ∀ F : Foot, F.p = p → DiskAt W F D → Calls Try.prog f av W (Q F)) (hq : ∀ F e w', Q F e w' → e = .returned x ∧ DiskAt w' F D' ∧ Fr F W w') :
    Calls Try.prog f av W fun e w' => e = .returned x ∧ Own w w' p D' := by
  obtain ⟨F, e, h1, h2, h3, h4, h5, h6⟩ := h
  refine (hc F e h1).mono fun e' w' hh => ?_
  obtain ⟨r1, r2, r3⟩ := hq F e' w' hh
  exact ⟨r1, F, e, r2, r3.under h2 h2.size h3 h4 h5 h6, h3, h4, h5, h6⟩
theorem Own.by_new (h : Own w W p D) {x : Value} {f : Nat} {av : Array Value} (hc : ∀ F : Foot, F.p = p → DiskAt W F D → Calls Try.prog f av W fun e w' => e = .returned x ∧ NewFoot W F D' w' ∧ Fr F W w') :
    Calls Try.prog f av W fun e w' => e = .returned x ∧ Own w w' p D' := by
  obtain ⟨F, e, h1, h2, h3, h4, h5, h6⟩ := h
  refine (hc F e h1).mono fun e' w' hh => ?_
  obtain ⟨r1, ⟨F', q1, q2, q3, q4, q5⟩, r3⟩ := hh
  have hs := h2.size
  exact ⟨r1, F', q1.trans e, q5, r3.under h2 h2.size h3 h4 h5 h6, by rw [q1]; exact h3, by rcases q2 with q | q <;> omega, by rcases q3 with q | q <;> omega, by rcases q4 with q | q <;> omega⟩
theorem dk_new (H : Type) {w W : World} (hb : Below w.heap.size w W) : Calls Try.prog 8 #[] W fun e w' => e = .returned (.pointer (some ⟨W.heap.size + 3, 0, none⟩)) ∧ Own w w' (W.heap.size + 3) (DS.new H) := by
  refine (new_any H W).mono fun e w' hh => ?_
  have hs := hb.size
  exact ⟨hh.1, _, rfl, hh.2.1, bcall hb hh.2.2, by show _ ≤ W.heap.size + 3; omega, by show _ ≤ W.heap.size; omega, by show _ ≤ W.heap.size + 1; omega, by show _ ≤ W.heap.size + 2; omega⟩
theorem dk_create (h : Own w W p D) (hf : D.fits) (s : ByteArray) (hs : s.size ≤ maxLen) : Calls Try.prog 10 #[.pointer (some ⟨p, 0, none⟩), .string s] W fun e w' => e = .returned (.int .i64 (D.create s).2) ∧ Own w w' p (D.create s).1 :=
  h.by_ (fun F e hd => by subst e; exact create_any W F D s hd hf hs) fun _ _ _ h => h
theorem dk_append (h : Own w W p D) (hf : D.fits) (s x : ByteArray) (hs : s.size ≤ maxLen) (hz : (fileOf D.files (numOf D.names s)).1.length + x.size ≤ 9223372036854775807) : Calls Try.prog 11 #[.pointer (some ⟨p, 0, none⟩), .string s, .string x] W fun e w' => e = .returned (.int .i64 (D.append s x).2) ∧ Own w w' p (D.append s x).1 :=
  h.by_ (fun F e hd => by subst e; exact append_any W F D s x hd hf hs hz) fun _ _ _ h => h
theorem dk_sync (h : Own w W p D) (hf : D.fits) (s : ByteArray) (hs : s.size ≤ maxLen) : Calls Try.prog 12 #[.pointer (some ⟨p, 0, none⟩), .string s] W fun e w' => e = .returned (.int .i64 (D.sync s).2) ∧ Own w w' p (D.sync s).1 :=
  h.by_ (fun F e hd => by subst e; exact sync_any W F D s hd hf hs) fun _ _ _ h => h
theorem dk_rename (h : Own w W p D) (hf : D.fits) (s x : ByteArray) (hs : s.size ≤ maxLen) (hx : x.size ≤ maxLen) : Calls Try.prog 14 #[.pointer (some ⟨p, 0, none⟩), .string s, .string x] W fun e w' => e = .returned (.int .i64 (D.rename s x).2) ∧ Own w w' p (D.rename s x).1 :=
  h.by_ (fun F e hd => by subst e; exact rename_any W F D s x hd hf hs hx) fun _ _ _ h => h
theorem dk_remove (h : Own w W p D) (hf : D.fits) (s : ByteArray) (hs : s.size ≤ maxLen) : Calls Try.prog 24 #[.pointer (some ⟨p, 0, none⟩), .string s] W fun e w' => e = .returned (.int .i64 (D.remove s).2) ∧ Own w w' p (D.remove s).1 :=
  h.by_ (fun F e hd => by subst e; exact remove_any W F D s hd hf hs) fun _ _ _ h => h
theorem dk_syncDir (h : Own w W p D) (hf : D.fits) : Calls Try.prog 13 #[.pointer (some ⟨p, 0, none⟩)] W fun e w' => e = .returned (.int .i64 D.syncDir.2) ∧ Own w w' p D.syncDir.1 :=
  h.by_new fun F e hd => by subst e; exact syncDir_any W F D hd hf
theorem dk_restart (h : Own w W p D) (loss : Int) (hc : D.cap ≤ 1099511627776) (hsure : ∀ k, 0 ≤ (fileOf D.files k).2 ∧ (fileOf D.files k).1.length ≤ 4611686018427387904) : Calls Try.prog 15 #[.pointer (some ⟨p, 0, none⟩), .int .i64 loss] W fun e w' => e = .returned (.int .i64 0) ∧ Own w w' p (D.restart loss) :=
  h.by_new fun F e hd => by subst e; exact restart_any W F D loss hd hc hsure
theorem dk_arm (h : Own w W p D) (n e : Int) (hn : 0 ≤ n) (he : e = 14 ∨ e = 13 ∨ e = 15) : Calls Try.prog 17 #[.pointer (some ⟨p, 0, none⟩), .int .i64 n, .int .i64 e] W fun x w' => x = .returned (.int .i64 0) ∧ Own w w' p { D with armed := n, fault := e } :=
  h.by_ (fun F e' hd => by subst e'; exact arm_any W F D n e hd hn he) fun _ _ _ h => h
theorem dk_calm (h : Own w W p D) : Calls Try.prog 20 #[.pointer (some ⟨p, 0, none⟩)] W fun x w' => x = .returned (.tuple #[]) ∧ Own w w' p { D with armed := -1 } :=
  h.by_ (fun F e' hd => by subst e'; exact calm_any W F D hd) fun _ _ _ h => h
theorem dk_read (h : Own w W p D) (s : ByteArray) (hs : s.size ≤ maxLen) : Calls Try.prog 16 #[.pointer (some ⟨p, 0, none⟩), .string s] W fun e w' => e = .returned (.tuple #[.string (readS D s), .int .i64 (readE D s)]) ∧ Own w w' p D := by
  obtain ⟨F, rfl, h1, h2⟩ := h
  refine (read_any W F D s h1 hs).mono fun e' w' hh => ⟨hh.1, F, rfl, h1.below hh.2, bcall h2.1 hh.2, h2.2⟩
theorem dk_down (h : Own w W p D) : Calls Try.prog 18 #[.pointer (some ⟨p, 0, none⟩)] W fun e w' => e = .returned (.bool D.down) ∧ Own w w' p D := by
  obtain ⟨F, rfl, h1, h2⟩ := h
  refine (down_any W F D h1).mono fun e' w' hh => ⟨hh.1, F, rfl, h1.below hh.2, bcall h2.1 hh.2, h2.2⟩
theorem dk_steps (h : Own w W p D) : Calls Try.prog 25 #[.pointer (some ⟨p, 0, none⟩)] W fun e w' => e = .returned (.int .i64 D.steps) ∧ Own w w' p D := by
  obtain ⟨F, rfl, h1, h2⟩ := h
  refine (steps_any W F D h1).mono fun e' w' hh => ⟨hh.1, F, rfl, hh.2 ▸ h1, hh.2 ▸ h2.1, h2.2⟩
end

/-- A disk behind n changes or fewer. -/
structure DS.small {H : Type} (n : Nat) (D : DS H) : Prop where
  a0 : -1 ≤ D.armed
  a1 : D.armed ≤ 9223372036854775807
  s0 : 0 ≤ D.steps
  s1 : D.steps ≤ n
  l0 : 0 ≤ D.last
  l1 : D.last ≤ n
  c1 : D.cap ≤ 2 * n
section
variable {H : Type} {n : Nat} {D : DS H}
theorem DS.small.fits (h : D.small n) (hn : n ≤ 274877906944) : D.fits := by
  obtain ⟨a, b, c, d, e, f, g⟩ := h
  exact ⟨a, b, c, by omega, e, by omega, by omega⟩
theorem DS.small.more (h : D.small n) {m : Nat} (hm : n ≤ m) : D.small m := by
  obtain ⟨a, b, c, d, e, f, g⟩ := h
  exact ⟨a, b, c, by omega, e, by omega, by omega⟩
theorem small_new (H : Type) : (DS.new H).small 0 := ⟨by show (-1 : Int) ≤ -1; omega, by show (-1 : Int) ≤ 9223372036854775807; omega, by show (0 : Int) ≤ 0; omega, by show (0 : Int) ≤ ((0 : Nat) : Int); omega, by show (0 : Int) ≤ 0; omega, by show (0 : Int) ≤ ((0 : Nat) : Int); omega, by show 0 ≤ 2 * 0; omega⟩
theorem DS.small.step (h : D.small n) : -1 ≤ D.step.1.armed ∧ D.step.1.armed ≤ 9223372036854775807 ∧ 0 ≤ D.step.1.steps ∧ D.step.1.steps ≤ n + 1 ∧ D.step.1.last = D.last ∧ D.step.1.cap = D.cap := by
  obtain ⟨a, b, c, d, e, f, g⟩ := h
  unfold DS.step
  split
  · exact ⟨Int.le_refl _, by show (-1 : Int) ≤ _; omega, c, by show D.steps ≤ _; omega, rfl, rfl⟩
  · exact ⟨by show _ ≤ max _ _; omega, by show max _ _ ≤ (_ : Int); omega, by show 0 ≤ D.steps + 1; omega, by show D.steps + 1 ≤ _; omega, rfl, rfl⟩
theorem DS.small.step' (h : D.small n) : D.step.1.small (n + 1) := by
  obtain ⟨x1, x2, x3, x4, x5, x6⟩ := h.step
  obtain ⟨a, b, c, d, e, f, g⟩ := h
  exact ⟨x1, x2, x3, by omega, by omega, by omega, by omega⟩
theorem DS.small.create (h : D.small n) (s : ByteArray) : (D.create s).1.small (n + 1) := by
  obtain ⟨x1, x2, x3, x4, x5, x6⟩ := h.step
  unfold DS.create
  split
  · exact h.more (by omega)
  · split
    · exact h.step'
    · obtain ⟨a, b, c, d, e, f, g⟩ := h
      exact ⟨x1, x2, x3, by show D.step.1.steps ≤ _; omega, by show 0 ≤ D.last + 1; omega, by show D.last + 1 ≤ _; omega, by show D.cap + 2 ≤ _; omega⟩
theorem DS.small.change (h : D.small n) (s : ByteArray) (G : List UInt8 × Int → List UInt8 × Int) : (D.change s G).1.small (n + 1) := by
  obtain ⟨x1, x2, x3, x4, x5, x6⟩ := h.step
  unfold DS.change
  split
  · exact h.more (by omega)
  · split
    · exact h.more (by omega)
    · split
      · exact h.step'
      · obtain ⟨a, b, c, d, e, f, g⟩ := h
        refine ⟨x1, x2, x3, by show D.step.1.steps ≤ _; omega, by show 0 ≤ D.step.1.last; omega, by show D.step.1.last ≤ _; omega, ?_⟩
        simp only
        omega
theorem DS.small.append (h : D.small n) (s x : ByteArray) : (D.append s x).1.small (n + 1) := h.change s _
theorem DS.small.sync (h : D.small n) (s : ByteArray) : (D.sync s).1.small (n + 1) := h.change s _
theorem DS.small.rename (h : D.small n) (s x : ByteArray) : (D.rename s x).1.small (n + 1) := by
  obtain ⟨x1, x2, x3, x4, x5, x6⟩ := h.step
  unfold DS.rename
  split
  · exact h.more (by omega)
  · split
    · exact h.more (by omega)
    · split
      · exact h.step'
      · obtain ⟨a, b, c, d, e, f, g⟩ := h
        refine ⟨x1, x2, x3, by show D.step.1.steps ≤ _; omega, by show 0 ≤ D.step.1.last; omega, by show D.step.1.last ≤ _; omega, ?_⟩
        simp only
        omega
theorem DS.small.remove (h : D.small n) (s : ByteArray) : (D.remove s).1.small (n + 1) := by
  obtain ⟨x1, x2, x3, x4, x5, x6⟩ := h.step
  unfold DS.remove
  split
  · exact h.more (by omega)
  · split
    · exact h.more (by omega)
    · split
      · exact h.step'
      · obtain ⟨a, b, c, d, e, f, g⟩ := h
        refine ⟨x1, x2, x3, by show D.step.1.steps ≤ _; omega, by show 0 ≤ D.step.1.last; omega, by show D.step.1.last ≤ _; omega, ?_⟩
        simp only
        omega
theorem DS.small.syncDir (h : D.small n) : D.syncDir.1.small (n + 1) := by
  obtain ⟨x1, x2, x3, x4, x5, x6⟩ := h.step
  unfold DS.syncDir
  split
  · exact h.more (by omega)
  · split
    · exact h.step'
    · obtain ⟨a, b, c, d, e, f, g⟩ := h
      exact ⟨x1, x2, x3, by show D.step.1.steps ≤ _; omega, by show 0 ≤ D.step.1.last; omega, by show D.step.1.last ≤ _; omega, by show D.step.1.cap ≤ _; omega⟩
end

/-- A disk whose files are sound, and no longer than L. -/
structure DS.good {H : Type} (L : Nat) (D : DS H) : Prop where
  fm : IsMap D.files
  fs : ∀ k, 0 ≤ (fileOf D.files k).2 ∧ (fileOf D.files k).2 ≤ ((fileOf D.files k).1.length : Int) ∧ (fileOf D.files k).1.length ≤ L
theorem key_ne {j k : Int} (h : j ≠ k) : (Lit.int .i64 j) ≠ Lit.int .i64 k := by simpa using h
theorem fileOf_put {H : Type} {M : DataW H} (hm : IsMap M) (k j : Int) (l : List UInt8) (m : Int) : fileOf (M.put (.int .i64 k) (.agg [.lit (.string l), .lit (.int .i64 m)])) j = if j = k then (l, m) else fileOf M j := by
  by_cases h : j = k
  · subst h
    rw [if_pos rfl]
    unfold fileOf
    rw [atKey_put_same hm (by simp [Go.WideAt.IsKeyLit])]
    rfl
  · rw [if_neg h]
    unfold fileOf
    rw [atKey_put_other (key_ne h)]
section
variable {H : Type} {L : Nat} {D : DS H}
theorem step_keeps (D : DS H) : D.step.1.files = D.files ∧ D.step.1.names = D.names ∧ D.step.1.kept = D.kept := by
  unfold DS.step
  split <;> exact ⟨rfl, rfl, rfl⟩
theorem DS.good.of_files {D' : DS H} (h : D.good L) (e : D'.files = D.files) : D'.good L := ⟨by rw [e]; exact h.fm, by rw [e]; exact h.fs⟩
theorem good_new (H : Type) : (DS.new H).good 0 := ⟨⟨[], rfl⟩, fun _ => ⟨Int.le_refl _, Int.le_refl _, Nat.le_refl _⟩⟩
theorem DS.good.more (h : D.good L) {M : Nat} (hM : L ≤ M) : D.good M := ⟨h.fm, fun k => by
  obtain ⟨a, b, c⟩ := h.fs k
  exact ⟨a, b, by omega⟩⟩
theorem DS.good.put (h : D.good L) {D' : DS H} {k : Int} {l : List UInt8} {m : Int} (e : D'.files = D.files.put (.int .i64 k) (.agg [.lit (.string l), .lit (.int .i64 m)])) (h0 : 0 ≤ m) (h1 : m ≤ (l.length : Int)) (h2 : l.length ≤ L) : D'.good L :=
  ⟨by rw [e]; exact h.fm.put _ _, fun j => by
    rw [e, fileOf_put h.fm]
    split
    · exact ⟨h0, h1, h2⟩
    · exact h.fs j⟩
theorem DS.good.create (h : D.good L) (s : ByteArray) : (D.create s).1.good L := by
  unfold DS.create
  split
  · exact h
  · split
    · exact h.of_files (step_keeps D).1
    · exact h.put rfl (Int.le_refl _) (Int.le_refl _) (Nat.zero_le _)
theorem DS.good.append (h : D.good L) (s x : ByteArray) : (D.append s x).1.good (L + x.size) := by
  unfold DS.append DS.change
  split
  · exact h.more (by omega)
  · split
    · exact h.more (by omega)
    · split
      · exact (h.of_files (step_keeps D).1).more (by omega)
      · obtain ⟨a, b, c⟩ := h.fs (numOf D.names s)
        refine (h.more (Nat.le_add_right L x.size)).put (k := numOf D.names s) (l := (fileOf D.files (numOf D.names s)).1 ++ x.data.toList) (m := (fileOf D.files (numOf D.names s)).2) ?_ a ?_ ?_
        · rfl
        · rw [List.length_append]; omega
        · rw [List.length_append, Array.length_toList]; show _ + x.size ≤ _; omega
theorem DS.good.sync (h : D.good L) (s : ByteArray) : (D.sync s).1.good L := by
  unfold DS.sync DS.change
  split
  · exact h
  · split
    · exact h
    · split
      · exact h.of_files (step_keeps D).1
      · obtain ⟨a, b, c⟩ := h.fs (numOf D.names s)
        exact h.put (k := numOf D.names s) (l := (fileOf D.files (numOf D.names s)).1) (m := (fileOf D.files (numOf D.names s)).1.length) rfl (by omega) (Int.le_refl _) c
theorem DS.good.rename (h : D.good L) (s x : ByteArray) : (D.rename s x).1.good L := by
  unfold DS.rename
  split
  · exact h
  · split
    · exact h
    · split
      · exact h.of_files (step_keeps D).1
      · exact h.of_files (step_keeps D).1
theorem DS.good.syncDir (h : D.good L) : D.syncDir.1.good L := by
  unfold DS.syncDir
  split
  · exact h
  · split
    · exact h.of_files (step_keeps D).1
    · exact h.of_files (step_keeps D).1
theorem DS.good.sure (h : D.good L) (hL : L ≤ 4611686018427387904) : ∀ k, 0 ≤ (fileOf D.files k).2 ∧ (fileOf D.files k).1.length ≤ 4611686018427387904 := fun k => by
  obtain ⟨a, _, c⟩ := h.fs k
  exact ⟨a, by omega⟩
end
end Go.Proofs.Ytfiphjhpjaddcaa
