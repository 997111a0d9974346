/- How files are looked up. -/
import Derived.Test.YtfiphjhpjaddcaaClo
namespace Go.Proofs.Ytfiphjhpjaddcaa
open Go.RowKit Go.Maps

theorem fileElem_inv {H : Type} {v : Value} {z : DataW H × List MemPlace} (h : fileElem v = some z) : ∃ (s : ByteArray) (n : Int), v = .agg #[.string s, .int .i64 n] ∧ z = (.agg [.lit (.string s.data.toList), .lit (.int .i64 n)], []) ∧ s.size ≤ maxLen ∧ (Lit.int .i64 n).wf = true := by
  cases v with
  | agg cs =>
    obtain ⟨l⟩ := cs
    simp only [fileElem] at h
    split at h
    · rename_i s n
      split at h
      · rename_i hc
        injection h with h
        exact ⟨s, n, rfl, h.symm, hc.1, hc.2⟩
      · cases h
    · cases h
  | _ => cases h
/-- A file's bytes and how many of them are sure. -/
def filD {H : Type} : DataW H → List UInt8 × Int
  | .agg [.lit (.string l), .lit (.int _ n)] => (l, n)
  | _ => ([], 0)
def fil0 {H : Type} : DataW H := .agg [.lit (.string []), .lit (.int .i64 0)]
/-- The file of a number. -/
def fileOf {H : Type} (N : DataW H) (k : Int) : List UInt8 × Int := filD (N.atKey (.int .i64 k) fil0)
def bs (l : List UInt8) : ByteArray := ⟨l.toArray⟩
theorem zeroF (w : World) : (zeroValue 62).run Try.prog w = .ok (.agg #[.string ⟨#[]⟩, .int .i64 0]) w := by kernel_rfl
theorem files_look {H : Type} {w : World} {b n : Nat} {N : DataW H} (h : w.ownsMap Try.prog 3 fileElem b n N) (k : Int) (hk : (Lit.int .i64 k).wf = true) (c : Bool) :
    ∃ r, (Instr.lookup 55 (.map (some b)) (.int .i64 k) c).run Try.prog w = .ok r w ∧ (c = false → r = .agg #[.string (bs (fileOf N k).1), .int .i64 (fileOf N k).2]) ∧ (c = true → r = .tuple #[.agg #[.string (bs (fileOf N k).1), .int .i64 (fileOf N k).2], .bool (Maps.has N (.int .i64 k))]) ∧
      (bs (fileOf N k).1).size ≤ maxLen ∧ (Lit.int .i64 (fileOf N k).2).wf = true ∧ N.atKey (.int .i64 k) fil0 = .agg [.lit (.string (fileOf N k).1), .lit (.int .i64 (fileOf N k).2)] := by
  obtain ⟨es, clock, hb, Ft, _, rfl⟩ := h
  have hz0 : fileElem (H := H) (.agg #[.string ⟨#[]⟩, .int .i64 0]) = some (fil0, []) := fileElem_mk (s := ⟨#[]⟩) (n := 0) (Nat.zero_le _) (by decide)
  have key : ∀ (v : Value) (z : DataW H × List MemPlace) (D : DataW H), fileElem v = some z → D.atKey (.int .i64 k) fil0 = z.1 → v = .agg #[.string (bs (fileOf D k).1), .int .i64 (fileOf D k).2] ∧ (bs (fileOf D k).1).size ≤ maxLen ∧ (Lit.int .i64 (fileOf D k).2).wf = true ∧ D.atKey (.int .i64 k) fil0 = .agg [.lit (.string (fileOf D k).1), .lit (.int .i64 (fileOf D k).2)] := by
    intro v z D hv hat
    obtain ⟨s, m, rfl, rfl, hs, hw⟩ := fileElem_inv hv
    have e : fileOf D k = (s.data.toList, m) := by
      unfold fileOf
      rw [hat]
      rfl
    have eb : bs (fileOf D k).1 = s := by rw [e]; rfl
    rw [eb, e]
    exact ⟨rfl, hs, hw, hat⟩
  rcases Maps.fit_look c lawI Try.underlying55 (zeroF w) hb Ft (keyOf_int_mk Try.underlying3 hk) with ⟨hrun, _, hat⟩ | ⟨e0, y, _, _, hrun, hRv, hat, _⟩
  · have hh := Maps.has_false_of_atKey hat
    obtain ⟨a1, a2, a3, a4⟩ := key _ _ _ hz0 (hat fil0)
    refine ⟨_, hrun, fun hc => ?_, fun hc => ?_, a2, a3, a4⟩
    · subst hc; exact a1
    · subst hc; rw [hh, ← a1]; rfl
  · have hh := Maps.has_true_of_atKey hat
    obtain ⟨a1, a2, a3, a4⟩ := key _ _ _ hRv (hat fil0)
    refine ⟨_, hrun, fun hc => ?_, fun hc => ?_, a2, a3, a4⟩
    · subst hc; exact a1
    · subst hc; rw [hh, ← a1]; rfl
end Go.Proofs.Ytfiphjhpjaddcaa
