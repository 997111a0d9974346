/- Stores into a disk's maps. -/
import Derived.Test.YtfiphjhpjaddcaaMay
import Derived.Maps.Own
import Derived.Deep.RegionHeld3
import Derived.StringKeys
namespace Go.Proofs.Ytfiphjhpjaddcaa
open Go.RowKit Go.Maps

theorem step_store {H : Type} {P : Program} {ops : Array Oper} {o : Oper} {a : Act} {w : World} {Kt : Act → World → Prop} {Q : Exit → Act → World → Prop} {E : Prop} (hgd : o.guard = none) (m x v : Operand) (t : TypeId) (hop : o.op = Op.mapUpdate t m x v)
    (k e : TypeId) (K : Keyed P k) (ht : P.underlying t = some (.map k e)) (R : Value → Option (DataW H × List MemPlace)) (b n : Nat) (D : DataW H)
    (hm : a.eval m = .map (some b)) (hown : w.ownsMap P k R b n D) (hn : n < maxLen) {key val : Value} {kl : Lit} (hx : a.eval x = key) (hv : a.eval v = val) (hkey : keyOf P k key = some kl)
    {d : DataW H} {ps : List MemPlace} (hval : R val = some (d, ps))
    (h : ∀ w', w'.ownsMap P k R b (n + 1) (D.put kl d) → w.grownBy w' (some b) → Kt (a.put o.dst undef) w') :
    if Region.wanted o (yielded ops a.tmps) = true then Oper.wp P o a w Kt Q else E := by
  have hw : Region.wanted o (yielded ops a.tmps) = true := by simp [Region.wanted, hgd]
  rw [if_pos hw]
  obtain ⟨w', hrun, r1, r2⟩ := hown.store K ht hn hkey hval
  unfold Oper.wp
  simp [execOp, hop, hm, hx, hv, hrun, Result.andThen]
  exact h w' r1 r2.grown
theorem map_grown {H : Type} {w w' : World} {b c k n : Nat} {R : Value → Option (DataW H × List MemPlace)} {D : DataW H} (h : w.ownsMap Try.prog k R b n D) (hg : w.grownBy w' (some c)) (hne : b ≠ c) : w'.ownsMap Try.prog k R b n D := by
  obtain ⟨es, clock, h1, h2, h3, h4⟩ := h
  exact ⟨es, clock, (hg.block b (Array.getElem?_eq_some_iff.1 h1).1 (by simpa using hne)).trans h1, h2, h3, h4⟩
theorem DiskAt.names' {H : Type} {w w' : World} {F : Foot} {D : DS H} (h : DiskAt w F D) {n : Nat} {N : DataW H} (hn : n ≤ D.cap + 1) (ho : w'.ownsMap Try.prog 9 (plainElem Try.prog 3) F.nb n N) (hg : w.grownBy w' (some F.nb)) : DiskAt w' F { D with names := N, cap := D.cap + 1 } := by
  obtain ⟨blk, ⟨n1, l1, f1⟩, ⟨n2, l2, f2⟩, ⟨n3, l3, f3⟩, a1, a2, a3⟩ := h
  exact ⟨(hg.block F.p (Array.getElem?_eq_some_iff.1 blk).1 (by have := map_ne_cells f2 blk; simp; exact fun e => this e.symm)).trans blk, ⟨n1, by show _ ≤ _ + 1; omega, map_grown f1 hg a1⟩, ⟨n, hn, ho⟩, ⟨n3, by show _ ≤ _ + 1; omega, map_grown f3 hg (Ne.symm a3)⟩, a1, a2, a3⟩
theorem DiskAt.files' {H : Type} {w w' : World} {F : Foot} {D : DS H} (h : DiskAt w F D) {n : Nat} {N : DataW H} (hn : n ≤ D.cap + 1) (ho : w'.ownsMap Try.prog 3 fileElem F.fb n N) (hg : w.grownBy w' (some F.fb)) : DiskAt w' F { D with files := N, cap := D.cap + 1 } := by
  obtain ⟨blk, ⟨n1, l1, f1⟩, ⟨n2, l2, f2⟩, ⟨n3, l3, f3⟩, a1, a2, a3⟩ := h
  exact ⟨(hg.block F.p (Array.getElem?_eq_some_iff.1 blk).1 (by have := map_ne_cells f1 blk; simp; exact fun e => this e.symm)).trans blk, ⟨n, hn, ho⟩, ⟨n2, by show _ ≤ _ + 1; omega, map_grown f2 hg (Ne.symm a1)⟩, ⟨n3, by show _ ≤ _ + 1; omega, map_grown f3 hg (Ne.symm a2)⟩, a1, a2, a3⟩
theorem Fr.grown {F : Foot} {a w w' : World} {c : Nat} (h : Fr F a w) (hg : w.grownBy w' (some c)) (hc : c = F.fb ∨ c = F.nb ∨ c = F.kb) : Fr F a w' :=
  h.trans ⟨hg.os, hg.tape, hg.output, hg.size, fun k hk _ h1 h2 h3 => hg.block k hk (by simp; intro e; subst e; rcases hc with e | e | e <;> contradiction)⟩
theorem lawS : Keyed Try.prog 9 := string_keyed Try.underlying9
theorem lawI : Keyed Try.prog 3 := int_keyed Try.underlying3

/-- What Create makes of a disk. -/
def DS.create {H : Type} (D : DS H) (s : ByteArray) : DS H × Int :=
  if mayE [s] D.down ≠ 0 then (D, mayE [s] D.down) else if D.step.2 ≠ 0 then D.step else
    ({ D.step.1 with last := D.last + 1, files := D.files.put (.int .i64 (D.last + 1)) (.agg [.lit (.string []), .lit (.int .i64 0)]), names := D.names.put (.string s.data.toList) (.lit (.int .i64 (D.last + 1))), cap := D.cap + 2 }, 0)
end Go.Proofs.Ytfiphjhpjaddcaa
