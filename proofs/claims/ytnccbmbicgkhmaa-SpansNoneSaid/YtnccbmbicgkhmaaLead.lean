/- Lead between states that are not there: its walk. -/
import Derived.Test.YtnccbmbicgkhmaaLoose
import Derived.OwnWalk
namespace Go.Proofs.Ytnccbmbicgkhmaa
open Go.RowKit

structure LRest (w : World) (v : Value) (ys : List Cpy) (d : Lo) (w' : World) : Prop where
  cp : CopyAt w' w.heap.size v ys
  ar : Sl w' w.heap.size 3 d.ar.A d.ar.n d.arcs
  fr : Sl w' w.heap.size 1 d.fr.A d.fr.n d.frees
  bel : Below w.heap.size w w'
theorem LRest.keep {w w' w'' : World} {v : Value} {ys : List Cpy} {d : Lo} (h : LRest w v ys d w') (hb : Below w'.heap.size w' w'') : LRest w v ys d w'' :=
  ⟨h.cp.below hb, h.ar.below (hb.mono h.bel.size), h.fr.below (hb.mono h.bel.size), bcall h.bel hb⟩
theorem s_keep {w' w'' : World} {a b c : Addr} {x y z : Value} (h : w'.cell? a = some x ∧ w'.cell? b = some y ∧ w'.cell? c = some z) (hb : Below w'.heap.size w' w'') : w''.cell? a = some x ∧ w''.cell? b = some y ∧ w''.cell? c = some z := by
  obtain ⟨h1, h2, h3⟩ := h
  exact ⟨(hb.cell (lt_of_cell h1).1).trans h1, (hb.cell (lt_of_cell h2).1).trans h2, (hb.cell (lt_of_cell h3).1).trans h3⟩
theorem s_grown {w' w'' : World} {n : Nat} {i j k : Nat} {x y z : Value} {row : Option Nat} (h : w'.cell? ⟨n, i, none⟩ = some x ∧ w'.cell? ⟨n, j, none⟩ = some y ∧ w'.cell? ⟨n, k, none⟩ = some z) (hg : w'.grownBy w'' row) (hr : some n ≠ row) : w''.cell? ⟨n, i, none⟩ = some x ∧ w''.cell? ⟨n, j, none⟩ = some y ∧ w''.cell? ⟨n, k, none⟩ = some z := by
  obtain ⟨h1, h2, h3⟩ := h
  have hl := (lt_of_cell h1).1
  exact ⟨(World.cell?_of_block (w := w') (hg.block n hl hr)).trans h1, (World.cell?_of_block (w := w') (hg.block n hl hr)).trans h2, (World.cell?_of_block (w := w') (hg.block n hl hr)).trans h3⟩
/-- What Lead answers there: a copy. -/
def LeadOf (w : World) (n : Nat) (x : Nat → Lo) (e : Ending) (w' : World) : Prop := ∃ v ys, e = .returned v ∧ CopyAt w' w.heap.size v ys ∧ ys.map Cpy.d = (List.range n).map x ∧ Below w.heap.size w w'
theorem hdr_at {w : World} {n off b : Nat} {x : Nat → Lo} (hc : ∀ j u, ((List.range n).flatMap fun i => (x i).hdr)[j]? = some u → w.cell? ⟨b, off + j, none⟩ = some u) {k : Nat} (hk : k < n) :
    w.cell? ⟨b, off + k * 3, none⟩ = some (.bool (x k).fin) ∧ w.cell? ⟨b, off + k * 3 + 1, none⟩ = some (.slice (x k).ar.A (x k).ar.n (x k).ar.c) ∧ w.cell? ⟨b, off + k * 3 + 2, none⟩ = some (.slice (x k).fr.A (x k).fr.n (x k).fr.c) := by
  have g : ∀ j, j < 3 → ((List.range n).flatMap fun i => (x i).hdr)[k * 3 + j]? = (x k).hdr[j]? := fun j hj => flat_at (fun i => (x i).hdr) 3 (fun _ => rfl) (List.range n) k j k (by simp [hk]) hj
  refine ⟨?_, ?_, ?_⟩
  · exact hc (k * 3 + 0) _ (g 0 (by omega))
  · rw [Nat.add_assoc]; exact hc (k * 3 + 1) _ (g 1 (by omega))
  · rw [Nat.add_assoc]; exact hc (k * 3 + 2) _ (g 2 (by omega))

set_option maxRecDepth 100000 in
set_option maxHeartbeats 8000000 in
theorem lead_bad (w : World) (A : Option Addr) (n c : Nat) (x : Nat → Lo) (hin : LooseIn w A n c x) (hn : n ≤ 40) (fr too lo hi : Int) (hbad : fr < 0 ∨ (n : Int) ≤ fr ∨ too < 0 ∨ (n : Int) ≤ too) :
    Calls Try.prog 13 #[.slice A n c, .int .i64 fr, .int .i64 too, .int .i64 lo, .int .i64 hi] w (LeadOf w n x) := by
  have HIN := Lib.hid hin
  have HBAD := Lib.hid hbad
  clear hin hbad
  go_enter Try.func13, Try.ntmps13
  go_wp2_with fail
  go_loopw [11, 23] (fun v i wr => ∃ (k : Nat) (ys : List Cpy), k ≤ n ∧ i = .int .i64 k ∧ CopyAt wr w.heap.size v ys ∧ ys.length = k ∧ ys.map Cpy.d = (List.range k).map x ∧ Below w.heap.size w wr) (fun _ i _ => n - (intOf i).toNat)
  case atStart => exact ⟨0, [], Nat.zero_le _, rfl, ⟨own_lit w 40 3 rfl (Nat.le_refl _), fun y hy => by simp at hy, fun y hy => by simp at hy⟩, rfl, rfl, bnew (brefl w) _⟩
  case round =>
    obtain ⟨k, ys, hk, rfl, hcp, hyl, hym, hbw⟩ := hrel
    by_cases hlt : k < n
    · obtain ⟨b, off, rfl, hb, hcell⟩ := HIN.out.sl.at_ hlt
      have hbw' := hbw.size
      obtain ⟨c0, c1, c2⟩ := hdr_at (w := wr) (off := off) (b := b) (fun j u hu => (hbw.cell (p := ⟨b, off + j, none⟩) hb).trans (hcell j u hu)) hlt
      obtain ⟨ha, hao⟩ := HIN.out.ar k hlt
      obtain ⟨hf, hfo⟩ := HIN.out.fr k hlt
      have HREST := Lib.hid (show LRest w u11 ys (x k) wr from ⟨hcp, ha.below hbw, hf.below hbw, hbw⟩)
      obtain ⟨d, hd⟩ : ∃ d, x k = d := ⟨_, rfl⟩
      rw [hd] at c0 c1 c2 ha hf hao hfo HREST
      have HAO := Lib.hid hao
      have HFO := Lib.hid hfo
      have HD := Lib.hid hd
      have HYL := Lib.hid hyl
      have HYM := Lib.hid hym
      have HCP := Lib.hid hcp
      have hbwr : b < wr.heap.size := by omega
      have hA3 : d.ar.n ≤ maxLen ∧ d.ar.n * 24 ≤ 140737488355328 := by
        obtain ⟨p1, p2, p3, _⟩ := hao
        unfold reachBytes at p3
        exact ⟨by omega, by omega⟩
      have hF3 : d.fr.n ≤ maxLen ∧ d.fr.n * 8 ≤ 140737488355328 := by
        obtain ⟨p1, p2, p3, _⟩ := hfo
        unfold reachBytes at p3
        exact ⟨by omega, by omega⟩
      have HNE : Hid (some wr.heap.size ≠ u11.ownBlock) := by
        intro e
        have := (hcp.own.lt _ e.symm).2
        omega
      have hy40 : ys.length ≤ 40 := by omega
      have HA3 := Lib.hid hA3
      have HF3 := Lib.hid hF3
      clear hcell ha hf hao hfo hd hyl hym hcp hbw hA3 hF3 hb
      go_wp2_with fail
      go_region_held3 (fun w' => w'.cell? ⟨wr.heap.size, 0, none⟩ = some (.bool d.fin) ∧ w'.cell? ⟨wr.heap.size, 1, none⟩ = some (.slice d.ar.A d.ar.n d.ar.c) ∧ w'.cell? ⟨wr.heap.size, 2, none⟩ = some (.slice d.fr.A d.fr.n d.fr.c))
        (first
          | (refine s_keep ?_ (bnew (brefl _) _); assumption)
          | (refine s_keep ?_ (bnew (brefl _) _).drew; assumption)
          | (refine s_keep ?_ hbA; assumption)
          | (refine s_keep ?_ hbF; assumption)
          | (refine s_grown ?_ hg3 HNE.out; assumption)
          | (refine ⟨?_, ?_, ?_⟩ <;> simp <;> done))
        (first
          | (refine step_dup (by rfl) (.tmp 30) (.tmp 32) _ (by rfl) el_arc (by rfl) (by rfl) (LRest.keep HREST.out (by repeat (first | exact brefl _ | refine Below.drew ?_ | refine bnew ?_ _))).ar (arcs_one d) HA3.out.1 HA3.out.2 ?_; intro A1 c1' wA hcA hnA hcpA hbA; have HRA := Lib.hid ((LRest.keep HREST.out (by repeat (first | exact brefl _ | refine Below.drew ?_ | refine bnew ?_ _))).keep hbA); have HCA := Lib.hid hcpA)
          | (refine step_dup (by rfl) (.tmp 34) (.tmp 36) _ (by rfl) el_int (by rfl) (by rfl) (LRest.keep HRA.out (by repeat (first | exact brefl _ | refine Below.drew ?_ | refine bnew ?_ _))).fr (frees_one d) HF3.out.1 HF3.out.2 ?_; intro A2 c2' wF hcF hnF hcpF hbF; have HRF := Lib.hid ((LRest.keep HRA.out (by repeat (first | exact brefl _ | refine Below.drew ?_ | refine bnew ?_ _))).keep hbF); have HCAF := Lib.hid ((HCA.out.below (by repeat (first | exact brefl _ | refine Below.drew ?_ | refine bnew ?_ _))).below hbF); have HCF := Lib.hid hcpF)
          | (refine step_pushw w _ _ (by rfl) (.tmp 27) (.tmp 39) _ (by rfl) el_loose _ _ _ (by rfl) (LRest.keep HRF.out (by repeat (first | exact brefl _ | refine Below.drew ?_ | refine bnew ?_ _))).cp.own (m := 1) (by rfl) (heap_alloc_new _ _) (by rfl) (by simp [Value.oneCell']) (by omega) (by unfold maxLen; omega) (by omega) (LRest.keep HRF.out (by repeat (first | exact brefl _ | refine Below.drew ?_ | refine bnew ?_ _))).bel.size (LRest.keep HRF.out (by repeat (first | exact brefl _ | refine Below.drew ?_ | refine bnew ?_ _))).bel ?_; intro g cap w3 hown3 hb3 hg3; have HFIN := Lib.hid (CopyAt.push (LRest.keep HRF.out (by repeat (first | exact brefl _ | refine Below.drew ?_ | refine bnew ?_ _))).cp ⟨d, A1, c1', A2, c2'⟩ ⟨HCAF.out.below (by repeat (first | exact brefl _ | refine Below.drew ?_ | refine bnew ?_ _)), hcA⟩ ⟨HCF.out.below (by repeat (first | exact brefl _ | refine Below.drew ?_ | refine bnew ?_ _)), hcF⟩ hown3 hg3)))
      all_goals
        go_wp2_with fail
        go_roundw
        case rel =>
          refine ⟨k + 1, ys ++ [⟨d, A1, c1', A2, c2'⟩], by omega, by go_num, HFIN.out, by rw [List.length_append, HYL.out]; rfl, ?_, hb3⟩
          rw [List.map_append, HYM.out, List.range_succ, List.map_append]
          show List.map x (List.range k) ++ [d] = List.map x (List.range k) ++ [x k]
          rw [HD.out]
        case measure => simp [intOf]; omega
    · obtain rfl : k = n := by omega
      have HF := Lib.hid (show LeadOf w k x (.returned u11) wr from ⟨u11, ys, rfl, hcp, hym, hbw⟩)
      have hb := HBAD.out
      clear hcp hyl hym hbw HIN hlt
      by_cases f1 : fr < 0
      · go_wp2_with fail
        go_ret
        exact HF.out
      by_cases f2 : (k : Int) ≤ fr
      · go_wp2_with fail
        go_ret
        exact HF.out
      by_cases f3 : too < 0
      · go_wp2_with fail
        go_ret
        exact HF.out
      · have f4 : (k : Int) ≤ too := by omega
        go_wp2_with fail
        go_ret
        exact HF.out
end Go.Proofs.Ytnccbmbicgkhmaa
