/- The law SpansNone: its walk. -/
import Derived.Test.YtnccbmbicgkhmaaLead
import Derived.Test.YtnccbmbicgkhmaaAw
namespace Go.Proofs.Ytnccbmbicgkhmaa
open Go.RowKit

theorem arc_at (d : Lo) {k : Nat} (hk : k < d.ar.n) : ∃ a b c : Int, d.arcs[k * 3]? = some (.int .i64 a) ∧ d.arcs[k * 3 + 1]? = some (.int .i64 b) ∧ d.arcs[k * 3 + 2]? = some (.int .i64 c) := by
  have g : ∀ j, j < 3 → d.arcs[k * 3 + j]? = (d.arc k)[j]? := fun j hj => flat_at d.arc 3 (fun _ => rfl) (List.range d.ar.n) k j k (by simp [hk]) hj
  exact ⟨_, _, _, g 0 (by omega), g 1 (by omega), g 2 (by omega)⟩

/-- What the two lists hold, state by state. -/
structure Pair (w : World) (b off g : Nat) (i : Nat) (d : Lo) (y : Cpy) : Prop where
  lim : d.ar.n ≤ 140737488351232
  n0 : w.cell? ⟨b, off + i * 3, none⟩ = some (.bool d.fin)
  n1 : w.cell? ⟨b, off + i * 3 + 1, none⟩ = some (.slice d.ar.A d.ar.n d.ar.c)
  n2 : w.cell? ⟨b, off + i * 3 + 2, none⟩ = some (.slice d.fr.A d.fr.n d.fr.c)
  m0 : w.cell? ⟨g, i * 3, none⟩ = some (.bool d.fin)
  m1 : w.cell? ⟨g, i * 3 + 1, none⟩ = some (.slice y.A d.ar.n y.c)
  m2 : w.cell? ⟨g, i * 3 + 2, none⟩ = some (.slice y.F d.fr.n y.e)
  arc : 0 < d.ar.n → ∃ b1 o1 g1, d.ar.A = some ⟨b1, o1, none⟩ ∧ y.A = some ⟨g1, 0, none⟩ ∧ ∀ j u, d.arcs[j]? = some u → w.cell? ⟨b1, o1 + j, none⟩ = some u ∧ w.cell? ⟨g1, j, none⟩ = some u
theorem pair_of {w w2 : World} {b off g n c cm : Nat} {x : Nat → Lo} {ys : List Cpy} (hin : LooseIn w (some ⟨b, off, none⟩) n c x) (hb : Below w.heap.size w w2) (hc : CopyAt w2 w.heap.size (.slice (some ⟨g, 0, none⟩) ys.length cm) ys) (hym : ys.map Cpy.d = (List.range n).map x) {i : Nat} (hi : i < n) :
    ∃ y, Pair w2 b off g i (x i) y := by
  have hyl : ys.length = n := by have := congrArg List.length hym; simpa using this
  obtain ⟨y, hy⟩ : ∃ y, ys[i]? = some y := ⟨ys[i]'(by omega), List.getElem?_eq_getElem _⟩
  have hyd : y.d = x i := by
    have e : (ys.map Cpy.d)[i]? = ((List.range n).map x)[i]? := by rw [hym]
    simpa [hy, hi] using e
  have hm := List.mem_of_getElem? hy
  obtain ⟨b', off', e, hlt, hcell⟩ := hin.sl.at_ hi
  injection e with e
  injection e with e1 e2
  subst e1 e2
  obtain ⟨n0, n1, n2⟩ := hdr_at (w := w2) (off := off) (b := b) (fun j u hu => (hb.cell (p := ⟨b, off + j, none⟩) hlt).trans (hcell j u hu)) hi
  have gg : ∀ j u, y.hdr[j]? = some u → j < 3 → w2.cell? ⟨g, i * 3 + j, none⟩ = some u := by
    intro j u hu hj
    have := flat_at Cpy.hdr 3 (fun _ => rfl) ys i j y hy hj
    have h1 := hc.own.cells (g := g) rfl (i * 3 + j) u (by rw [this]; exact hu)
    rwa [Addr.add_lit, Nat.zero_add] at h1
  refine ⟨y, ?_, n0, n1, n2, ?_, ?_, ?_, fun hp => ?_⟩
  · have := (hin.ar i hi).2.2.2.1
    unfold reachBytes at this
    omega
  · rw [← hyd]; exact gg 0 _ rfl (by omega)
  · rw [← hyd]; exact gg 1 _ rfl (by omega)
  · rw [← hyd]; exact gg 2 _ rfl (by omega)
  · obtain ⟨b1, o1, e1, hl1, hc1⟩ := (hin.ar i hi).1.at_ hp
    have hcp := (hc.ar y hm).1
    rw [hyd] at hcp
    rcases hcp with ⟨h0, _⟩ | hcp
    · omega
    · obtain ⟨g1, e2, _, _⟩ := own_head hcp hp
      refine ⟨b1, o1, g1, e1, e2, fun j u hu => ⟨(hb.cell (p := ⟨b1, o1 + j, none⟩) hl1).trans (hc1 j u hu), ?_⟩⟩
      have h1 := hcp.cells (g := g1) (by rw [e2]; rfl) j u hu
      rwa [Addr.add_lit, Nat.zero_add] at h1

set_option maxRecDepth 100000 in
set_option maxHeartbeats 8000000 in
theorem none_bad (w : World) (A : Option Addr) (n c : Nat) (x : Nat → Lo) (hin : LooseIn w A n c x) (hn : n ≤ 40) (fr too lo hi : Int) (hbad : fr < 0 ∨ (n : Int) ≤ fr ∨ too < 0 ∨ (n : Int) ≤ too) :
    Calls Try.prog 5 #[.slice A n c, .int .i64 fr, .int .i64 too, .int .i64 lo, .int .i64 hi] w fun e w' => e = .returned (.bool true) ∧ Below w.heap.size w w' := by
  have HIN := Lib.hid hin
  have HBAD := Lib.hid hbad
  have HL := Lib.hid (fun (w' : World) (hb : Below w.heap.size w w') => lead_bad w' A n c x ⟨hin.nc, hin.cm, hin.rb, (hin.sl.below hb).more hb.size, fun i hi => ⟨((hin.ar i hi).1.below hb).more hb.size, (hin.ar i hi).2⟩, fun i hi => ⟨((hin.fr i hi).1.below hb).more hb.size, (hin.fr i hi).2⟩⟩ hn fr too lo hi hbad)
  have key : ∀ (Q : Exit → Act → World → Prop), True := fun _ => trivial
  clear key hin hbad
  have q1 : decide ((40 : Int) < (n : Int)) = false := by simp; omega
  go_enter Try.func5, Try.ntmps5
  go_wp2_with fail
  refine (awake_any _).mono ?_
  rintro e w1 ⟨rfl, hb1⟩
  have hcase : fr < 0 ∨ (¬ fr < 0 ∧ (n : Int) ≤ fr) ∨ (¬ fr < 0 ∧ fr < (n : Int) ∧ too < 0) ∨ (¬ fr < 0 ∧ fr < (n : Int) ∧ ¬ too < 0 ∧ (n : Int) ≤ too) := by have := HBAD.out; omega
  have HB1 := Lib.hid hb1
  clear hb1
  rcases hcase with f1 | ⟨f1, f2⟩ | ⟨f1, f2, f3⟩ | ⟨f1, f2, f3, f4⟩
  all_goals
    go_wp2_with fail
    refine (HL.out _ HB1.out).mono ?_
    rintro e w2 ⟨v, ys, rfl, hcp, hym, hb2⟩
    have hyl : ys.length = n := by have := congrArg List.length hym; simpa using this
    obtain ⟨Am, cm, rfl, _⟩ := own_shape hcp.own
    have hmono : CopyAt w2 w.heap.size (.slice Am ys.length cm) ys := ⟨hcp.own.mono HB1.out.size, hcp.ar, hcp.fr⟩
    rw [hyl]
    have HBW := Lib.hid (bcall HB1.out hb2)
    have z0 : (n == n) = true := by simp
    have z1 : (n != n) = false := by simp
    by_cases h0 : n = 0
    · subst h0
      clear hcp hmono hyl hym hb2 HL HIN q1 HBAD f1
      try clear f2
      try clear f3
      try clear f4
      go_wp2_with fail
      go_loopw [12] (fun i wr => i = .int .i64 0 ∧ wr = w2) (fun _ _ => 0)
      case atStart => exact ⟨rfl, rfl⟩
      case round =>
        obtain ⟨rfl, rfl⟩ := hrel
        go_wp2_with fail
        go_ret
        exact ⟨rfl, HBW.out⟩
    · obtain ⟨b, off, rfl, _, _⟩ := HIN.out.sl.at_ (show 0 < n by omega)
      obtain ⟨g, rfl, _, _⟩ := own_head hmono.own (show 0 < ys.length by omega)
      have HP := Lib.hid (fun (i : Nat) (hi : i < n) => pair_of HIN.out HBW.out hmono hym hi)
      clear hcp hmono hyl hym hb2 HL HIN q1 HBAD f1
      try clear f2
      try clear f3
      try clear f4
      go_wp2_with fail
      clear z0 z1
      go_loopw [12] (fun i wr => ∃ k : Nat, k ≤ n ∧ i = .int .i64 k ∧ ∃ q, wr = w2.drewN q) (fun i _ => n - (intOf i).toNat)
      case atStart => exact ⟨0, Nat.zero_le _, rfl, 0, rfl⟩
      case round =>
        obtain ⟨i, hi, rfl, q, rfl⟩ := hrel
        by_cases hlt : i < n
        · obtain ⟨y, hp⟩ := HP.out i hlt
          obtain ⟨d, hd⟩ : ∃ d, x i = d := ⟨_, rfl⟩
          rw [hd] at hp
          have HPI := Lib.hid hp
          obtain ⟨hlim, n0, n1, n2, m0, m1, m2, _⟩ := hp
          clear hd
          obtain ⟨f, hf⟩ : ∃ f, d.fin = f := ⟨_, rfl⟩
          obtain ⟨na, hna⟩ : ∃ m, d.ar.n = m := ⟨_, rfl⟩
          obtain ⟨nf, hnf⟩ : ∃ m, d.fr.n = m := ⟨_, rfl⟩
          rw [hf] at n0 m0
          rw [hna] at n1 m1 hlim
          rw [hnf] at n2 m2
          have z1 : (f == f) = true := by simp
          have z2 : (f != f) = false := by simp
          have z3 : (na == na) = true := by simp
          have z4 : (na != na) = false := by simp
          have z5 : (nf == nf) = true := by simp
          have z6 : (nf != nf) = false := by simp
          have i0 : (0 : Int) ≤ (i : Int) := by omega
          have i1 : (i : Int) < (n : Int) := by omega
          have HNA := Lib.hid hna
          clear hf hna hnf
          go_wp2_with fail
          go_quiet (fail)
          go_wp2_with fail
          clear z1 z2 z3 z4 z5 z6
          have hq : (w2.drewN q).drewN nq = w2.drewN (q + nq) := World.drewN_drewN _ _ _
          rw [hq]
          clear hq
          generalize q + nq = q2
          go_loopw [13] (fun k wq => ∃ kk : Nat, kk ≤ na ∧ k = .int .i64 kk ∧ ∃ q, wq = w2.drewN q) (fun k _ => na - (intOf k).toNat)
          case atStart => exact ⟨0, Nat.zero_le _, rfl, _, rfl⟩
          case round =>
            obtain ⟨k, hk, rfl, q3, rfl⟩ := hrel
            by_cases hkm : k < na
            · have harc := HPI.out.arc
              obtain ⟨b1, o1, g1, e1, e2, hcs⟩ := harc (by rw [HNA.out]; omega)
              obtain ⟨a0, a1, a2, p0, p1, p2⟩ := arc_at d (k := k) (by rw [HNA.out]; exact hkm)
              obtain ⟨s0, t0⟩ := hcs _ _ p0
              obtain ⟨s1, t1⟩ := hcs _ _ p1
              obtain ⟨s2, t2⟩ := hcs _ _ p2
              rw [← Nat.add_assoc] at s1 s2
              rw [e1] at n1
              rw [e2] at m1
              have y0 : (a0 == a0) = true := by simp
              have y1 : (a1 == a1) = true := by simp
              have y2 : (a2 == a2) = true := by simp
              have k0 : (0 : Int) ≤ (k : Int) := by omega
              have k1 : (k : Int) < (na : Int) := by omega
              clear harc hcs p0 p1 p2 e1 e2
              go_wp2_with fail
              go_quiet (fail)
              go_wp2_with fail
              go_roundw
              case rel => exact ⟨k + 1, by omega, by go_num, _, rfl⟩
              case measure => simp [intOf]; omega
            · obtain rfl : k = na := by omega
              go_wp2_with fail
              go_roundw
              case rel => exact ⟨i + 1, by omega, by go_num, _, rfl⟩
              case measure => simp [intOf]; omega
        · obtain rfl : i = n := by omega
          go_wp2_with fail
          go_ret
          exact ⟨rfl, below_drewN HBW.out q⟩

set_option maxRecDepth 100000 in
set_option maxHeartbeats 4000000 in
theorem none_walk (w : World) (A : Option Addr) (n c : Nat) (x : Nat → Lo) (hin : LooseIn w A n c x) (fr : Int) (_ : (Lit.int .i64 fr).wf = true) (too : Int) (_ : (Lit.int .i64 too).wf = true) (lo : Int) (_ : (Lit.int .i64 lo).wf = true) (hi : Int) (_ : (Lit.int .i64 hi).wf = true) :
    Calls Try.prog 5 #[.slice A n c, .int .i64 fr, .int .i64 too, .int .i64 lo, .int .i64 hi] w fun e w' => e = .returned (.bool true) ∧ Below w.heap.size w w' := by
  by_cases hn : n ≤ 40
  · by_cases hbad : fr < 0 ∨ (n : Int) ≤ fr ∨ too < 0 ∨ (n : Int) ≤ too
    · exact none_bad w A n c x hin hn fr too lo hi hbad
    · have f1 : ¬ fr < 0 := by omega
      have f2 : fr < (n : Int) := by omega
      have f3 : ¬ too < 0 := by omega
      have f4 : too < (n : Int) := by omega
      have q1 : decide ((40 : Int) < (n : Int)) = false := by simp; omega
      clear hbad hin
      go_enter Try.func5, Try.ntmps5
      go_wp2_with fail
      refine (awake_any _).mono ?_
      rintro e w1 ⟨rfl, hb1⟩
      go_wp2_with fail
      refine (awake_any _).mono ?_
      rintro e w2 ⟨rfl, hb2⟩
      go_wp2_with fail
      go_ret
      exact ⟨rfl, bcall hb1 hb2⟩
  · have q1 : decide ((40 : Int) < (n : Int)) = true := by simp; omega
    clear hin
    go_enter Try.func5, Try.ntmps5
    go_wp2_with fail
    refine (awake_any _).mono ?_
    rintro e w1 ⟨rfl, hb1⟩
    go_wp2_with fail
    refine (awake_any _).mono ?_
    rintro e w2 ⟨rfl, hb2⟩
    go_wp2_with fail
    go_ret
    exact ⟨rfl, bcall hb1 hb2⟩
end Go.Proofs.Ytnccbmbicgkhmaa
