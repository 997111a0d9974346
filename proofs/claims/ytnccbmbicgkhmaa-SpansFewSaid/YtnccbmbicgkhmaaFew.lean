/- The law SpansFew: its walk. -/
import Derived.Test.YtnccbmbicgkhmaaAllp
import Derived.Test.YtnccbmbicgkhmaaAw
namespace Go.Proofs.Ytnccbmbicgkhmaa
open Go.RowKit

structure Apart (base g1 g2 : Nat) (l1 l2 : List RR) : Prop where
  n1 : ∀ R ∈ l1, base ≤ R.b ∧ R.b ≠ g1 ∧ R.b ≠ g2
  n12 : ∀ R ∈ l1, ∀ S ∈ l2, R.b ≠ S.b
  nod : (l1.map RR.b).Nodup
structure Few (w wr : World) (g1 g2 : Nat) (l1 l2 : List RR) (i k : Nat) : Prop where
  o1 : ∀ (j : Nat) (R : RR), l1[j]? = some R → wr.cell? ⟨g1, j, none⟩ = some R.val
  o2 : ∀ (j : Nat) (R : RR), l2[j]? = some R → wr.cell? ⟨g2, j, none⟩ = some R.val
  a : ∀ (j : Nat) (R : RR), l1[j]? = some R → ∀ (q : Nat) (u : Value), (i < j ∨ (i = j ∧ k * 2 ≤ q)) → (flatR R.r)[q]? = some u → wr.cell? ⟨R.b, q, none⟩ = some u ∧ wr.frozen? ⟨R.b, q, none⟩ = false
  b : ∀ (j : Nat) (R : RR), l2[j]? = some R → ∀ (q : Nat) (u : Value), (flatR R.r)[q]? = some u → wr.cell? ⟨R.b, q, none⟩ = some u
  bel : Below w.heap.size w wr
theorem addr_ne {b c o p : Nat} (h : b ≠ c ∨ o ≠ p) : (⟨b, o, none⟩ : Addr) ≠ ⟨c, p, none⟩ := by
  intro e
  injection e with e1 e2
  exact h.elim (fun x => x e1) (fun x => x e2)
theorem cell_set2 (w : World) (b o c p : Nat) (u v : Value) (h : b ≠ c ∨ (p < o ∨ o + 1 < p)) : ((w.setCell ⟨b, o, none⟩ u).setCell ⟨b, o + 1, none⟩ v).cell? ⟨c, p, none⟩ = w.cell? ⟨c, p, none⟩ := by
  rw [World.cell?_setCell_other _ _ _ _ (addr_ne (by omega)), World.cell?_setCell_other _ _ _ _ (addr_ne (by omega))]
theorem nod_b {l : List RR} (h : (l.map RR.b).Nodup) {i j : Nat} {R S : RR} (hi : l[i]? = some R) (hj : l[j]? = some S) (hne : i ≠ j) : R.b ≠ S.b := by
  intro e
  have hi' : (l.map RR.b)[i]? = some R.b := by simp [hi]
  have hj' : (l.map RR.b)[j]? = some S.b := by simp [hj]
  obtain ⟨ki, ei⟩ := List.getElem?_eq_some_iff.1 hi'
  obtain ⟨kj, ej⟩ := List.getElem?_eq_some_iff.1 hj'
  exact hne ((List.getElem_inj h).1 (ei.trans (e.trans ej.symm)))
theorem flatR_len (r : List (Int × Int)) : (flatR r).length = r.length * 2 := flat_length _ 2 (fun _ => rfl) r
theorem flatR_at {r : List (Int × Int)} {k : Nat} {x y : Int} (h : r[k]? = some (x, y)) : (flatR r)[k * 2]? = some (.int .i64 x) ∧ (flatR r)[k * 2 + 1]? = some (.int .i64 y) :=
  ⟨flat_at _ 2 (fun _ => rfl) r k 0 (x, y) h (by omega), flat_at _ 2 (fun _ => rfl) r k 1 (x, y) h (by omega)⟩
theorem Few.step {w wr : World} {g1 g2 i k : Nat} {l1 l2 : List RR} (ha : Apart w.heap.size g1 g2 l1 l2) (h : Few w wr g1 g2 l1 l2 i k) {R : RR} (hR : l1[i]? = some R) (x y : Value) :
    Few w ((wr.setCell ⟨R.b, k * 2, none⟩ x).setCell ⟨R.b, k * 2 + 1, none⟩ y) g1 g2 l1 l2 i (k + 1) := by
  have hm := List.mem_of_getElem? hR
  obtain ⟨n0, n1, n2⟩ := ha.n1 R hm
  refine ⟨fun j S hj => ?_, fun j S hj => ?_, fun j S hj q u hq hu => ?_, fun j S hj q u hu => ?_, (h.bel.setCell n0 x).setCell n0 y⟩
  · rw [cell_set2 _ _ _ _ _ _ _ (.inl n1)]; exact h.o1 j S hj
  · rw [cell_set2 _ _ _ _ _ _ _ (.inl n2)]; exact h.o2 j S hj
  · obtain ⟨c, f⟩ := h.a j S hj q u (by omega) hu
    rw [cell_set2, World.frozen?_setCell, World.frozen?_setCell]
    · exact ⟨c, f⟩
    · by_cases e : i = j
      · subst e
        exact .inr (by omega)
      · exact .inl (nod_b ha.nod hR hj e)
  · rw [cell_set2 _ _ _ _ _ _ _ (.inl (ha.n12 R hm S (List.mem_of_getElem? hj)))]
    exact h.b j S hj q u hu
theorem Few.drewN {w wr : World} {g1 g2 i k : Nat} {l1 l2 : List RR} (h : Few w wr g1 g2 l1 l2 i k) (q : Nat) : Few w (wr.drewN q) g1 g2 l1 l2 i k := ⟨h.o1, h.o2, h.a, h.b, below_drewN h.bel q⟩
theorem Few.next {w wr : World} {g1 g2 i k : Nat} {l1 l2 : List RR} (h : Few w wr g1 g2 l1 l2 i k) : Few w wr g1 g2 l1 l2 (i + 1) 0 :=
  ⟨h.o1, h.o2, fun j S hj q u hq hu => h.a j S hj q u (by omega) hu, h.b, h.bel⟩
theorem Few.start {w w1 w2 w3 : World} {A1 A2 : Option Addr} {c1 c2 : Nat} {l1 l2 : List RR} (hr1 : RowsAt w1 w.heap.size (.slice A1 l1.length c1) l1) (hb1 : Below w.heap.size w w1) (hr2 : RowsAt w2 w1.heap.size (.slice A2 l2.length c2) l2)
    (hb2 : Below w1.heap.size w1 w2) (hb3 : Below w2.heap.size w2 w3) (h1 : 0 < l1.length) (h2 : 0 < l2.length) :
    ∃ g1 g2, A1 = some ⟨g1, 0, none⟩ ∧ A2 = some ⟨g2, 0, none⟩ ∧ Apart w.heap.size g1 g2 l1 l2 ∧ Few w w3 g1 g2 l1 l2 0 0 ∧ l1.length ≤ c1 ∧ l2.length ≤ c2 := by
  obtain ⟨g1, rfl, p1, p2⟩ := own_head hr1.own h1
  obtain ⟨g2, rfl, p3, p4⟩ := own_head hr2.own h2
  have k1 := (hr1.kept hb2).kept hb3
  have k2 := hr2.kept hb3
  have q1 := hb1.size
  have q2 := hb2.size
  refine ⟨g1, g2, rfl, rfl, ⟨fun R hR => ?_, fun R hR S hS => ?_, hr1.nod⟩, ⟨fun j R hj => ?_, fun j R hj => ?_, fun j R hj q u _ hu => ?_, fun j R hj q u hu => ?_, bcall hb1 (bcall hb2 hb3)⟩, ?_, ?_⟩
  · have a := (hr1.inn R hR).2
    have l := RR.lt a
    refine ⟨l.1, ?_, ?_⟩
    · intro e
      have t := own_types hr1.own a (by decide)
      rcases t with t | t
      · cases t
      · exact t (by simp [Value.ownBlock, RR.val, e])
    · omega
  · have l := RR.lt (hr1.inn R hR).2
    have m := RR.lt (hr2.inn S hS).2
    omega
  · exact own_cell k1.own j _ (by simp [hj])
  · exact own_cell k2.own j _ (by simp [hj])
  · have a := (k1.inn R (List.mem_of_getElem? hj)).2
    exact ⟨own_cell a q u hu, a.frozenAt q⟩
  · exact own_cell (k2.inn R (List.mem_of_getElem? hj)).2 q u hu
  · obtain ⟨_, _, e, h⟩ := own_shape hr1.own
    injection e with _ _ e
    omega
  · obtain ⟨_, _, e, h⟩ := own_shape hr2.own
    injection e with _ _ e
    omega

set_option maxRecDepth 100000 in
set_option maxHeartbeats 8000000 in
theorem few_walk (w : World) (lo : Int) (_ : (Lit.int .i64 lo).wf = true) (hi : Int) (_ : (Lit.int .i64 hi).wf = true) : Calls Try.prog 4 #[.int .i64 lo, .int .i64 hi] w fun e w' => e = .returned (.bool true) ∧ Below w.heap.size w w' := by
  have H1 := Lib.hid (all_any lo hi)
  have hlen := all_len lo hi
  have hok := Lib.hid (all_ok lo hi)
  go_enter Try.func4, Try.ntmps4
  go_wp2_with fail
  refine (H1.out _).mono ?_
  rintro e w1 ⟨v1, l1, rfl, hr1, hm1, hb1⟩
  go_wp2_with fail
  refine (H1.out _).mono ?_
  rintro e w2 ⟨v2, l2, rfl, hr2, hm2, hb2⟩
  have hn1 : l1.length ≤ 20 := by have := congrArg List.length hm1; rw [List.length_map] at this; omega
  have hnn : l1.length = l2.length := by have := congrArg List.length (hm1.trans hm2.symm); simpa using this
  have HM := Lib.hid (hm1.trans hm2.symm)
  have HOK := Lib.hid (show ∀ R ∈ l1, rowOk R.r from fun R hR => hok.out R.r (by rw [← hm1]; exact List.mem_map_of_mem hR))
  obtain ⟨A1, c1, rfl, hc1⟩ := own_shape hr1.own
  obtain ⟨A2, c2, rfl, hc2⟩ := own_shape hr2.own
  have HR1 := Lib.hid hr1
  have HR2 := Lib.hid hr2
  have HB1 := Lib.hid hb1
  have HB2 := Lib.hid hb2
  clear hr1 hr2 hb1 hb2 hm1 hm2 H1 hok hlen
  obtain ⟨n, hn⟩ : ∃ n, l2.length = n := ⟨_, rfl⟩
  have HN := Lib.hid hn
  have HN1 := Lib.hid (hnn.trans hn)
  rw [hnn.trans hn] at hc1 hn1 ⊢
  rw [hn] at hc2 ⊢
  clear hnn hn
  have q1 : decide ((20 : Int) < (n : Int)) = false := by simp; omega
  go_wp2_with fail
  refine (awake_any _).mono ?_
  rintro e w3 ⟨rfl, hb3⟩
  have HB3 := Lib.hid hb3
  clear hb3
  have q2 : (n == n) = true := by simp
  go_wp2_with fail
  clear q1 q2
  by_cases hz : n = 0
  · subst hz
    have HB := Lib.hid (bcall HB1.out (bcall HB2.out HB3.out))
    go_loopw [7] (fun i wr => i = .int .i64 0 ∧ Below w.heap.size w wr) (fun _ _ => 0)
    case atStart => exact ⟨rfl, HB.out⟩
    case round =>
      obtain ⟨rfl, hbw⟩ := hrel
      go_wp2_with fail
      go_ret
      exact ⟨rfl, hbw⟩
  · have hst := Few.start HR1.out HB1.out HR2.out HB2.out HB3.out (by rw [HN1.out]; omega) (by rw [HN.out]; omega)
    obtain ⟨g1, g2, rfl, rfl, hap, hf, _, _⟩ := hst
    have HA := Lib.hid hap
    clear hap HR1 HR2 HB1 HB2 HB3
    go_loopw [7] (fun i wr => ∃ k : Nat, k ≤ n ∧ i = .int .i64 k ∧ Few w wr g1 g2 l1 l2 k 0) (fun i _ => n - (intOf i).toNat)
    case atStart => exact ⟨0, Nat.zero_le _, rfl, hf⟩
    case round =>
      obtain ⟨i, hi, rfl, hf⟩ := hrel
      have HF := Lib.hid hf
      clear hf
      by_cases hlt : i < n
      · obtain ⟨R, hR⟩ : ∃ R, l1[i]? = some R := ⟨l1[i]'(by rw [HN1.out]; exact hlt), List.getElem?_eq_getElem _⟩
        obtain ⟨S, hS⟩ : ∃ S, l2[i]? = some S := ⟨l2[i]'(by rw [HN.out]; exact hlt), List.getElem?_eq_getElem _⟩
        have hRS : R.r = S.r := by
          have e : (l1.map RR.r)[i]? = (l2.map RR.r)[i]? := by rw [HM.out]
          simpa [hR, hS] using e
        have hro := HOK.out R (List.mem_of_getElem? hR)
        have f1 := HF.out.o1 i R hR
        have f2 := HF.out.o2 i S hS
        unfold RR.val at f1 f2
        rw [← hRS] at f2
        obtain ⟨m, hm⟩ : ∃ m, R.r.length = m := ⟨_, rfl⟩
        rw [hm] at f1 f2
        have hm4 : m ≤ 4 := by have := hro.2.1; omega
        have i0 : (0 : Int) ≤ (i : Int) := by omega
        have i1 : (i : Int) < (n : Int) := by omega
        have z1 : (m == m) = true := by simp
        have z2 : (m != m) = false := by simp
        have HR := Lib.hid hR
        have HS := Lib.hid hS
        have HRS := Lib.hid hRS
        have HRO := Lib.hid hro
        have HMM := Lib.hid hm
        clear hR hS hRS hro hm
        go_wp2_with fail
        go_quiet (fail)
        go_wp2_with fail
        have hfq := HF.out.drewN nq
        generalize wr.drewN nq = wo at *
        clear f1 f2 HF
        go_loopw [8] (fun k wq => ∃ kk : Nat, kk ≤ m ∧ k = .int .i64 kk ∧ Few w wq g1 g2 l1 l2 i kk) (fun k _ => m - (intOf k).toNat)
        case atStart => exact ⟨0, Nat.zero_le _, rfl, hfq⟩
        case round =>
          obtain ⟨k, hk, rfl, hf⟩ := hrel
          have f1 := hf.o1 i R HR.out
          have f2 := hf.o2 i S HS.out
          unfold RR.val at f1 f2
          rw [← HRS.out, HMM.out] at f2
          rw [HMM.out] at f1
          by_cases hkm : k < m
          · obtain ⟨⟨x, y⟩, hxy⟩ : ∃ p, R.r[k]? = some p := ⟨R.r[k]'(by rw [HMM.out]; exact hkm), List.getElem?_eq_getElem _⟩
            have hxo := HRO.out.2.2 (x, y) (List.mem_of_getElem? hxy)
            dsimp only at hxo
            obtain ⟨x0, x1, x2⟩ := hxo
            obtain ⟨e1, e2⟩ := flatR_at hxy
            obtain ⟨a1, a3⟩ := hf.a i R HR.out (k * 2) _ (by omega) e1
            obtain ⟨a2, a4⟩ := hf.a i R HR.out (k * 2 + 1) _ (by omega) e2
            rw [HRS.out] at e1 e2
            have b1 := hf.b i S HS.out (k * 2) _ e1
            have b2 := hf.b i S HS.out (k * 2 + 1) _ e2
            obtain ⟨_, hn1, hn2⟩ := HA.out.n1 R (List.mem_of_getElem? HR.out)
            have hn3 := HA.out.n12 R (List.mem_of_getElem? HR.out) S (List.mem_of_getElem? HS.out)
            have k0 : (0 : Int) ≤ (k : Int) := by omega
            have k1 : (k : Int) < (m : Int) := by omega
            have y1 : (x == x) = true := by simp
            have y2 : (y == y) = true := by simp
            have y3 : decide (x < 0) = false := by simp; omega
            have hst := Lib.hid (fun nq' => (hf.drewN nq').step HA.out HR.out (.int .i64 (-1)) (.int .i64 0))
            clear hf e1 e2 hxy
            go_wp2_with fail
            go_quiet (fail)
            go_wp2_with fail
            go_roundw
            case rel => exact ⟨k + 1, by omega, by go_num, hst.out _⟩
            case measure => simp [intOf]; omega
          · obtain rfl : k = m := by omega
            have HX := Lib.hid hf.next
            clear hf
            go_wp2_with fail
            go_roundw
            case rel => exact ⟨i + 1, by omega, by go_num, HX.out⟩
            case measure => simp [intOf]; omega
      · obtain rfl : i = n := by omega
        go_wp2_with fail
        go_ret
        exact ⟨rfl, HF.out.bel⟩
end Go.Proofs.Ytnccbmbicgkhmaa
