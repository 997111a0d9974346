/- Pick and the reference's Pick of any list; that the layer is awake. -/
import Derived.Test.YtnhagnjikinimaaTierG
namespace Go.Proofs.Ytnhagnjikinimaa
open Go.RowKit

theorem err_bad {l : List Seg} (h : segsOk l = false) : Err (segsOk l) = 1 := by rw [h]; rfl
theorem err_ok {l : List Seg} (h : segsOk l = true) : Err (segsOk l) = 0 := by rw [h]; rfl

set_option maxHeartbeats 400000 in
theorem pick_any (A : Option Addr) (c : Nat) (l : List Seg) (w : World) (h : Sl w w.heap.size 4 A l.length (segCells l)) (hl : l.length ≤ 4398046511104) :
    Calls Try.prog 7 #[.slice A l.length c] w fun e w' => ∃ v, e = .returned (.tuple #[v, .int .i64 (Err (segsOk l))]) ∧ w'.ownsRow w.heap.size 3 1 v (pickR l).length (ints (pickR l)) ∧ Below w.heap.size w w' := by
  cases hok : segsOk l with
  | true =>
    have e1 : pickR l = pickF l := by unfold pickR; rw [if_pos hok]
    rw [e1]
    exact pick_ok A c l w h hl hok
  | false =>
    have e1 : pickR l = [] := by unfold pickR; rw [if_neg (by rw [hok]; simp)]
    rw [e1]
    have hcheck : Calls Try.prog 11 #[.slice A l.length c] w fun e w' => e = .returned (.int .i64 1) ∧ Below w.heap.size w w' := by
      have h0 := check_any A c l w h hl
      rw [hok] at h0
      exact h0
    have HC := Lib.hid hcheck
    clear hcheck hok e1
    go_enter Try.func7, Try.ntmps7
    go_wp2_with (go_at_call 11; refine HC.out.mono ?_; rintro e w1 ⟨rfl, hb1⟩)
    go_ret2
    exact ⟨_, rfl, World.ownsRow_nil _ _ _ _, hb1⟩

set_option maxHeartbeats 400000 in
theorem rpick_any (A : Option Addr) (c : Nat) (l : List Seg) (w : World) (h : Sl w w.heap.size 4 A l.length (segCells l)) (hl : l.length ≤ 4398046511104) :
    Calls Try.prog 8 #[.slice A l.length c] w fun e w' => ∃ v, e = .returned (.tuple #[v, .int .i64 (Err (segsOk l))]) ∧ w'.ownsRow w.heap.size 3 1 v (pickR l).length (ints (pickR l)) ∧ Below w.heap.size w w' := by
  cases hok : segsOk l with
  | true =>
    have e1 : pickR l = pickF l := by unfold pickR; rw [if_pos hok]
    rw [e1]
    exact rpick_ok A c l w h hl hok
  | false =>
    have e1 : pickR l = [] := by unfold pickR; rw [if_neg (by rw [hok]; simp)]
    rw [e1]
    have hcheck : Calls Try.prog 12 #[.slice A l.length c] w fun e w' => e = .returned (.int .i64 1) ∧ Below w.heap.size w w' := by
      have h0 := rcheck_any A c l w h hl
      rw [hok] at h0
      exact h0
    have HC := Lib.hid hcheck
    clear hcheck hok e1
    go_enter Try.func8, Try.ntmps8
    go_wp2_with (go_at_call 12; refine HC.out.mono ?_; rintro e w1 ⟨rfl, hb1⟩)
    go_ret2
    exact ⟨_, rfl, World.ownsRow_nil _ _ _ _, hb1⟩

theorem sl_new (w : World) (e : TypeId) (xs : List Int) {nb : Nat} (hnb : w.heap.size = nb) : Sl (w.alloc (.cells (ints xs).toArray e)) (w.alloc (.cells (ints xs).toArray e)).heap.size 1 (some ⟨nb, 0, none⟩) xs.length (ints xs) := by
  subst hnb
  refine ⟨by simp [ints], fun _ => ⟨_, _, rfl, by simp, fun j u hu => ?_⟩⟩
  have := news_at w (ints xs).toArray e j u (by simpa using hu)
  rwa [Addr.add_lit] at this

def segsA : List Seg := segsOf [8, 40, 8, 8, 31, 8]
def segsB : List Seg := segsOf [5]
theorem awake_pick : pickR segsA = [0, 2, 3, 4] := by decide +kernel
theorem awake_okA : segsOk segsA = true := by decide +kernel
theorem awake_okB : segsOk segsB = true := by decide +kernel
theorem awake_tier : tierN 32 = 1 := by decide +kernel

set_option maxHeartbeats 1000000 in
theorem awake_any (w : World) : Calls Try.prog 9 #[] w fun e w' => e = .returned (.bool true) ∧ Below w.heap.size w w' := by
  go_enter Try.func9, Try.ntmps9
  go_wp2_with fail
  refine (segs_any _ _ [8, 40, 8, 8, 31, 8] _ (sl_new _ 3 [8, 40, 8, 8, 31, 8] rfl) (by decide)).mono ?_
  rintro e w1 ⟨v1, rfl, hown1, hb1⟩
  obtain ⟨A1, c1, rfl, _⟩ := own_shape hown1
  go_wp2_with fail
  refine (pick_any _ _ segsA _ (Sl.of_own hown1) (by decide)).mono ?_
  rw [awake_okA, show Err true = 0 from rfl]
  rintro e w2 ⟨v2, rfl, hown2, hb2⟩
  rw [awake_pick] at hown2
  obtain ⟨A2, c2, rfl, _⟩ := own_shape hown2
  go_wp2_with fail
  refine (numbers_any _ _ _ _ (w2.heap.size + 1) [0, 2, 3, 4] [0, 2, 3, 4] _ (((Sl.of_own hown2).alloc (Nat.le_refl _) _).more (by omega)) ((sl_new _ 3 [0, 2, 3, 4] rfl).more (by simp)) (by decide)).mono ?_
  rintro e w3 ⟨rfl, q, rfl⟩
  have hb3 := below_drewN (bnew (bcall (bcall (bnew (brefl w) _) hb1) hb2) (.cells (ints [0, 2, 3, 4]).toArray 3)) q
  rw [show SameInts [0, 2, 3, 4] [0, 2, 3, 4] = true from by decide]
  go_wp2_with fail
  refine (tier_any 32 _).mono ?_
  rintro e w4 ⟨rfl, rfl⟩
  rw [awake_tier]
  go_wp2_with fail
  refine (segs_any _ _ [5] _ (sl_new _ 3 [5] (by simp)) (by decide)).mono ?_
  rintro e w5 ⟨v5, rfl, hown5, hb5⟩
  obtain ⟨A5, c5, rfl, _⟩ := own_shape hown5
  go_wp2_with fail
  refine (check_any _ _ segsB _ (Sl.of_own hown5) (by decide)).mono ?_
  rw [awake_okB, show Err true = 0 from rfl]
  rintro e w6 ⟨rfl, hb6⟩
  go_wp2_with fail
  go_ret
  exact ⟨rfl, bcall (bcall (bnew hb3 _) hb5) hb6⟩
end Go.Proofs.Ytnhagnjikinimaa
