/- fst's All. -/
import Derived.Test.YtheickndnniomaaDoorGather
import Derived.Deep.RegionHeld3
namespace Go.Proofs.YtheickndnniomaaDoor
open Go.RowKit Go.Maps

/-- All the terms. -/
def allE (ds : List Nd) (base : Int) : List Ent := if ds = [] then [] else gath ds ds.length (ds.length - 1) [] base
set_option maxRecDepth 100000 in
theorem all_nil (w : World) : Calls Tryd.prog 15 #[.pointer none] w fun e w' => e = .returned (.slice none 0 0) ∧ Below w.heap.size w w' := by
  go_enter Tryd.func15, Tryd.ntmps15
  go_wp2_with fail
  go_ret
  exact ⟨rfl, bnew (brefl w) _⟩
set_option maxRecDepth 100000 in
set_option maxHeartbeats 8000000 in
theorem all_any (w : World) (p B n c : Nat) (A : Option Addr) (base cnt : Int) (hs : List Nh) (h : DictAt w p B A n c base cnt hs) (hf : Fine (hs.map (·.d))) (hl : (allE (hs.map (·.d)) base).length ≤ 4294967296) (hn : n ≤ 1125899906842624) :
    Calls Tryd.prog 15 #[.pointer (some ⟨p, 0, none⟩)] w fun e w' => ∃ v, e = .returned v ∧ w'.ownsRow w.heap.size 26 2 v (allE (hs.map (·.d)) base).length (entsC (allE (hs.map (·.d)) base)) ∧ Below w.heap.size w w' := by
  obtain ⟨c0, c1, c2⟩ := h.cells
  obtain ⟨_, hcap⟩ := h.cap
  have hlen := h.len
  have hpl := (Array.getElem?_eq_some_iff.1 h.blk).1
  by_cases h0 : n = 0
  · subst h0
    obtain rfl : hs = [] := List.eq_nil_of_length_eq_zero hlen
    have hG : allE (([] : List Nh).map (·.d)) base = [] := if_pos rfl
    rw [hG]
    clear h
    go_enter Tryd.func15, Tryd.ntmps15
    go_wp2_with fail
    go_ret
    exact ⟨_, rfl, ⟨rfl, .inl ⟨rfl, rfl⟩⟩, bnew (brefl w) _⟩
  · have hds : hs.map (·.d) ≠ [] := by
      intro e
      rw [List.map_eq_nil_iff] at e
      subst e
      exact h0 hlen.symm
    have hG : allE (hs.map (·.d)) base = gath (hs.map (·.d)) n (n - 1) [] base := by
      unfold allE
      rw [if_neg hds, List.length_map, hlen]
    rw [hG] at hl ⊢
    have HW := Lib.hid (fun (w1 : World) (v : Value) (ho : OutAt w1 p w.heap.size v []) (hb : Below w.heap.size w w1) => walk_any w p B n c A base cnt hs h hf w.heap.size rfl n (n - 1) (by omega) (by omega) w1 v [] [] base ho hb (by simp; omega) (by simpa using hl))
    simp only [List.nil_append] at HW
    generalize gath (hs.map (·.d)) n (n - 1) [] base = L at *
    obtain ⟨i0, hi0⟩ : ∃ i : Nat, n - 1 = i := ⟨_, rfl⟩
    have hw1 : IntKind.i64.wrap ((n : Int) - 1) = (i0 : Int) := by rw [show (n : Int) - 1 = (i0 : Int) by omega]; exact IntWalk.i64_in _ (by omega)
    rw [hi0] at HW
    have q1 : ((n : Int) == 0) = false := by simpa using h0
    have q2 : (n == 0) = false := by simpa using h0
    clear h hG hds hf
    have hsf := fun (a : Addr) (c : Array Value) (w : World) => run_store Tryd.prog w a (.func (.func 40) #[] c) .plain rfl
    go_enter Tryd.func15, Tryd.ntmps15
    go_wp2_with fail
    have hsz : ((w.alloc (.cells #[.pointer (some ⟨p, 0, none⟩)] 33)).alloc (.cells #[.slice none 0 0] 22)).heap.size = w.heap.size + 2 := by simp
    have HO : Hid (OutAt ((((w.alloc (.cells #[.pointer (some ⟨p, 0, none⟩)] 33)).alloc (.cells #[.slice none 0 0] 22)).alloc (.cells #[.func (.func 40) #[] #[.pointer (some ⟨w.heap.size, 0, none⟩), .pointer (some ⟨w.heap.size + 1, 0, none⟩), .pointer (some ⟨w.heap.size + 1 + 1, 0, none⟩)]] 87))) p w.heap.size (.slice none 0 0) []) := by
      refine ⟨?_, ?_, ?_, rfl, .inl ⟨rfl, rfl⟩⟩
      · rw [Below.heap_alloc _ _ _ (by simp; omega), Below.heap_alloc _ _ _ (by simp)]
        exact heap_alloc_new w _
      · rw [Below.heap_alloc _ _ _ (by simp)]
        have := heap_alloc_new (w.alloc (.cells #[.pointer (some ⟨p, 0, none⟩)] 33)) (.cells #[.slice none 0 0] 22)
        simpa using this
      · have := heap_alloc_new ((w.alloc (.cells #[.pointer (some ⟨p, 0, none⟩)] 33)).alloc (.cells #[.slice none 0 0] 22)) (.cells #[.func (.func 40) #[] #[.pointer (some ⟨w.heap.size, 0, none⟩), .pointer (some ⟨w.heap.size + 1, 0, none⟩), .pointer (some ⟨w.heap.size + 1 + 1, 0, none⟩)]] 87)
        rw [hsz] at this
        exact this
    have HB : Hid (Below w.heap.size w (((w.alloc (.cells #[.pointer (some ⟨p, 0, none⟩)] 33)).alloc (.cells #[.slice none 0 0] 22)).alloc (.cells #[.func (.func 40) #[] #[.pointer (some ⟨w.heap.size, 0, none⟩), .pointer (some ⟨w.heap.size + 1, 0, none⟩), .pointer (some ⟨w.heap.size + 1 + 1, 0, none⟩)]] 87))) := bnew (bnew (bnew (brefl w) _) _) _
    generalize ((w.alloc (.cells #[.pointer (some ⟨p, 0, none⟩)] 33)).alloc (.cells #[.slice none 0 0] 22)).alloc (.cells #[.func (.func 40) #[] #[.pointer (some ⟨w.heap.size, 0, none⟩), .pointer (some ⟨w.heap.size + 1, 0, none⟩), .pointer (some ⟨w.heap.size + 1 + 1, 0, none⟩)]] 87) = W3 at *
    have C0 := Lib.hid c0
    have C1 := Lib.hid c1
    have hkeep : Hid (∀ (W : World) (v : Value) (l : List Ent), OutAt W p w.heap.size v l → Below w.heap.size w W → W.cell? ⟨w.heap.size, 0, none⟩ = some (.pointer (some ⟨p, 0, none⟩)) ∧ W.cell? ⟨w.heap.size + 1 + 1, 0, none⟩ = some (.func (.func 40) #[] #[.pointer (some ⟨w.heap.size, 0, none⟩), .pointer (some ⟨w.heap.size + 1, 0, none⟩), .pointer (some ⟨w.heap.size + 1 + 1, 0, none⟩)]) ∧ W.cell? ⟨p, 0, none⟩ = some (.slice A n c) ∧ W.cell? ⟨p, 1, none⟩ = some (.int .i64 base)) := fun W v l ho hb =>
      ⟨ho.cells.1, ho.cells.2.2, (hb.cell (p := ⟨p, 0, none⟩) hpl).trans C0.out, (hb.cell (p := ⟨p, 1, none⟩) hpl).trans C1.out⟩
    have K3 := Lib.hid (hkeep.out W3 _ _ HO.out HB.out)
    obtain ⟨k0, k2, e0, e1⟩ := K3.out
    clear c0 c1 c2 hsz hsf
    go_region_held3 (fun w' => w'.cell? ⟨w.heap.size, 0, none⟩ = some (.pointer (some ⟨p, 0, none⟩)) ∧ w'.cell? ⟨w.heap.size + 1 + 1, 0, none⟩ = some (.func (.func 40) #[] #[.pointer (some ⟨w.heap.size, 0, none⟩), .pointer (some ⟨w.heap.size + 1, 0, none⟩), .pointer (some ⟨w.heap.size + 1 + 1, 0, none⟩)]) ∧ w'.cell? ⟨p, 0, none⟩ = some (.slice A n c) ∧ w'.cell? ⟨p, 1, none⟩ = some (.int .i64 base))
      (first
        | assumption
        | exact K3.out
        | exact hkeep.out _ _ _ HOC.out HBC.out)
      (first | (go_at_call 40; refine (HW.out _ (.slice none 0 0) (HO.out.below (by repeat (first | exact brefl _ | refine Below.drew ?_))) (HB.out.trans ((show Below W3.heap.size W3 _ by repeat (first | exact brefl _ | refine Below.drew ?_)).mono HB.out.size))).mono ?_; rintro e wC ⟨rfl, vC, hoC, hbC⟩; have HOC := Lib.hid hoC; have HBC := Lib.hid hbC))
    all_goals
      obtain ⟨AC, cC, rfl, _⟩ := own_shape HOC.out.own
      obtain ⟨_, kc1, _⟩ := HOC.out.cells
      clear hoC hbC hkeep HW
      go_wp2_with fail
      go_ret
      refine ⟨_, rfl, ⟨HOC.out.own.1, ?_⟩, HBC.out⟩
      rcases HOC.out.own.2 with hn | ⟨g, cap, cur, hv, hg, rest⟩
      · exact .inl hn
      · exact .inr ⟨g, cap, cur, hv, by omega, rest⟩
end Go.Proofs.YtheickndnniomaaDoor
