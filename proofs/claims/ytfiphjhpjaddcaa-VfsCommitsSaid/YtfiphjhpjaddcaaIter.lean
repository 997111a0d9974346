/- slices.Sorted(maps.Keys(m)) at this program (what lay-iter.mjs printed, over the plain layings); Disk.List. -/
import Derived.Test.YtfiphjhpjaddcaaSyncDir
namespace Go.Proofs
open Go.RowKit Go.Maps Go.Sort Go.Shelf

/-- slices.Sort's two contracts at this dump, at the fence that asks nothing. -/
theorem Try.sorts36 (m : Nat) : AnyZ.SortsIn Try.prog Try.sorted36_ren Fence.wide m :=
  ⟨fun blk off cap ss W hH hblk hsz => callsIn_wide.2 (AnyM.slices_Sort_string Try.sort54 blk off cap ss W hH hblk hsz),
   fun p cap W => callsIn_wide.2 (AnyM.slices_Sort_string_none Try.sort54 p cap W)⟩

/-- **maps.Keys[map[string]int,string,int], at whatever map, the nil one too:** a function value over ONE NEW BLOCK, which holds the map. -/
theorem Try.maps_Keys_37 (mb : Option Nat) (W : World) : CallsIn Fence.wide 5 Try.prog 37 #[.map mb] W fun e w' => e = .returned (.func (.func 55) #[] #[.pointer (some ⟨W.heap.size, 0, none⟩)]) ∧ w' = W.alloc (.cells #[.map mb] 56) :=
  AnyZ.keys_in Try.keys37 Fence.wide 5 trivial rfl mb W

set_option maxHeartbeats 1000000 in
/-- **slices.Sorted[string] AT WHAT maps.Keys[map[string]int,string,int] HANDED BACK FOR A MAP THAT IS NOT nil** ('w': the world AHEAD of maps.Keys' call): A NEW SLICE THAT HOLDS THE MAP's KEYS, SORTED; nil just where it has none; nothing that lay before has turned. -/
theorem Try.slices_Sorted_keys_36_37 {H : Type} (b nn : Nat) (D0 : DataW H) (R : Value → Option (DataW H × List MemPlace)) (w : World) (hown : w.ownsMap Try.prog 9 R b nn D0) (hmax : Maps.size D0 ≤ maxLen) (hbytes : Maps.size D0 * 16 ≤ 140737488355328) :
    CallsIn Fence.wide 5 Try.prog 36 #[.func (.func 55) #[] #[.pointer (some ⟨w.heap.size, 0, none⟩)]] (w.alloc (.cells #[.map (some b)] 56)) fun e w' => ∃ (v : Value) (ss : List (List UInt8)), e = .returned v ∧ ss.Perm (strKeys D0) ∧
      w'.ownsRow (w.alloc (.cells #[.map (some b)] 56)).heap.size 9 1 v ss.length ((ss.mergeSort (fun x y => decide (x ≤ y))).map encStr) ∧ (v = .slice none 0 0 ↔ ss = []) ∧ Below (w.alloc (.cells #[.map (some b)] 56)).heap.size (w.alloc (.cells #[.map (some b)] 56)) w' := by
  have hbl := hown.lt
  have hseq : SeqGives Fence.wide 2 Try.prog 55 #[.pointer (some ⟨w.heap.size, 0, none⟩)] encStr (fun ss => ss.Perm (strKeys D0)) (Maps.size D0) (w.alloc (.cells #[.map (some b)] 56)) :=
    AnyZ.keys_gives (ρ := Try.keys37_ren) { Try.keys37 with } Fence.wide _ trivial rfl (by omega) w.heap.size b nn D0 _ (by simp) (by simp) (by
      obtain ⟨es, clock, hb, Ft, hs, hD⟩ := hown
      exact ⟨es, clock, (Below.heap_alloc _ _ b hbl).trans hb, Ft, hs, hD⟩)
  exact AnyZ.sorted_in Try.sorted36 Fence.wide 5 trivial trivial trivial trivial rfl (by omega) (Try.sorts36 _) (enters_of Try.func54 (by kernel_rfl) rfl) 55 #[.pointer (some ⟨w.heap.size, 0, none⟩)] trivial (enters_of Try.func55 (by kernel_rfl) rfl) _ _ hmax hbytes _ hseq

set_option maxHeartbeats 1000000 in
/-- **.. AND FOR THE nil MAP: nil.** -/
theorem Try.slices_Sorted_keys_nil_36_37 (w : World) :
    CallsIn Fence.wide 5 Try.prog 36 #[.func (.func 55) #[] #[.pointer (some ⟨w.heap.size, 0, none⟩)]] (w.alloc (.cells #[.map none] 56)) fun e w' => ∃ (v : Value) (ss : List (List UInt8)), e = .returned v ∧ ss = [] ∧
      w'.ownsRow (w.alloc (.cells #[.map none] 56)).heap.size 9 1 v ss.length ((ss.mergeSort (fun x y => decide (x ≤ y))).map encStr) ∧ (v = .slice none 0 0 ↔ ss = []) ∧ Below (w.alloc (.cells #[.map none] 56)).heap.size (w.alloc (.cells #[.map none] 56)) w' := by
  have hseq : SeqGives Fence.wide 2 Try.prog 55 #[.pointer (some ⟨w.heap.size, 0, none⟩)] encStr (fun ss : List (List UInt8) => ss = []) 0 (w.alloc (.cells #[.map none] 56)) :=
    AnyZ.keys_gives_nil (ρ := Try.keys37_ren) { Try.keys37 with } Fence.wide _ trivial rfl w.heap.size _ (by simp) (by simp)
  exact AnyZ.sorted_in Try.sorted36 Fence.wide 5 trivial trivial trivial trivial rfl (by omega) (Try.sorts36 _) (enters_of Try.func54 (by kernel_rfl) rfl) 55 #[.pointer (some ⟨w.heap.size, 0, none⟩)] trivial (enters_of Try.func55 (by kernel_rfl) rfl) _ 0 (Nat.zero_le _) (by omega) _ hseq

end Go.Proofs
namespace Go.Proofs.Ytfiphjhpjaddcaa
open Go.RowKit Go.Maps Go.Sort Go.Shelf

theorem keys_any (mb : Option Nat) (W : World) : Calls Try.prog 37 #[.map mb] W fun e w' => e = .returned (.func (.func 55) #[] #[.pointer (some ⟨W.heap.size, 0, none⟩)]) ∧ w' = W.alloc (.cells #[.map mb] 56) :=
  callsIn_wide.1 (Try.maps_Keys_37 mb W)
/-- A new slice of the sorted keys. -/
def ListOf {H : Type} (w : World) (N : DataW H) (e : Ending) (w' : World) : Prop := ∃ (v : Value) (ss : List (List UInt8)), e = .returned v ∧ ss.Perm (strKeys N) ∧ w'.ownsRow w.heap.size 9 1 v ss.length ((ss.mergeSort (fun x y => decide (x ≤ y))).map encStr) ∧ Below w.heap.size w w'
theorem sorted_any {H : Type} (b nn : Nat) (D0 : DataW H) (R : Value → Option (DataW H × List MemPlace)) (w : World) (hown : w.ownsMap Try.prog 9 R b nn D0) (hn : nn ≤ 4398046511104) :
    Calls Try.prog 36 #[.func (.func 55) #[] #[.pointer (some ⟨w.heap.size, 0, none⟩)]] (w.alloc (.cells #[.map (some b)] 56)) (ListOf w D0) := by
  have hs := hown.size_le
  refine (callsIn_wide.1 (Try.slices_Sorted_keys_36_37 b nn D0 R w hown (by unfold maxLen; omega) (by omega))).mono ?_
  rintro e w' ⟨v, ss, rfl, h1, h2, _, h4⟩
  exact ⟨v, ss, rfl, h1, h2.mono (by simp), (bnew (brefl w) _).trans (h4.mono (by simp))⟩
set_option maxRecDepth 100000 in
theorem list_any {H : Type} (w : World) (F : Foot) (D : DS H) (h : DiskAt w F D) (hf : D.fits) (hd : D.down = false) : Calls Try.prog 19 #[.pointer (some ⟨F.p, 0, none⟩)] w (ListOf w D.names) := by
  obtain ⟨_, c1, _, _, _, _, _, c7⟩ := h.cells
  rw [hd] at c7
  obtain ⟨n, ln, f⟩ := h.nam
  have HS := Lib.hid (sorted_any F.nb n D.names _ w f (by have := hf.c1; omega))
  clear h f hf hd
  go_enter Try.func19, Try.ntmps19
  go_wp2_with fail
  refine (keys_any _ _).mono ?_
  rintro e w1 ⟨rfl, rfl⟩
  go_wp2_with fail
  refine HS.out.mono ?_
  rintro e w2 ⟨v, ss, rfl, h1, h2, h3⟩
  go_wp2_with fail
  go_ret
  exact ⟨v, ss, rfl, h1, h2, h3⟩
end Go.Proofs.Ytfiphjhpjaddcaa
