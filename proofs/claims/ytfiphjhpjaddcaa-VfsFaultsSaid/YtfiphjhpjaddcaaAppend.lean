/- Disk.Append and Disk.Sync. -/
import Derived.Test.YtfiphjhpjaddcaaChange
namespace Go.Proofs.Ytfiphjhpjaddcaa
open Go.RowKit Go.Maps

def DS.append {H : Type} (D : DS H) (s x : ByteArray) : DS H × Int := D.change s (fun f => (f.1 ++ x.data.toList, f.2))
def DS.sync {H : Type} (D : DS H) (s : ByteArray) : DS H × Int := D.change s (fun f => (f.1, (f.1.length : Int)))
set_option maxRecDepth 100000 in
set_option maxHeartbeats 2000000 in
theorem append_any {H : Type} (w : World) (F : Foot) (D : DS H) (s x : ByteArray) (h : DiskAt w F D) (hf : D.fits) (hs : s.size ≤ maxLen) (hsz : (fileOf D.files (numOf D.names s)).1.length + x.size ≤ 9223372036854775807) :
    Calls Try.prog 11 #[.pointer (some ⟨F.p, 0, none⟩), .string s, .string x] w fun e w' => e = .returned (.int .i64 (D.append s x).2) ∧ DiskAt w' F (D.append s x).1 ∧ Fr F w w' := by
  have hp : F.p < w.heap.size := (Array.getElem?_eq_some_iff.1 h.blk).1
  have HC := Lib.hid (change_app (w.alloc (.cells #[.string x] 9)) F D s w.heap.size x (by have := news_at w #[.string x] 9 0 _ rfl; rwa [Addr.add_lit, Nat.zero_add] at this) hsz (by omega) (h.below (bnew (brefl w) _)) hf hs)
  clear h hf hs hsz hp
  go_enter Try.func11, Try.ntmps11
  go_wp2_with fail
  refine HC.out.mono ?_
  rintro e w1 ⟨rfl, hd1, hf1⟩
  have HD1 := Lib.hid hd1
  clear hd1
  go_wp2_with fail
  go_ret
  exact ⟨rfl, HD1.out, (Fr.of_below (bnew (brefl w) _)).trans hf1⟩
set_option maxRecDepth 100000 in
set_option maxHeartbeats 2000000 in
theorem sync_any {H : Type} (w : World) (F : Foot) (D : DS H) (s : ByteArray) (h : DiskAt w F D) (hf : D.fits) (hs : s.size ≤ maxLen) :
    Calls Try.prog 12 #[.pointer (some ⟨F.p, 0, none⟩), .string s] w fun e w' => e = .returned (.int .i64 (D.sync s).2) ∧ DiskAt w' F (D.sync s).1 ∧ Fr F w w' := by
  have HC := Lib.hid (change_syn w F D s h hf hs)
  clear h hf hs
  go_enter Try.func12, Try.ntmps12
  go_wp2_with fail
  refine HC.out.mono ?_
  rintro e w1 ⟨rfl, hd1, hf1⟩
  have HD1 := Lib.hid hd1
  clear hd1
  go_wp2_with fail
  go_ret
  exact ⟨rfl, HD1.out, hf1⟩
end Go.Proofs.Ytfiphjhpjaddcaa
