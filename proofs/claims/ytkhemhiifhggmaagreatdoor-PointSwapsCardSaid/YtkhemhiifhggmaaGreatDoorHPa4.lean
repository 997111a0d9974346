/- Disk.Restart. -/
import Derived.Test.YtkhemhiifhggmaaGreatDoorHPa3
set_option maxRecDepth 100000
set_option maxHeartbeats 40000000
namespace Go.Proofs.YtkhemhiifhggmaaGreatDoor
open Go.RowKit Go.Maps Go.Sort
theorem names_look0 {H : Type} {w : World} {b n : Nat} {N : DataW H} (h : w.ownsMap Tryz.prog 9 (plainElem Tryz.prog 3) b n N) (s : ByteArray) (hs : s.size ≤ maxLen) :
  (Instr.lookup 79 (.map (some b)) (.string s) false).run Tryz.prog w = .ok (.int .i64 (numOf N s)) w ∧ (Lit.int .i64 (numOf N s)).wf = true := by
 obtain ⟨c, hrun, hc, hw⟩ := h.lookup_int lawS Tryz.underlying79 Tryz.underlying3 (zeroI w) (Go.WideMaps.keyOf_string_mk Tryz.underlying9 hs)
 have e : numOf N s = c := by
  unfold numOf keyS
  rw [hc]
  rfl
 rw [e]
 exact ⟨hrun, hw⟩
def keysOf {H : Type} (N : DataW H) : List ByteArray := ((strKeys N).mergeSort leB).map bs
theorem keysOf_of_perm {H : Type} {N : DataW H} {ss : List (List UInt8)} (h : ss.Perm (strKeys N)) : (ss.mergeSort (fun x y => decide (x ≤ y))).map bs = keysOf N := by
 unfold keysOf
 rw [← mergeSort_of_perm h]
theorem keysOf_length {H : Type} (N : DataW H) : (keysOf N).length = (strKeys N).length := by simp [keysOf]
theorem strKeys_length {H : Type} (N : DataW H) : (strKeys N).length = Maps.size N := by
 cases N <;> simp [strKeys, Maps.size]
def r1 {H : Type} (K N : DataW H) (loss : Int) (st : Int × DataW H) (s : ByteArray) : Int × DataW H :=
 if numOf K s = numOf N s ∧ Maps.has K (keyS s) = Maps.has N (keyS s) then (st.1, if Maps.has K (keyS s) then st.2.put (keyS s) (.lit (.int .i64 (numOf K s))) else st.2)
 else if mixV loss (st.1 + 1) % 2 = 1 then (st.1 + 1, if Maps.has N (keyS s) then st.2.put (keyS s) (.lit (.int .i64 (numOf N s))) else st.2)
 else (st.1 + 1, if Maps.has K (keyS s) then st.2.put (keyS s) (.lit (.int .i64 (numOf K s))) else st.2)
def r2 {H : Type} (N F : DataW H) (loss : Int) (st : Int × DataW H) (s : ByteArray) : Int × DataW H :=
 if Maps.has st.2 (.int .i64 (numOf N s)) then st
 else if 0 < ((fileOf F (numOf N s)).1.length : Int) - (fileOf F (numOf N s)).2 then
  (st.1 + 1, st.2.put (.int .i64 (numOf N s)) (.agg [.lit (.string ((fileOf F (numOf N s)).1.take ((fileOf F (numOf N s)).2 + mixV loss (st.1 + 1) % (((fileOf F (numOf N s)).1.length : Int) - (fileOf F (numOf N s)).2 + 1)).toNat)), .lit (.int .i64 ((fileOf F (numOf N s)).2 + mixV loss (st.1 + 1) % (((fileOf F (numOf N s)).1.length : Int) - (fileOf F (numOf N s)).2 + 1)))]))
 else (st.1, st.2.put (.int .i64 (numOf N s)) (.agg [.lit (.string (fileOf F (numOf N s)).1), .lit (.int .i64 (fileOf F (numOf N s)).1.length)]))
def DS.all {H : Type} (D : DS H) : DataW H := Lib.mergeD D.kept D.names
def DS.half {H : Type} (D : DS H) (loss : Int) : Int × DataW H := (keysOf D.all).foldl (r1 D.kept D.names loss) (0, .map [])
def DS.full {H : Type} (D : DS H) (loss : Int) : Int × DataW H := (keysOf (D.half loss).2).foldl (r2 (D.half loss).2 D.files loss) ((D.half loss).1, .map [])
def DS.restart {H : Type} (D : DS H) (loss : Int) : DS H := { D with files := (D.full loss).2, names := (D.half loss).2, kept := (D.half loss).2, down := false, armed := -1, cap := 2 * D.cap }
theorem Fr.look {G : Foot} {w w' : World} (h : Fr G w w') {b : Nat} (o : Nat) (hb : b < w.heap.size) (h1 : b ≠ G.p) (h2 : b ≠ G.fb) (h3 : b ≠ G.nb) (h4 : b ≠ G.kb) : w'.cell? ⟨b, o, none⟩ = w.cell? ⟨b, o, none⟩ := by
 unfold World.cell?
 rw [h.block b hb h1 h2 h3 h4]
def Row (w : World) (A : Option Addr) (xs : List ByteArray) (p q : Nat) : Prop := 0 < xs.length → ∃ b off, A = some ⟨b, off, none⟩ ∧ b ≠ p ∧ b ≠ q ∧ b < w.heap.size ∧ ∀ j s, xs[j]? = some s → w.cell? ⟨b, off + j, none⟩ = some (.string s)
theorem Row.keep {w w' : World} {A : Option Addr} {xs : List ByteArray} {p q : Nat} (h : Row w A xs p q) (hf : Fr ⟨p, q, q, q⟩ w w') : Row w' A xs p q := fun hn => by
 obtain ⟨b, off, e, h1, h2, h3, h4⟩ := h hn
 exact ⟨b, off, e, h1, h2, Nat.lt_of_lt_of_le h3 hf.size, fun j s hj => (hf.look _ h3 h1 h2 h2 h2).trans (h4 j s hj)⟩
theorem row_of {w : World} {base : Nat} {v : Value} {ss : List (List UInt8)} (h : w.ownsRow base 9 1 v ss.length (ss.map encStr)) {p q : Nat} (hp : p < base) (hq : q < base) : ∃ A c, v = .slice A ss.length c ∧ Row w A (ss.map bs) p q := by
 obtain ⟨A, c, rfl, hc⟩ := own_shape h
 refine ⟨A, c, rfl, fun hn => ?_⟩
 obtain ⟨b, off, rfl, hb, hcell⟩ := (Sl.of_own h).at_ (k := 0) (by simpa using hn)
 have hbl := (h.lt b rfl).1
 exact ⟨b, off, rfl, by omega, by omega, hb, fun j s hj => hcell j _ (by
  rw [List.getElem?_map] at hj ⊢
  cases hh : ss[j]? with
  | none => rw [hh] at hj; cases hj
  | some z => rw [hh] at hj; cases hj; rfl)⟩
theorem bs_size (l : List UInt8) : (bs l).size = l.length := by
 show l.toArray.size = _
 rw [List.size_toArray]
theorem bs_take (l : List UInt8) (n : Nat) : (bs l).extract 0 n = bs (l.take n) := by
 have h : ((bs l).extract 0 n).data.toList = (bs (l.take n)).data.toList := by simp [bs, ByteArray.data_extract]
 exact tolist_inj.1 (by rw [ByteArray.toList_eq, ByteArray.toList_eq]; exact h)
theorem run_cut (l : List UInt8) (n : Int) (h0 : 0 ≤ n) (h1 : n ≤ (l.length : Int)) (w : World) : (Instr.slice 9 (.string (bs l)) none (some (.int .i64 n)) none).run Tryz.prog w = .ok (.string (bs (l.take n.toNat))) w := by
 have hb : n ≤ ((bs l).size : Int) := by rw [bs_size]; exact h1
 rw [← bs_take]
 simp [Instr.slice, run_underlying Tryz.underlying9, Instr.sliceBounds, run_sliceBound, h0, hb]
theorem blk_at {w : World} {b : Nat} {C : Array Value} {t : TypeId} (h : w.heap[b]? = some (.cells C t (0, 0))) : (∀ j, w.frozen? ⟨b, j, none⟩ = false) ∧ b < w.heap.size :=
 ⟨fun j => by unfold World.frozen?; rw [h]; simp, (Array.getElem?_eq_some_iff.1 h).1⟩
theorem map_fr {H : Type} {w w' : World} {G : Foot} {b k n : Nat} {R : Value → Option (DataW H × List MemPlace)} {D : DataW H} (h : w.ownsMap Tryz.prog k R b n D) (hf : Fr G w w') (h1 : b ≠ G.p) (h2 : b ≠ G.fb) (h3 : b ≠ G.nb) (h4 : b ≠ G.kb) : w'.ownsMap Tryz.prog k R b n D := by
 obtain ⟨es, clock, e1, e2, e3, e4⟩ := h
 exact ⟨es, clock, (hf.block b (Array.getElem?_eq_some_iff.1 e1).1 h1 h2 h3 h4).trans e1, e2, e3, e4⟩
theorem keysOf_le {H : Type} {w : World} {b n : Nat} {R : Value → Option (DataW H × List MemPlace)} {N : DataW H} (h : w.ownsMap Tryz.prog 9 R b n N) : ∀ s ∈ keysOf N, s.size ≤ maxLen := by
 intro s hs
 obtain ⟨l, hl, rfl⟩ := List.mem_map.1 hs
 have := strKeys_le h Tryz.underlying9 l ((List.mergeSort_perm _ _).mem_iff.1 hl)
 show l.toArray.size ≤ maxLen
 rw [List.size_toArray]
 exact this
structure Mid {H : Type} (w W : World) (ib nb : Nat) (kt : TypeId) (R : Value → Option (DataW H × List MemPlace)) (wr : World) (i : Int) (N : DataW H) (m : Nat) : Prop where
 below : Below w.heap.size w wr
 fr : Fr ⟨ib, nb, nb, nb⟩ W wr
 cnt : wr.heap[ib]? = some (.cells #[.int .i64 i] 3 (0, 0))
 own : wr.ownsMap Tryz.prog kt R nb m N
 hi : w.heap.size < ib
 hn : w.heap.size < nb
section
variable {H : Type} {w W wr w' : World} {ib nb : Nat} {kt : TypeId} {R : Value → Option (DataW H × List MemPlace)} {i : Int} {N N' : DataW H} {m m' : Nat}
theorem Mid.ne (h : Mid w W ib nb kt R wr i N m) : nb ≠ ib := map_ne_cells h.own h.cnt
theorem Mid.cell (h : Mid w W ib nb kt R wr i N m) : wr.cell? ⟨ib, 0, none⟩ = some (.int .i64 i) := cell_of_row _ ib 0 _ _ (0, 0) h.cnt
theorem Mid.free (h : Mid w W ib nb kt R wr i N m) : wr.frozen? ⟨ib, 0, none⟩ = false := by
 unfold World.frozen?
 rw [h.cnt]
 simp
theorem Mid.next (h : Mid w W ib nb kt R wr i N m) (j : Int) : Mid w W ib nb kt R (wr.setCell ⟨ib, 0, none⟩ (.int .i64 j)) j N m :=
 ⟨h.below.trans ⟨rfl, rfl, rfl, by simp [World.setCell], fun k hk => Below.heap_setCell _ _ _ _ (by have := h.hi; show k ≠ ib; omega)⟩, h.fr.set 0 _, by rw [blk_set h.cnt]; rfl, h.own.setCell h.ne _, h.hi, h.hn⟩
theorem Mid.put (h : Mid w W ib nb kt R wr i N m) (ho : w'.ownsMap Tryz.prog kt R nb m' N') (hg : wr.grownBy w' (some nb)) : Mid w W ib nb kt R w' i N' m' :=
 ⟨h.below.trans ⟨hg.os, hg.tape, hg.output, hg.size, fun k hk => hg.block k (by have := h.below.size; omega) (by have := h.hn; simp; omega)⟩, h.fr.grown hg (.inl rfl), by
  rw [hg.block ib (Array.getElem?_eq_some_iff.1 h.cnt).1 (by have := h.ne; simp; omega)]
  exact h.cnt, ho, h.hi, h.hn⟩
theorem Mid.drew (h : Mid w W ib nb kt R wr i N m) : Mid w W ib nb kt R wr.drew i N m :=
 ⟨⟨h.below.os, h.below.tape, h.below.output, h.below.size, h.below.block⟩, ⟨h.fr.os, h.fr.tape, h.fr.output, h.fr.size, h.fr.block⟩, h.cnt, h.own.drew, h.hi, h.hn⟩
theorem Mid.beside (h : Mid w W ib nb kt R wr i N m) {tb : Nat} (hb : W.heap.size ≤ tb) (hw : w.heap.size ≤ W.heap.size) (h1 : tb ≠ ib) (h2 : tb ≠ nb) (j : Nat) (v : Value) : Mid w W ib nb kt R (wr.setCell ⟨tb, j, none⟩ v) i N m :=
 ⟨h.below.trans ⟨rfl, rfl, rfl, by simp [World.setCell], fun k hk => Below.heap_setCell _ _ _ _ (by show k ≠ tb; omega)⟩, ⟨h.fr.os, h.fr.tape, h.fr.output, by simp [World.setCell]; exact h.fr.size, fun k hk e1 e2 e3 e4 => (Below.heap_setCell _ _ _ _ (by show k ≠ tb; omega)).trans (h.fr.block k hk e1 e2 e3 e4)⟩, (Below.heap_setCell _ _ _ _ (by show ib ≠ tb; omega)).trans h.cnt, h.own.setCell (Ne.symm h2) _, h.hi, h.hn⟩
theorem Mid.on (h : Mid w W ib nb kt R wr i N m) (hb : Below wr.heap.size wr w') : Mid w W ib nb kt R w' i N m :=
 ⟨bcall h.below hb, h.fr.trans (Fr.of_below hb), (hb.block ib (Array.getElem?_eq_some_iff.1 h.cnt).1).trans h.cnt, map_below h.own hb, h.hi, h.hn⟩
end
end Go.Proofs.YtkhemhiifhggmaaGreatDoor
namespace Go.Proofs.YtkhemhiifhggmaaGreatDoor
open Go.RowKit Go.Maps Go.Sort
theorem copy_any {H : Type} (w : World) (bd bs nd ns : Nat) (Dd Ds : DataW H) (hd : w.ownsMap Tryz.prog 9 (plainElem Tryz.prog 3) bd nd Dd) (hs : w.ownsMap Tryz.prog 9 (plainElem Tryz.prog 3) bs ns Ds) (hne : bs ≠ bd) (hroom : nd + ns ≤ maxLen) :
  Calls Tryz.prog 55 #[.map (some bd), .map (some bs)] w fun e w' => e = .returned (.tuple #[]) ∧ w'.ownsMap Tryz.prog 9 (plainElem Tryz.prog 3) bd (nd + ns) (Lib.mergeD Dd Ds) ∧ w.grownBy w' (some bd) := by
 have hz := hs.size_le
 refine (AnyX.maps_Copy_opt Tryz.copy55 lawS (plainElem Tryz.prog 3) bd nd (some bs) Dd Ds w hd (.inr ⟨bs, ns, rfl, hs⟩) (by simpa using hne) (by omega)).mono ?_
 rintro e w' ⟨h1, h2, h3⟩
 exact ⟨h1, h2.mono (by omega), h3⟩
theorem restart_any {H : Type} (w : World) (F : Foot) (D : DS H) (loss : Int) (h : DiskAt w F D) (hc : D.cap ≤ 1099511627776) (hsure : ∀ k, 0 ≤ (fileOf D.files k).2 ∧ (fileOf D.files k).1.length ≤ 4611686018427387904) :
  Calls Tryz.prog 24 #[.pointer (some ⟨F.p, 0, none⟩), .int .i64 loss] w fun e w' => e = .returned (.int .i64 0) ∧ NewFoot w F (D.restart loss) w' ∧ Fr F w w' := by
 have HD := Lib.hid h
 have HS := Lib.hid hsure
 have hd1 := h.below (bnew (brefl w) (.cells #[.int .i64 loss] 3))
 have c2 := hd1.cells.2.2.1
 obtain ⟨n3, ln3, f3⟩ := hd1.kep
 have HC := Lib.hid (clone_any _ _ _ _ f3)
 have HL3 := Lib.hid ln3
 clear h hsure hd1 f3 ln3
 go_enter Tryz.func24, Tryz.ntmps24
 go_wp2_with fail
 refine HC.out.mono ?_
 rintro e w2 ⟨rfl, ho2, hb2⟩
 have HB2 := Lib.hid (bcall (bnew (brefl w) _) hb2)
 have hsz2 := hb2.size
 simp only [World.size_alloc] at hsz2
 have hL2 : Hid (w2.heap[w.heap.size]? = some (.cells #[.int .i64 loss] 3 (0, 0))) := by
  show _ = _
  rw [hb2.block w.heap.size (by rw [World.size_alloc]; omega)]
  exact heap_alloc_new w _
 have HO2 := Lib.hid ho2
 rw [World.size_alloc] at HO2
 clear hb2 ho2 c2
 have hd2 := HD.out.below HB2.out
 have c1 := hd2.cells.2.1
 have hnb : F.nb < w.heap.size := by
  obtain ⟨n, _, f⟩ := HD.out.nam
  exact f.lt
 obtain ⟨n2, ln2, f2⟩ := hd2.nam
 have HL2 := Lib.hid ln2
 have HC3 := Lib.hid (copy_any w2 (w.heap.size + 1) F.nb n3 n2 D.kept D.names HO2.out f2 (by omega) (by have := HL3.out; unfold maxLen; omega))
 clear hd2 f2 ln2 HC
 go_wp2_with fail
 refine HC3.out.mono ?_
 rintro e w3 ⟨rfl, ho3, hg3⟩
 have HB3 : Hid (Below w.heap.size w w3) := HB2.out.grown hg3 (by omega) (by intro k hk; simp at hk; omega)
 have hL3 : Hid (w3.heap[w.heap.size]? = some (.cells #[.int .i64 loss] 3 (0, 0))) := by
  show _ = _
  rw [hg3.block w.heap.size (by omega) (by simp)]
  exact hL2.out
 have HO3 : Hid (w3.ownsMap Tryz.prog 9 (plainElem Tryz.prog 3) (w.heap.size + 1) (n3 + n2) D.all) := ho3
 have hsz3 := hg3.size
 clear ho3 hg3 hL2 HO2 HB2 HC3 c1
 have hmm := @run_makeMap Tryz.prog
 go_wp2_with fail
 refine (keys_any _ _).mono ?_
 rintro e w6 ⟨rfl, rfl⟩
 have HS5 := Lib.hid (sorted_any (w.heap.size + 1) (n3 + n2) D.all _ _ ((HO3.out.alloc (.cells #[.int .i64 0] 3)).alloc (.map #[] 0)) (by have := HL3.out; have := HL2.out; omega))
 obtain ⟨W5, hW5⟩ : ∃ W5, (w3.alloc (.cells #[.int .i64 0] 3)).alloc (.map #[] 0) = W5 := ⟨_, rfl⟩
 have hs5 : W5.heap.size = w3.heap.size + 2 := by rw [← hW5]; simp
 have HB5 : Hid (Below w.heap.size w W5) := by
  show Below _ _ _
  rw [← hW5]
  exact bnew (bnew HB3.out _) _
 have hL5 : Hid (W5.heap[w.heap.size]? = some (.cells #[.int .i64 loss] 3 (0, 0))) := by
  show _ = _
  rw [← hW5, (bnew (bnew (brefl w3) (.cells #[.int .i64 0] 3)) (.map #[] 0)).block w.heap.size (by omega)]
  exact hL3.out
 have hI5 : Hid (W5.heap[w3.heap.size]? = some (.cells #[.int .i64 0] 3 (0, 0))) := by
  show _ = _
  rw [← hW5, (bnew (brefl (w3.alloc (.cells #[.int .i64 0] 3))) (.map #[] 0)).block w3.heap.size (by simp)]
  exact heap_alloc_new w3 _
 have hN5 : Hid (W5.ownsMap Tryz.prog 9 (plainElem Tryz.prog 3) (w3.heap.size + 1) 0 (.map [] : DataW H)) := by
  have := World.ownsMap_made (H := H) (w3.alloc (.cells #[.int .i64 0] 3)) Tryz.prog 9 (plainElem Tryz.prog 3)
  rw [World.size_alloc, hW5] at this
  exact this
 have HLE : Hid (∀ s ∈ keysOf D.all, s.size ≤ maxLen) := keysOf_le HO3.out
 have hsz : Maps.size D.all ≤ n3 + n2 := HO3.out.size_le
 have hlb : w.heap.size < w3.heap.size := by omega
 rw [hW5] at HS5 ⊢
 clear hW5 hL3 HB3 HO3 hsz3 hsz2
 generalize w3.heap.size = ib at *
 rw [hs5] at HS5
 go_wp2_with fail
 refine HS5.out.mono ?_
 rintro e W7 ⟨v, ss, rfl, hp, hown, hb7⟩
 have hln : (keysOf D.all).length = ss.length := by rw [keysOf_length]; exact hp.length_eq.symm
 rw [keysOf_length, strKeys_length] at hln
 have hown' : W7.ownsRow W5.heap.size 9 1 v (ss.mergeSort (fun x y => decide (x ≤ y))).length ((ss.mergeSort (fun x y => decide (x ≤ y))).map encStr) := by rw [List.length_mergeSort]; exact hown
 obtain ⟨A, c, rfl, hrow⟩ := row_of hown' (p := ib) (q := ib + 1) (by omega) (by omega)
 rw [keysOf_of_perm hp] at hrow
 obtain ⟨ks, hks⟩ : ∃ ks, keysOf D.all = ks := ⟨_, rfl⟩
 have HH : Hid (D.half loss = ks.foldl (r1 D.kept D.names loss) (0, .map [])) := by
  show _ = _
  rw [← hks]
  rfl
 have HKL : Hid (ks.length = (ss.mergeSort (fun x y => decide (x ≤ y))).length) := by
  show _ = _
  rw [← hks, ← keysOf_of_perm hp, List.length_map]
 have hnn : (ss.mergeSort (fun x y => decide (x ≤ y))).length ≤ n3 + n2 := by rw [List.length_mergeSort]; omega
 rw [hks] at hrow HLE
 generalize (ss.mergeSort (fun x y => decide (x ≤ y))).length = n at *
 have HROW := Lib.hid hrow
 have HM7 : Hid (Mid w W7 ib (ib + 1) 9 (plainElem Tryz.prog 3) W7 0 (.map [] : DataW H) 0) :=
  ⟨bcall HB5.out hb7, Fr.refl _ _, (hb7.block ib (by omega)).trans hI5.out, map_below hN5.out hb7, hlb, by omega⟩
 have hL7 : Hid (W7.heap[w.heap.size]? = some (.cells #[.int .i64 loss] 3 (0, 0))) := (hb7.block _ (by omega)).trans hL5.out
 have hs7 := hb7.size
 clear hown hown' hrow hks hp hb7 HB5 hL5 hI5 hN5 HS5 hln
 go_wp2_with fail
 have hn40 : n ≤ 2199023255552 := by have := HL3.out; have := HL2.out; omega
 go_loopw [42] (fun i wr => ∃ (k m : Nat) (st : Int × DataW H), k ≤ n ∧ i = .int .i64 k ∧ Hid (Mid w W7 ib (ib + 1) 9 (plainElem Tryz.prog 3) wr st.1 st.2 m) ∧ Hid ((ks.take k).foldl (r1 D.kept D.names loss) (0, .map []) = st) ∧ m ≤ k ∧ 0 ≤ st.1 ∧ st.1 ≤ k) (fun i _ => n - (intOf i).toNat)
 case atStart => exact ⟨0, 0, (0, .map []), Nat.zero_le _, rfl, HM7, rfl, Nat.le_refl _, Int.le_refl _, Int.le_refl _⟩
 case round =>
  obtain ⟨k, m, st, hk, rfl, hmid, hst, hmk, hs0, hs1⟩ := hrel
  by_cases hlt : k < n
  ·obtain ⟨b, off, hA, hb1, hb2, hbl, hcell⟩ := (HROW.out.keep hmid.out.fr) (by rw [HKL.out]; omega)
   subst hA
   obtain ⟨s, hks⟩ : ∃ s, ks[k]? = some s := ⟨ks[k]'(by rw [HKL.out]; exact hlt), List.getElem?_eq_getElem _⟩
   have hc0 := hcell k s hks
   have hss := HLE.out s (List.mem_of_getElem? hks)
   have hd := HD.out.below hmid.out.below
   have hcc := hd.cells
   have c1 := hcc.2.1
   have c2 := hcc.2.2.1
   obtain ⟨_, _, f2⟩ := hd.nam
   obtain ⟨_, _, f3⟩ := hd.kep
   obtain ⟨lk3, wf3, _⟩ := names_look f3 s hss
   obtain ⟨lk2, wf2, _⟩ := names_look f2 s hss
   have HT : Hid ((ks.take (k + 1)).foldl (r1 D.kept D.names loss) (0, .map []) = r1 D.kept D.names loss st s) := by
    show _ = _
    rw [List.take_add_one, hks, List.foldl_append, hst.out]
    rfl
   unfold r1 at HT
   have HP := Lib.hid (fun (Wn : World) (j : Int) (z : Int) (hz : (Lit.int .i64 z).wf = true) (hM : Mid w W7 ib (ib + 1) 9 (plainElem Tryz.prog 3) Wn j st.2 m) =>
    hM.own.store lawS Tryz.underlying79 (by unfold maxLen; omega) (Go.WideMaps.keyOf_string_mk Tryz.underlying9 hss) (plainElem_int Tryz.underlying3 hz))
   generalize numOf D.kept s = x at *
   generalize numOf D.names s = y at *
   generalize Maps.has D.kept (keyS s) = old at *
   generalize Maps.has D.names (keyS s) = now at *
   clear hcell hks hd f2 f3 hss hcc hst
   by_cases hxy : x = y ∧ old = now
   ·obtain ⟨rfl, rfl⟩ := hxy
    cases old with
    |
     false =>
     go_wp2_with fail
     go_roundw
     case rel =>
      refine ⟨k + 1, m, _, by omega, by go_num, ?_, HT.out, by omega, ?_, ?_⟩
      ·rw [if_pos ⟨rfl, rfl⟩]; exact hmid
      ·rw [if_pos ⟨rfl, rfl⟩]; exact hs0
      ·rw [if_pos ⟨rfl, rfl⟩]; show st.1 ≤ _; omega
     case measure => simp [intOf]; omega
    |
     true =>
     obtain ⟨w8, run8, ho8, ht8⟩ := HP.out wr st.1 x wf3 hmid.out
     have HM8 : Hid (Mid w W7 ib (ib + 1) 9 (plainElem Tryz.prog 3) w8 st.1 (st.2.put (keyS s) (.lit (.int .i64 x))) (m + 1)) := hmid.out.put ho8 ht8.grown
     clear ho8 ht8
     go_wp2_with fail
     go_roundw
     case rel =>
      refine ⟨k + 1, m + 1, _, by omega, by go_num, ?_, HT.out, by omega, ?_, ?_⟩
      ·rw [if_pos ⟨rfl, rfl⟩]; exact HM8
      ·rw [if_pos ⟨rfl, rfl⟩]; exact hs0
      ·rw [if_pos ⟨rfl, rfl⟩]; show st.1 ≤ _; omega
     case measure => simp [intOf]; omega
   ·have HX : Hid (∀ (wz : World) (j : Int), Mid w W7 ib (ib + 1) 9 (plainElem Tryz.prog 3) wz j st.2 m → wz.cell? ⟨w.heap.size, 0, none⟩ = some (.int .i64 loss)) := by
     intro wz j hM
     refine cell_of_row _ w.heap.size 0 _ _ (0, 0) ((hM.fr.block _ (by omega) (by show _ ≠ ib; omega) (by show _ ≠ ib + 1; omega) (by show _ ≠ ib + 1; omega) (by show _ ≠ ib + 1; omega)).trans hL7.out)
    have HNX := Lib.hid (fun (h0 : 0 ≤ st.1) (h1 : st.1 ≤ 1099511627776000) => next_any wr ib w.heap.size st.1 loss hmid.out.cell (HX.out _ _ hmid.out) (by omega) hmid.out.free h0 h1)
    have hbit := mixV_range loss (st.1 + 1)
    generalize mixV loss (st.1 + 1) = b1 at *
    obtain ⟨hbit0, hbit1⟩ := hbit
    rw [if_neg hxy] at HT
    have HM9 := Lib.hid (hmid.out.next (st.1 + 1))
    cases old with
    |
     false =>
     cases now with
     |
      false =>
      have hxy2 : (x != y) = true := by simpa using hxy
      clear hxy
      go_wp2_with fail
      refine (HNX.out hs0 (by omega)).mono ?_
      rintro e w9 ⟨rfl, rfl⟩
      by_cases hb1 : b1 % 2 = 1
      ·skip
       go_wp2_with fail
       go_roundw
       case rel =>
        refine ⟨k + 1, m, _, by omega, by go_num, ?_, HT.out, by omega, ?_, ?_⟩
        ·rw [if_pos hb1]; exact HM9.out
        ·rw [if_pos hb1]; show 0 ≤ st.1 + 1; omega
        ·rw [if_pos hb1]; show st.1 + 1 ≤ _; omega
       case measure => simp [intOf]; omega
      ·skip
       go_wp2_with fail
       go_roundw
       case rel =>
        refine ⟨k + 1, m, _, by omega, by go_num, ?_, HT.out, by omega, ?_, ?_⟩
        ·rw [if_neg hb1]; exact HM9.out
        ·rw [if_neg hb1]; show 0 ≤ st.1 + 1; omega
        ·rw [if_neg hb1]; show st.1 + 1 ≤ _; omega
       case measure => simp [intOf]; omega
     |
      true =>
      by_cases hq : x = y
      ·subst hq
       have hxy2 : (x != x) = false := by simp
       clear hxy
       go_wp2_with fail
       refine (HNX.out hs0 (by omega)).mono ?_
       rintro e w9 ⟨rfl, rfl⟩
       by_cases hb1 : b1 % 2 = 1
       ·skip
        obtain ⟨w8, run8, ho8, ht8⟩ := HP.out _ _ x wf2 HM9.out
        have HM8 : Hid (Mid w W7 ib (ib + 1) 9 (plainElem Tryz.prog 3) w8 (st.1 + 1) (st.2.put (keyS s) (.lit (.int .i64 x))) (m + 1)) := HM9.out.put ho8 ht8.grown
        clear ho8 ht8
        go_wp2_with fail
        go_roundw
        case rel =>
         refine ⟨k + 1, m + 1, _, by omega, by go_num, ?_, HT.out, by omega, ?_, ?_⟩
         ·rw [if_pos hb1]; exact HM8.out
         ·rw [if_pos hb1]; show 0 ≤ st.1 + 1; omega
         ·rw [if_pos hb1]; show st.1 + 1 ≤ _; omega
        case measure => simp [intOf]; omega
       ·skip
        go_wp2_with fail
        go_roundw
        case rel =>
         refine ⟨k + 1, m, _, by omega, by go_num, ?_, HT.out, by omega, ?_, ?_⟩
         ·rw [if_neg hb1]; exact HM9.out
         ·rw [if_neg hb1]; show 0 ≤ st.1 + 1; omega
         ·rw [if_neg hb1]; show st.1 + 1 ≤ _; omega
        case measure => simp [intOf]; omega
      ·have hxy2 : (x != y) = true := by simpa using hq
       clear hq
       clear hxy
       go_wp2_with fail
       refine (HNX.out hs0 (by omega)).mono ?_
       rintro e w9 ⟨rfl, rfl⟩
       by_cases hb1 : b1 % 2 = 1
       ·skip
        obtain ⟨w8, run8, ho8, ht8⟩ := HP.out _ _ y wf2 HM9.out
        have HM8 : Hid (Mid w W7 ib (ib + 1) 9 (plainElem Tryz.prog 3) w8 (st.1 + 1) (st.2.put (keyS s) (.lit (.int .i64 y))) (m + 1)) := HM9.out.put ho8 ht8.grown
        clear ho8 ht8
        go_wp2_with fail
        go_roundw
        case rel =>
         refine ⟨k + 1, m + 1, _, by omega, by go_num, ?_, HT.out, by omega, ?_, ?_⟩
         ·rw [if_pos hb1]; exact HM8.out
         ·rw [if_pos hb1]; show 0 ≤ st.1 + 1; omega
         ·rw [if_pos hb1]; show st.1 + 1 ≤ _; omega
        case measure => simp [intOf]; omega
       ·skip
        go_wp2_with fail
        go_roundw
        case rel =>
         refine ⟨k + 1, m, _, by omega, by go_num, ?_, HT.out, by omega, ?_, ?_⟩
         ·rw [if_neg hb1]; exact HM9.out
         ·rw [if_neg hb1]; show 0 ≤ st.1 + 1; omega
         ·rw [if_neg hb1]; show st.1 + 1 ≤ _; omega
        case measure => simp [intOf]; omega
    |
     true =>
     cases now with
     |
      false =>
      by_cases hq : x = y
      ·subst hq
       have hxy2 : (x != x) = false := by simp
       clear hxy
       go_wp2_with fail
       refine (HNX.out hs0 (by omega)).mono ?_
       rintro e w9 ⟨rfl, rfl⟩
       by_cases hb1 : b1 % 2 = 1
       ·skip
        go_wp2_with fail
        go_roundw
        case rel =>
         refine ⟨k + 1, m, _, by omega, by go_num, ?_, HT.out, by omega, ?_, ?_⟩
         ·rw [if_pos hb1]; exact HM9.out
         ·rw [if_pos hb1]; show 0 ≤ st.1 + 1; omega
         ·rw [if_pos hb1]; show st.1 + 1 ≤ _; omega
        case measure => simp [intOf]; omega
       ·skip
        obtain ⟨w8, run8, ho8, ht8⟩ := HP.out _ _ x wf3 HM9.out
        have HM8 : Hid (Mid w W7 ib (ib + 1) 9 (plainElem Tryz.prog 3) w8 (st.1 + 1) (st.2.put (keyS s) (.lit (.int .i64 x))) (m + 1)) := HM9.out.put ho8 ht8.grown
        clear ho8 ht8
        go_wp2_with fail
        go_roundw
        case rel =>
         refine ⟨k + 1, m + 1, _, by omega, by go_num, ?_, HT.out, by omega, ?_, ?_⟩
         ·rw [if_neg hb1]; exact HM8.out
         ·rw [if_neg hb1]; show 0 ≤ st.1 + 1; omega
         ·rw [if_neg hb1]; show st.1 + 1 ≤ _; omega
        case measure => simp [intOf]; omega
      ·have hxy2 : (x != y) = true := by simpa using hq
       clear hq
       clear hxy
       go_wp2_with fail
       refine (HNX.out hs0 (by omega)).mono ?_
       rintro e w9 ⟨rfl, rfl⟩
       by_cases hb1 : b1 % 2 = 1
       ·skip
        go_wp2_with fail
        go_roundw
        case rel =>
         refine ⟨k + 1, m, _, by omega, by go_num, ?_, HT.out, by omega, ?_, ?_⟩
         ·rw [if_pos hb1]; exact HM9.out
         ·rw [if_pos hb1]; show 0 ≤ st.1 + 1; omega
         ·rw [if_pos hb1]; show st.1 + 1 ≤ _; omega
        case measure => simp [intOf]; omega
       ·skip
        obtain ⟨w8, run8, ho8, ht8⟩ := HP.out _ _ x wf3 HM9.out
        have HM8 : Hid (Mid w W7 ib (ib + 1) 9 (plainElem Tryz.prog 3) w8 (st.1 + 1) (st.2.put (keyS s) (.lit (.int .i64 x))) (m + 1)) := HM9.out.put ho8 ht8.grown
        clear ho8 ht8
        go_wp2_with fail
        go_roundw
        case rel =>
         refine ⟨k + 1, m + 1, _, by omega, by go_num, ?_, HT.out, by omega, ?_, ?_⟩
         ·rw [if_neg hb1]; exact HM8.out
         ·rw [if_neg hb1]; show 0 ≤ st.1 + 1; omega
         ·rw [if_neg hb1]; show st.1 + 1 ≤ _; omega
        case measure => simp [intOf]; omega
     |
      true =>
      have hxy2 : (x != y) = true := by simpa using hxy
      clear hxy
      go_wp2_with fail
      refine (HNX.out hs0 (by omega)).mono ?_
      rintro e w9 ⟨rfl, rfl⟩
      by_cases hb1 : b1 % 2 = 1
      ·skip
       obtain ⟨w8, run8, ho8, ht8⟩ := HP.out _ _ y wf2 HM9.out
       have HM8 : Hid (Mid w W7 ib (ib + 1) 9 (plainElem Tryz.prog 3) w8 (st.1 + 1) (st.2.put (keyS s) (.lit (.int .i64 y))) (m + 1)) := HM9.out.put ho8 ht8.grown
       clear ho8 ht8
       go_wp2_with fail
       go_roundw
       case rel =>
        refine ⟨k + 1, m + 1, _, by omega, by go_num, ?_, HT.out, by omega, ?_, ?_⟩
        ·rw [if_pos hb1]; exact HM8.out
        ·rw [if_pos hb1]; show 0 ≤ st.1 + 1; omega
        ·rw [if_pos hb1]; show st.1 + 1 ≤ _; omega
       case measure => simp [intOf]; omega
      ·skip
       obtain ⟨w8, run8, ho8, ht8⟩ := HP.out _ _ x wf3 HM9.out
       have HM8 : Hid (Mid w W7 ib (ib + 1) 9 (plainElem Tryz.prog 3) w8 (st.1 + 1) (st.2.put (keyS s) (.lit (.int .i64 x))) (m + 1)) := HM9.out.put ho8 ht8.grown
       clear ho8 ht8
       go_wp2_with fail
       go_roundw
       case rel =>
        refine ⟨k + 1, m + 1, _, by omega, by go_num, ?_, HT.out, by omega, ?_, ?_⟩
        ·rw [if_neg hb1]; exact HM8.out
        ·rw [if_neg hb1]; show 0 ≤ st.1 + 1; omega
        ·rw [if_neg hb1]; show st.1 + 1 ≤ _; omega
       case measure => simp [intOf]; omega
  ·obtain rfl : k = n := by omega
   have hhalf : Hid (D.half loss = st) := by
    show _ = _
    rw [HH.out, ← hst.out, List.take_of_length_le (Nat.le_of_eq HKL.out)]
   have hN1 := hmid.out.own
   have HLE2 := Lib.hid (keysOf_le hN1)
   have hsz2 := hN1.size_le
   have HN1 := Lib.hid hN1
   have hz7 := hmid.out.fr.size
   have HM1 : Hid (Below w.heap.size w wr ∧ wr.heap[ib]? = some (.cells #[.int .i64 st.1] 3 (0, 0)) ∧ wr.heap[w.heap.size]? = some (.cells #[.int .i64 loss] 3 (0, 0))) :=
    ⟨hmid.out.below, hmid.out.cnt, (hmid.out.fr.block _ (by omega) (by show _ ≠ ib; omega) (by show _ ≠ ib + 1; omega) (by show _ ≠ ib + 1; omega) (by show _ ≠ ib + 1; omega)).trans hL7.out⟩
   clear hN1 hmid hst HROW HLE HH HKL HM7 hL7 hlt
   go_wp2_with fail
   refine (keys_any _ _).mono ?_
   rintro e w6 ⟨rfl, rfl⟩
   have HS5 := Lib.hid (sorted_any (ib + 1) m st.2 _ (wr.alloc (.map #[] 0)) (HN1.out.alloc (.map #[] 0)) (by omega))
   rw [World.size_alloc] at HS5
   go_wp2_with fail
   refine HS5.out.mono ?_
   rintro e W11 ⟨v, ss', rfl, hp, hown, hb11⟩
   rw [World.size_alloc] at hown hb11
   have hln : (keysOf st.2).length = ss'.length := by rw [keysOf_length]; exact hp.length_eq.symm
   rw [keysOf_length, strKeys_length] at hln
   have hown' : W11.ownsRow (wr.heap.size + 1) 9 1 v (ss'.mergeSort (fun x y => decide (x ≤ y))).length ((ss'.mergeSort (fun x y => decide (x ≤ y))).map encStr) := by rw [List.length_mergeSort]; exact hown
   obtain ⟨A', c', rfl, hrow⟩ := row_of hown' (p := ib) (q := wr.heap.size) (by omega) (by omega)
   rw [keysOf_of_perm hp] at hrow
   obtain ⟨ks', hks'⟩ : ∃ ks', keysOf st.2 = ks' := ⟨_, rfl⟩
   have HH : Hid (D.full loss = ks'.foldl (r2 st.2 D.files loss) (st.1, .map [])) := by
    show _ = _
    rw [← hks']
    unfold DS.full
    rw [hhalf.out]
   have HKL : Hid (ks'.length = (ss'.mergeSort (fun x y => decide (x ≤ y))).length) := by
    show _ = _
    rw [← hks', ← keysOf_of_perm hp, List.length_map]
   have hnn' : (ss'.mergeSort (fun x y => decide (x ≤ y))).length ≤ k := by rw [List.length_mergeSort]; omega
   rw [hks'] at hrow HLE2
   generalize (ss'.mergeSort (fun x y => decide (x ≤ y))).length = n' at *
   have HROW := Lib.hid hrow
   have hba := bcall (bnew (brefl wr) (.map #[] 0)) (by rw [World.size_alloc]; exact hb11)
   have HM11 : Hid (Mid w W11 ib wr.heap.size 3 fileElem W11 st.1 (.map [] : DataW H) 0) :=
    ⟨bcall HM1.out.1 hba, Fr.refl _ _, (hba.block ib (by omega)).trans HM1.out.2.1, by
     have := World.ownsMap_made (H := H) wr Tryz.prog 3 fileElem
     exact map_below this (by rw [World.size_alloc]; exact hb11), hlb, by omega⟩
   have hL11 : Hid (W11.heap[w.heap.size]? = some (.cells #[.int .i64 loss] 3 (0, 0))) := (hba.block _ (by omega)).trans HM1.out.2.2
   have HN11 : Hid (W11.ownsMap Tryz.prog 9 (plainElem Tryz.prog 3) (ib + 1) m st.2) := map_below HN1.out hba
   have hs11 := hb11.size
   clear hown hown' hrow hks' hp hb11 hba HM1 HN1 HS5 hln
   go_wp2_with fail
   rw [World.size_alloc] at hs11
   have hfi : ib + 2 ≤ wr.heap.size := by omega
   clear hz7 hs7 hs5
   generalize wr.heap.size = fb at *
   go_loopw [90] (fun i w' => ∃ (q m' : Nat) (st' : Int × DataW H), q ≤ n' ∧ i = .int .i64 q ∧ Hid (Mid w W11 ib fb 3 fileElem w' st'.1 st'.2 m') ∧ Hid ((ks'.take q).foldl (r2 st.2 D.files loss) (st.1, .map []) = st') ∧ m' ≤ q ∧ 0 ≤ st'.1 ∧ st'.1 ≤ k + q) (fun i _ => n' - (intOf i).toNat)
   case atStart => exact ⟨0, 0, (st.1, .map []), Nat.zero_le _, rfl, HM11, rfl, Nat.le_refl _, hs0, by show st.1 ≤ _; omega⟩
   case round =>
    obtain ⟨q, m', st', hq, rfl, hmid, hst, hmq, ht0, ht1⟩ := hrel
    by_cases hlt : q < n'
    ·obtain ⟨b, off, hA, hb1, hb2, hbl, hcell⟩ := (HROW.out.keep hmid.out.fr) (by rw [HKL.out]; omega)
     subst hA
     obtain ⟨s, hks⟩ : ∃ s, ks'[q]? = some s := ⟨ks'[q]'(by rw [HKL.out]; exact hlt), List.getElem?_eq_getElem _⟩
     have hc0 := hcell q s hks
     have hss := HLE2.out s (List.mem_of_getElem? hks)
     have hd := HD.out.below hmid.out.below
     have hcc := hd.cells
     have cc0 := hcc.1
     obtain ⟨_, _, f1⟩ := hd.fil
     obtain ⟨lk0, wf0⟩ := names_look0 (map_fr HN11.out hmid.out.fr (by show ib + 1 ≠ ib; omega) (by show ib + 1 ≠ fb; omega) (by show ib + 1 ≠ fb; omega) (by show ib + 1 ≠ fb; omega)) s hss
     obtain ⟨_, lk1, hlk1, _, hfs, hfw, _⟩ := files_look f1 (numOf st.2 s) wf0 false
     rw [hlk1 rfl] at lk1
     obtain ⟨hsu, hlen62⟩ := HS.out (numOf st.2 s)
     have HT : Hid ((ks'.take (q + 1)).foldl (r2 st.2 D.files loss) (st.1, .map []) = r2 st.2 D.files loss st' s) := by
      show _ = _
      rw [List.take_add_one, hks, List.foldl_append, hst.out]
      rfl
     unfold r2 at HT
     generalize hfo : fileOf D.files (numOf st.2 s) = f at *
     generalize numOf st.2 s = kf at *
     obtain ⟨_, lk4, _, hlk4, _, _, _⟩ := files_look (hmid.out.own.alloc (.cells #[.string (bs f.1), .int .i64 f.2] 98)) kf wf0 true
     rw [hlk4 rfl] at lk4
     generalize fileOf st'.2 kf = g at *
     have HM2 : Hid (Mid w W11 ib fb 3 fileElem ((wr.alloc (.cells #[.string (bs f.1), .int .i64 f.2] 98)).alloc (.cells #[.string (bs g.1), .int .i64 g.2] 98)) st'.1 st'.2 m') := hmid.out.on (bnew (bnew (brefl wr) _) _)
     have htb : W11.heap.size ≤ wr.heap.size := hmid.out.fr.size
     have hib : ib < wr.heap.size := (Array.getElem?_eq_some_iff.1 hmid.out.cnt).1
     clear hcell hks hd f1 hss hcc hst hlk1 hlk4 hmid
     cases hdone : Maps.has st'.2 (.int .i64 kf) with
     |
      true =>
      rw [hdone] at lk4
      have HT' := HT.out
      rw [if_pos hdone] at HT'
      have HT2 := Lib.hid HT'
      clear HT' HT hdone
      go_wp2_with fail
      go_roundw
      case rel => exact ⟨q + 1, m', st', by omega, by go_num, HM2.out, HT2.out, by omega, ht0, by omega⟩
      case measure => simp [intOf]; omega
     |
      false =>
      rw [hdone] at lk4
      have HT' := HT.out
      rw [if_neg (by rw [hdone]; simp)] at HT'
      have HT2 := Lib.hid HT'
      clear HT' HT hdone
      have hfl : ((bs f.1).size : Int) = (f.1.length : Int) := by rw [bs_size]
      unfold maxLen at hfs
      have hfs2 : f.1.length ≤ 9223372036854775807 := by rw [← bs_size]; exact hfs
      obtain ⟨_, hfw2⟩ := bounds_i64 hfw
      by_cases hmore : 0 < (f.1.length : Int) - f.2
      ·have hm1 : decide ((f.1.length : Int) - f.2 > 0) = true := by simpa using hmore
       rw [if_pos (by exact hmore)] at HT2
       have HX : Hid (∀ (wz : World) (j : Int), Mid w W11 ib fb 3 fileElem wz j st'.2 m' → wz.cell? ⟨w.heap.size, 0, none⟩ = some (.int .i64 loss)) := by
        intro wz j hM
        refine cell_of_row _ w.heap.size 0 _ _ (0, 0) ((hM.fr.block _ (by omega) (by show _ ≠ ib; omega) (by show _ ≠ fb; omega) (by show _ ≠ fb; omega) (by show _ ≠ fb; omega)).trans hL11.out)
       have hA0 : Hid (((wr.alloc (.cells #[.string (bs f.1), .int .i64 f.2] 98)).alloc (.cells #[.string (bs g.1), .int .i64 g.2] 98)).heap[wr.heap.size]? = some (.cells #[.string (bs f.1), .int .i64 f.2] 98 (0, 0))) := by
        show _ = _
        rw [(bnew (brefl (wr.alloc (.cells #[.string (bs f.1), .int .i64 f.2] 98))) (.cells #[.string (bs g.1), .int .i64 g.2] 98)).block wr.heap.size (by simp)]
        exact heap_alloc_new wr _
       go_wp2_with fail
       obtain ⟨W, hW⟩ : ∃ W, (wr.alloc (.cells #[.string (bs f.1), .int .i64 f.2] 98)).alloc (.cells #[.string (bs g.1), .int .i64 g.2] 98) = W := ⟨_, rfl⟩
       rw [hW] at HM2 hA0 ⊢
       clear hW lk4 lk0 lk1
       have xA := cell_of_row _ wr.heap.size 0 _ _ (0, 0) hA0.out
       have xB := cell_of_row _ wr.heap.size 1 _ _ (0, 0) hA0.out
       have yA := (blk_at hA0.out).1
       generalize wr.heap.size = tb at *
       have HNX := Lib.hid (next_any W.drew ib w.heap.size st'.1 loss HM2.out.cell (HX.out W _ HM2.out) (by omega) HM2.out.free ht0 (by omega))
       have hbit := mixV_range loss (st'.1 + 1)
       generalize mixV loss (st'.1 + 1) = b1 at *
       obtain ⟨hbit0, hbit1⟩ := hbit
       obtain ⟨r, hr⟩ : ∃ r, b1.tmod ((f.1.length : Int) - f.2 + 1) = r := ⟨_, rfl⟩
       have hrm : b1 % ((f.1.length : Int) - f.2 + 1) = r := by rw [← hr, Int.tmod_eq_emod_of_nonneg hbit0]
       have hr0 : 0 ≤ r := by rw [← hrm]; exact Int.emod_nonneg _ (by omega)
       have hr1 : r < (f.1.length : Int) - f.2 + 1 := by rw [← hrm]; exact Int.emod_lt_of_pos _ (by omega)
       rw [hrm] at HT2
       clear hrm
       have hnz : ¬ ((f.1.length : Int) - f.2 + 1 = 0) := by omega
       have hw1 : IntKind.i64.wrap ((f.1.length : Int) - f.2 + 1) = (f.1.length : Int) - f.2 + 1 := by rw [IntKind.wrap_i64]; omega
       have hw2 : IntKind.u64.wrap ((f.1.length : Int) - f.2 + 1) = (f.1.length : Int) - f.2 + 1 := by rw [IntKind.wrap_u64]; omega
       have hw3 : IntKind.i64.wrap r = r := by rw [IntKind.wrap_i64]; omega
       have hw4 : IntKind.i64.wrap (f.2 + r) = f.2 + r := by rw [IntKind.wrap_i64]; omega
       have hcut := run_cut f.1 (f.2 + r) (by omega) (by omega)
       have hge : 0 ≤ f.2 + r := by omega
       have hle : f.2 + r ≤ (f.1.length : Int) := by omega
       have hTs : (((bs (f.1.take (f.2 + r).toNat)).size : Nat) : Int) = f.2 + r := by
        rw [bs_size, List.length_take]
        omega
       obtain ⟨T, hT⟩ : ∃ T, f.1.take (f.2 + r).toNat = T := ⟨_, rfl⟩
       rw [hT] at HT2 hcut hTs
       clear hT
       have hTl : (bs T).size ≤ maxLen := by unfold maxLen; omega
       obtain ⟨Wz, hWz⟩ : ∃ Wz, ((W.setCell ⟨ib, 0, none⟩ (.int .i64 (st'.1 + 1))).setCell ⟨tb, 0, none⟩ (.string (bs T))).drew = Wz := ⟨_, rfl⟩
       have HMz : Hid (Mid w W11 ib fb 3 fileElem Wz (st'.1 + 1) st'.2 m') := by
        show Mid _ _ _ _ _ _ _ _ _ _
        rw [← hWz]
        exact ((HM2.out.next (st'.1 + 1)).beside htb (by omega) (by omega) (by omega) 0 _).drew
       have zA : Hid (Wz.cell? ⟨tb, 0, none⟩ = some (.string (bs T))) := by
        show _ = _
        rw [← hWz]
        have h1 : (W.setCell ⟨ib, 0, none⟩ (.int .i64 (st'.1 + 1))).heap[tb]? = some (.cells #[.string (bs f.1), .int .i64 f.2] 98 (0, 0)) := (Below.heap_setCell _ _ _ _ (by show tb ≠ ib; omega)).trans hA0.out
        exact cell_of_row _ tb 0 _ _ (0, 0) (blk_set h1 (j := 0) (.string (bs T)))
       obtain ⟨w8, run8, ho8, ht8⟩ := HMz.out.own.store lawI Tryz.underlying78 (by unfold maxLen; omega) (key := .int .i64 kf) (val := .agg #[.string (bs T), .int .i64 (f.2 + r)]) (keyOf_int_mk Tryz.underlying3 wf0) (fileElem_mk (s := bs T) (n := f.2 + r) hTl (WalkArith.wf_i64 (by omega)))
       have HM8 := Lib.hid (HMz.out.put ho8 ht8.grown)
       have HR8 := Lib.hid run8
       clear ho8 ht8 run8
       go_region_with ((go_at_call 56; refine HNX.out.mono ?_; rintro e wn ⟨rfl, rfl⟩))
       all_goals
        try rw [hWz]
        have zA' := zA.out
        have run8 := HR8.out
        clear xA xB
        go_wp2_with fail
        go_roundw
        case rel =>
         refine ⟨q + 1, m' + 1, _, by omega, by go_num, ?_, HT2.out, by omega, by show 0 ≤ st'.1 + 1; omega, by show st'.1 + 1 ≤ _; omega⟩
         exact HM8
        case measure => simp [intOf]; omega
      ·have hm1 : decide ((f.1.length : Int) - f.2 > 0) = false := by simpa using hmore
       rw [if_neg (by exact hmore)] at HT2
       obtain ⟨w8, run8, ho8, ht8⟩ := HM2.out.own.store lawI Tryz.underlying78 (by unfold maxLen; omega) (key := .int .i64 kf) (val := .agg #[.string (bs f.1), .int .i64 f.1.length]) (keyOf_int_mk Tryz.underlying3 wf0) (fileElem_mk (s := bs f.1) (n := (f.1.length : Int)) hfs (WalkArith.wf_i64 (by omega)))
       have HM8 := Lib.hid (HM2.out.put ho8 ht8.grown)
       clear ho8 ht8
       go_wp2_with fail
       go_roundw
       case rel =>
        refine ⟨q + 1, m' + 1, _, by omega, by go_num, ?_, HT2.out, by omega, ht0, by show st'.1 ≤ _; omega⟩
        exact HM8
       case measure => simp [intOf]; omega
    ·obtain rfl : q = n' := by omega
     have hfull : Hid (D.full loss = st') := by
      show _ = _
      rw [HH.out, ← hst.out, List.take_of_length_le (Nat.le_of_eq HKL.out)]
     have hd := HD.out.below hmid.out.below
     have hpp := (Array.getElem?_eq_some_iff.1 HD.out.blk).1
     have HN2 := Lib.hid (map_fr HN11.out hmid.out.fr (by show ib + 1 ≠ ib; omega) (by show ib + 1 ≠ fb; omega) (by show ib + 1 ≠ fb; omega) (by show ib + 1 ≠ fb; omega))
     have HCL := Lib.hid (clone_any _ _ _ _ HN2.out)
     have hfl := hmid.out.own.lt
     clear hd
     go_wp2_with fail
     refine HCL.out.mono ?_
     rintro e w13 ⟨rfl, ho13, hb13⟩
     have HD13 := Lib.hid (HD.out.below (bcall hmid.out.below hb13))
     have HF13 := Lib.hid (map_below hmid.out.own hb13)
     have HN13 := Lib.hid (map_below HN2.out hb13)
     have HO13 := Lib.hid ho13
     have HB13 := Lib.hid (bcall hmid.out.below hb13)
     have HFR := HD13.out.free
     obtain ⟨d0, d1, d2, _, _, d5, _, d7⟩ := HD13.out.cells
     have hz := hmid.out.below.size
     clear ho13 hb13 HCL
     go_wp2_with fail
     go_ret
     have hb0 := HD13.out.blk
     have hb1 := blk_set hb0 (j := 0) (.map (some fb))
     have hb2 := blk_set hb1 (j := 1) (.map (some (ib + 1)))
     have hb3 := blk_set hb2 (j := 2) (.map (some wr.heap.size))
     have hb4 := blk_set hb3 (j := 7) (.bool false)
     have hb5 := blk_set hb4 (j := 5) (.int .i64 (-1))
     have hcap := HL3.out
     have hcap2 := HL2.out
     have five : ∀ {b n : Nat} {kt : TypeId} {R : Value → Option (DataW H × List MemPlace)} {N : DataW H}, w13.ownsMap Tryz.prog kt R b n N → (((((w13.setCell ⟨F.p, 0, none⟩ (.map (some fb))).setCell ⟨F.p, 1, none⟩ (.map (some (ib + 1)))).setCell ⟨F.p, 2, none⟩ (.map (some wr.heap.size))).setCell ⟨F.p, 7, none⟩ (.bool false)).setCell ⟨F.p, 5, none⟩ (.int .i64 (-1))).ownsMap Tryz.prog kt R b n N := by
      intro b n kt R N h
      have hne : b ≠ F.p := map_ne_cells h hb0
      exact ((((h.setCell hne _).setCell hne _).setCell hne _).setCell hne _).setCell hne _
     refine ⟨rfl, ⟨⟨F.p, fb, ib + 1, wr.heap.size⟩, rfl, .inr (by show _ ≤ fb; omega), .inr (by show _ ≤ ib + 1; omega), .inr (by show _ ≤ wr.heap.size; omega), ⟨hb5.trans rfl, ⟨m', by show m' ≤ 2 * D.cap; omega, ?_⟩, ⟨m, by show m ≤ 2 * D.cap; omega, ?_⟩, ⟨m, by show m ≤ 2 * D.cap; omega, ?_⟩, by show fb ≠ ib + 1; omega, by show fb ≠ wr.heap.size; omega, by show ib + 1 ≠ wr.heap.size; omega⟩⟩, (((((Fr.of_below HB13.out).set 0 _).set 1 _).set 2 _).set 7 _).set 5 _⟩
     ·have := five HF13.out
      rw [← hfull.out] at this
      exact this
     ·have := five HN13.out
      rw [← hhalf.out] at this
      exact this
     ·have := five HO13.out
      rw [← hhalf.out] at this
      exact this
end Go.Proofs.YtkhemhiifhggmaaGreatDoor
namespace Go.Proofs.YtkhemhiifhggmaaGreatDoor
open Go.RowKit Go.Maps Go.Sort
def Own {H : Type} (w W : World) (p : Nat) (D : DS H) : Prop :=
 ∃ F : Foot, F.p = p ∧ DiskAt W F D ∧ Below w.heap.size w W ∧ w.heap.size ≤ F.p ∧ w.heap.size ≤ F.fb ∧ w.heap.size ≤ F.nb ∧ w.heap.size ≤ F.kb
section
variable {H : Type} {w W W' : World} {p : Nat} {D D' : DS H}
theorem Own.below (h : Own w W p D) : Below w.heap.size w W := by
 obtain ⟨F, _, _, h, _⟩ := h
 exact h
theorem Own.on (h : Own w W p D) (hb : Below W.heap.size W W') : Own w W' p D := by
 obtain ⟨F, e, h1, h2, h3⟩ := h
 exact ⟨F, e, h1.below hb, bcall h2 hb, h3⟩
theorem Own.by_ (h : Own w W p D) {Q : Foot → Ending → World → Prop} {x : Value} {f : Nat} {av : Array Value} (hc : ∀ F : Foot, F.p = p → DiskAt W F D → Calls Tryz.prog f av W (Q F)) (hq : ∀ F e w', Q F e w' → e = .returned x ∧ DiskAt w' F D' ∧ Fr F W w') :
  Calls Tryz.prog f av W fun e w' => e = .returned x ∧ Own w w' p D' := by
 obtain ⟨F, e, h1, h2, h3, h4, h5, h6⟩ := h
 refine (hc F e h1).mono fun e' w' hh => ?_
 obtain ⟨r1, r2, r3⟩ := hq F e' w' hh
 exact ⟨r1, F, e, r2, r3.under h2 h2.size h3 h4 h5 h6, h3, h4, h5, h6⟩
theorem dk_new (H : Type) {w W : World} (hb : Below w.heap.size w W) : Calls Tryz.prog 20 #[] W fun e w' => e = .returned (.pointer (some ⟨W.heap.size + 3, 0, none⟩)) ∧ Own w w' (W.heap.size + 3) (DS.new H) := by
 refine (new_any H W).mono fun e w' hh => ?_
 have hs := hb.size
 exact ⟨hh.1, _, rfl, hh.2.1, bcall hb hh.2.2, by show _ ≤ W.heap.size + 3; omega, by show _ ≤ W.heap.size; omega, by show _ ≤ W.heap.size + 1; omega, by show _ ≤ W.heap.size + 2; omega⟩
theorem dk_create (h : Own w W p D) (hf : D.fits) (s : ByteArray) (hs : s.size ≤ maxLen) : Calls Tryz.prog 25 #[.pointer (some ⟨p, 0, none⟩), .string s] W fun e w' => e = .returned (.int .i64 (D.create s).2) ∧ Own w w' p (D.create s).1 :=
 h.by_ (fun F e hd => by subst e; exact create_any W F D s hd hf hs) fun _ _ _ h => h
theorem dk_append (h : Own w W p D) (hf : D.fits) (s x : ByteArray) (hs : s.size ≤ maxLen) (hz : (fileOf D.files (numOf D.names s)).1.length + x.size ≤ 9223372036854775807) : Calls Tryz.prog 26 #[.pointer (some ⟨p, 0, none⟩), .string s, .string x] W fun e w' => e = .returned (.int .i64 (D.append s x).2) ∧ Own w w' p (D.append s x).1 :=
 h.by_ (fun F e hd => by subst e; exact append_any W F D s x hd hf hs hz) fun _ _ _ h => h
theorem dk_sync (h : Own w W p D) (hf : D.fits) (s : ByteArray) (hs : s.size ≤ maxLen) : Calls Tryz.prog 27 #[.pointer (some ⟨p, 0, none⟩), .string s] W fun e w' => e = .returned (.int .i64 (D.sync s).2) ∧ Own w w' p (D.sync s).1 :=
 h.by_ (fun F e hd => by subst e; exact sync_any W F D s hd hf hs) fun _ _ _ h => h
end
structure DS.small {H : Type} (n : Nat) (D : DS H) : Prop where
 a0 : -1 ≤ D.armed
 a1 : D.armed ≤ 9223372036854775807
 s0 : 0 ≤ D.steps
 s1 : D.steps ≤ n
 l0 : 0 ≤ D.last
 l1 : D.last ≤ n
 c1 : D.cap ≤ 2 * n
section
variable {H : Type} {n : Nat} {D : DS H}
theorem DS.small.fits (h : D.small n) (hn : n ≤ 274877906944) : D.fits := by
 obtain ⟨a, b, c, d, e, f, g⟩ := h
 exact ⟨a, b, c, by omega, e, by omega, by omega⟩
theorem DS.small.more (h : D.small n) {m : Nat} (hm : n ≤ m) : D.small m := by
 obtain ⟨a, b, c, d, e, f, g⟩ := h
 exact ⟨a, b, c, by omega, e, by omega, by omega⟩
theorem small_new (H : Type) : (DS.new H).small 0 := ⟨by show (-1 : Int) ≤ -1; omega, by show (-1 : Int) ≤ 9223372036854775807; omega, by show (0 : Int) ≤ 0; omega, by show (0 : Int) ≤ ((0 : Nat) : Int); omega, by show (0 : Int) ≤ 0; omega, by show (0 : Int) ≤ ((0 : Nat) : Int); omega, by show 0 ≤ 2 * 0; omega⟩
theorem DS.small.step (h : D.small n) : -1 ≤ D.step.1.armed ∧ D.step.1.armed ≤ 9223372036854775807 ∧ 0 ≤ D.step.1.steps ∧ D.step.1.steps ≤ n + 1 ∧ D.step.1.last = D.last ∧ D.step.1.cap = D.cap := by
 obtain ⟨a, b, c, d, e, f, g⟩ := h
 unfold DS.step
 split
 ·exact ⟨Int.le_refl _, by show (-1 : Int) ≤ _; omega, c, by show D.steps ≤ _; omega, rfl, rfl⟩
 ·exact ⟨by show _ ≤ max _ _; omega, by show max _ _ ≤ (_ : Int); omega, by show 0 ≤ D.steps + 1; omega, by show D.steps + 1 ≤ _; omega, rfl, rfl⟩
theorem DS.small.step' (h : D.small n) : D.step.1.small (n + 1) := by
 obtain ⟨x1, x2, x3, x4, x5, x6⟩ := h.step
 obtain ⟨a, b, c, d, e, f, g⟩ := h
 exact ⟨x1, x2, x3, by omega, by omega, by omega, by omega⟩
theorem DS.small.create (h : D.small n) (s : ByteArray) : (D.create s).1.small (n + 1) := by
 obtain ⟨x1, x2, x3, x4, x5, x6⟩ := h.step
 unfold DS.create
 split
 ·exact h.more (by omega)
 ·split
  ·exact h.step'
  ·obtain ⟨a, b, c, d, e, f, g⟩ := h
   exact ⟨x1, x2, x3, by show D.step.1.steps ≤ _; omega, by show 0 ≤ D.last + 1; omega, by show D.last + 1 ≤ _; omega, by show D.cap + 2 ≤ _; omega⟩
theorem DS.small.change (h : D.small n) (s : ByteArray) (G : List UInt8 × Int → List UInt8 × Int) : (D.change s G).1.small (n + 1) := by
 obtain ⟨x1, x2, x3, x4, x5, x6⟩ := h.step
 unfold DS.change
 split
 ·exact h.more (by omega)
 ·split
  ·exact h.more (by omega)
  ·split
   ·exact h.step'
   ·obtain ⟨a, b, c, d, e, f, g⟩ := h
    refine ⟨x1, x2, x3, by show D.step.1.steps ≤ _; omega, by show 0 ≤ D.step.1.last; omega, by show D.step.1.last ≤ _; omega, ?_⟩
    simp only
    omega
theorem DS.small.append (h : D.small n) (s x : ByteArray) : (D.append s x).1.small (n + 1) := h.change s _
theorem DS.small.sync (h : D.small n) (s : ByteArray) : (D.sync s).1.small (n + 1) := h.change s _
theorem DS.small.rename (h : D.small n) (s x : ByteArray) : (D.rename s x).1.small (n + 1) := by
 obtain ⟨x1, x2, x3, x4, x5, x6⟩ := h.step
 unfold DS.rename
 split
 ·exact h.more (by omega)
 ·split
  ·exact h.more (by omega)
  ·split
   ·exact h.step'
   ·obtain ⟨a, b, c, d, e, f, g⟩ := h
    refine ⟨x1, x2, x3, by show D.step.1.steps ≤ _; omega, by show 0 ≤ D.step.1.last; omega, by show D.step.1.last ≤ _; omega, ?_⟩
    simp only
    omega
theorem DS.small.remove (h : D.small n) (s : ByteArray) : (D.remove s).1.small (n + 1) := by
 obtain ⟨x1, x2, x3, x4, x5, x6⟩ := h.step
 unfold DS.remove
 split
 ·exact h.more (by omega)
 ·split
  ·exact h.more (by omega)
  ·split
   ·exact h.step'
   ·obtain ⟨a, b, c, d, e, f, g⟩ := h
    refine ⟨x1, x2, x3, by show D.step.1.steps ≤ _; omega, by show 0 ≤ D.step.1.last; omega, by show D.step.1.last ≤ _; omega, ?_⟩
    simp only
    omega
theorem DS.small.syncDir (h : D.small n) : D.syncDir.1.small (n + 1) := by
 obtain ⟨x1, x2, x3, x4, x5, x6⟩ := h.step
 unfold DS.syncDir
 split
 ·exact h.more (by omega)
 ·split
  ·exact h.step'
  ·obtain ⟨a, b, c, d, e, f, g⟩ := h
   exact ⟨x1, x2, x3, by show D.step.1.steps ≤ _; omega, by show 0 ≤ D.step.1.last; omega, by show D.step.1.last ≤ _; omega, by show D.step.1.cap ≤ _; omega⟩
end
structure DS.good {H : Type} (L : Nat) (D : DS H) : Prop where
 fm : IsMap D.files
 fs : ∀ k, 0 ≤ (fileOf D.files k).2 ∧ (fileOf D.files k).2 ≤ ((fileOf D.files k).1.length : Int) ∧ (fileOf D.files k).1.length ≤ L
theorem key_ne {j k : Int} (h : j ≠ k) : (Lit.int .i64 j) ≠ Lit.int .i64 k := by simpa using h
theorem fileOf_put {H : Type} {M : DataW H} (hm : IsMap M) (k j : Int) (l : List UInt8) (m : Int) : fileOf (M.put (.int .i64 k) (.agg [.lit (.string l), .lit (.int .i64 m)])) j = if j = k then (l, m) else fileOf M j := by
 by_cases h : j = k
 ·subst h
  rw [if_pos rfl]
  unfold fileOf
  rw [atKey_put_same hm (by simp [Go.WideAt.IsKeyLit])]
  rfl
 ·rw [if_neg h]
  unfold fileOf
  rw [atKey_put_other (key_ne h)]
section
variable {H : Type} {L : Nat} {D : DS H}
theorem step_keeps (D : DS H) : D.step.1.files = D.files ∧ D.step.1.names = D.names ∧ D.step.1.kept = D.kept := by
 unfold DS.step
 split <;> exact ⟨rfl, rfl, rfl⟩
theorem DS.good.of_files {D' : DS H} (h : D.good L) (e : D'.files = D.files) : D'.good L := ⟨by rw [e]; exact h.fm, by rw [e]; exact h.fs⟩
theorem good_new (H : Type) : (DS.new H).good 0 := ⟨⟨[], rfl⟩, fun _ => ⟨Int.le_refl _, Int.le_refl _, Nat.le_refl _⟩⟩
theorem DS.good.more (h : D.good L) {M : Nat} (hM : L ≤ M) : D.good M := ⟨h.fm, fun k => by
 obtain ⟨a, b, c⟩ := h.fs k
 exact ⟨a, b, by omega⟩⟩
theorem DS.good.put (h : D.good L) {D' : DS H} {k : Int} {l : List UInt8} {m : Int} (e : D'.files = D.files.put (.int .i64 k) (.agg [.lit (.string l), .lit (.int .i64 m)])) (h0 : 0 ≤ m) (h1 : m ≤ (l.length : Int)) (h2 : l.length ≤ L) : D'.good L :=
 ⟨by rw [e]; exact h.fm.put _ _, fun j => by
  rw [e, fileOf_put h.fm]
  split
  ·exact ⟨h0, h1, h2⟩
  ·exact h.fs j⟩
theorem DS.good.create (h : D.good L) (s : ByteArray) : (D.create s).1.good L := by
 unfold DS.create
 split
 ·exact h
 ·split
  ·exact h.of_files (step_keeps D).1
  ·exact h.put rfl (Int.le_refl _) (Int.le_refl _) (Nat.zero_le _)
theorem DS.good.append (h : D.good L) (s x : ByteArray) : (D.append s x).1.good (L + x.size) := by
 unfold DS.append DS.change
 split
 ·exact h.more (by omega)
 ·split
  ·exact h.more (by omega)
  ·split
   ·exact (h.of_files (step_keeps D).1).more (by omega)
   ·obtain ⟨a, b, c⟩ := h.fs (numOf D.names s)
    refine (h.more (Nat.le_add_right L x.size)).put (k := numOf D.names s) (l := (fileOf D.files (numOf D.names s)).1 ++ x.data.toList) (m := (fileOf D.files (numOf D.names s)).2) ?_ a ?_ ?_
    ·rfl
    ·rw [List.length_append]; omega
    ·rw [List.length_append, Array.length_toList]; show _ + x.size ≤ _; omega
theorem DS.good.sync (h : D.good L) (s : ByteArray) : (D.sync s).1.good L := by
 unfold DS.sync DS.change
 split
 ·exact h
 ·split
  ·exact h
  ·split
   ·exact h.of_files (step_keeps D).1
   ·obtain ⟨a, b, c⟩ := h.fs (numOf D.names s)
    exact h.put (k := numOf D.names s) (l := (fileOf D.files (numOf D.names s)).1) (m := (fileOf D.files (numOf D.names s)).1.length) rfl (by omega) (Int.le_refl _) c
theorem DS.good.rename (h : D.good L) (s x : ByteArray) : (D.rename s x).1.good L := by
 unfold DS.rename
 split
 ·exact h
 ·split
  ·exact h
  ·split
   ·exact h.of_files (step_keeps D).1
   ·exact h.of_files (step_keeps D).1
theorem DS.good.syncDir (h : D.good L) : D.syncDir.1.good L := by
 unfold DS.syncDir
 split
 ·exact h
 ·split
  ·exact h.of_files (step_keeps D).1
  ·exact h.of_files (step_keeps D).1
theorem DS.good.sure (h : D.good L) (hL : L ≤ 4611686018427387904) : ∀ k, 0 ≤ (fileOf D.files k).2 ∧ (fileOf D.files k).1.length ≤ 4611686018427387904 := fun k => by
 obtain ⟨a, _, c⟩ := h.fs k
 exact ⟨a, by omega⟩
end
end Go.Proofs.YtkhemhiifhggmaaGreatDoor
