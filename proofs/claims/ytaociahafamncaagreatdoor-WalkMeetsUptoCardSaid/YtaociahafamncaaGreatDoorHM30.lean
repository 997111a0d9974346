/- Folded. -/
import Derived.Test.YtaociahafamncaaGreatDoorHM29
set_option maxRecDepth 100000
set_option maxHeartbeats 40000000
set_option linter.unusedVariables false
namespace Go.Proofs.YtaociahafamncaaGreatDoor
section
open Go.RowKit Go.Maps
theorem zsf{hs:List Lsh}{i:Nat}{x:Lsh}{a:Arc3}{A2:Option Addr}{c2:Nat}(hx:hs[i]? =some x):(hs.set i ⟨⟨x.d.fin,x.d.arcs++[a],x.d.free⟩,A2,c2,x.F,x.e⟩).map (·.d)=zde (hs.map (·.d)) i a:=by
 apply List.ext_getElem?
 intro j
 by_cases e:i=j
 ·subst e;rw[zi5 a (s:=x.d) (by rw[List.getElem?_map,hx];rfl),List.getElem?_map,List.getElem?_set_self (List.getElem?_eq_some_iff.1 hx).1];rfl
 ·rw[zi4 a e,List.getElem?_map,List.getElem?_map,List.getElem?_set_ne e]
theorem z16(w W2:World)(go m cp:Nat)(hs:List Lsh)(HR2:Hid (LoR w W2 (.slice (some ⟨go,0,none⟩) m cp) m hs))(at_ nx:Nat)(hat:at_<m)(x:Lsh)(HX:Hid (hs[at_]? =some x))(ma:Nat)(HMA:Hid (x.d.arcs.length=ma))(hma:ma≤2000000)(xb:Nat)(p:Int×Int)(HXB:Hid (W2.heap[xb]? =some (.cells #[.int .i64 p.1,.int .i64 p.2] 151 (0,0))))
  (c0 c1 c2 c3 c4 c5 c6 c7 c8 c9 c10 c12 c13 c14 c15 c17 c20 c21 c22 c23 c24 c25 c26 c27 c28 c29 c30 c31 c32 c33 c34 c35 c36 c37 c38 c39 c40 c41 c42 c43 c44 c45 c46 c47 c48 c49 c50 c51 c52 c53 c54 c55 c56 c57 c58 c59 c60 c61 c62 c63 c64 c65 c66 c67 c68 c69 c70 c71 c72 c73 c74 c75 c76 c77 c78 c79 c80 c81 c82 c83 c84 c85 c86 c87 c88 c106 c107 c108 c109 u89 u90 u91 u92 u93 u94 u95 u96 u97 u98 u99 u100 u101 u102 u103 u104 u105:Value) (Q0:Exit→Act→World→Prop) (hQ0:∀c (a a':Act) w,a.defers=a'.defers→Q0 (.panic c) a w→Q0 (.panic c) a' w)
  (hexit:∀(g9 cx9:Nat) (W:World) (u89 u90 u91 u92 u93 u94 u95 u96 u97 u98 u99 u100 u101 u102 u103 u104 u105:Value),Hid (LoR w W (.slice (some ⟨go,0,none⟩) m cp) m (hs.set at_ ⟨⟨x.d.fin,x.d.arcs++[(p.1,p.2,(nx:Int))],x.d.free⟩,some ⟨g9,0,none⟩,cx9,x.F,x.e⟩))→Hid (zi7 W2 W)→Q0 .normal ⟨List.toArray (c0::c1::c2::c3::c4::c5::c6::c7::c8::c9::c10::.slice (some ⟨go,0,none⟩) m cp::c12::c13::c14::c15::.int .i64 (at_:Int)::c17::.pointer (some ⟨xb,0,none⟩)::.int .i64 (nx:Int)::c20::c21::c22::c23::c24::c25::c26::c27::c28::c29::c30::c31::c32::c33::c34::c35::c36::c37::c38::c39::c40::c41::c42::c43::c44::c45::c46::c47::c48::c49::c50::c51::c52::c53::c54::c55::c56::c57::c58::c59::c60::c61::c62::c63::c64::c65::c66::c67::c68::c69::c70::c71::c72::c73::c74::c75::c76::c77::c78::c79::c80::c81::c82::c83::c84::c85::c86::c87::c88::u89::u90::u91::u92::u93::u94::u95::u96::u97::u98::u99::u100::u101::u102::u103::u104::u105::c106::c107::c108::c109::[]),[]⟩ W):
  Code.wp Tryz.prog (zHc Tryz.f65 20) Q0 ⟨List.toArray (c0::c1::c2::c3::c4::c5::c6::c7::c8::c9::c10::.slice (some ⟨go,0,none⟩) m cp::c12::c13::c14::c15::.int .i64 (at_:Int)::c17::.pointer (some ⟨xb,0,none⟩)::.int .i64 (nx:Int)::c20::c21::c22::c23::c24::c25::c26::c27::c28::c29::c30::c31::c32::c33::c34::c35::c36::c37::c38::c39::c40::c41::c42::c43::c44::c45::c46::c47::c48::c49::c50::c51::c52::c53::c54::c55::c56::c57::c58::c59::c60::c61::c62::c63::c64::c65::c66::c67::c68::c69::c70::c71::c72::c73::c74::c75::c76::c77::c78::c79::c80::c81::c82::c83::c84::c85::c86::c87::c88::u89::u90::u91::u92::u93::u94::u95::u96::u97::u98::u99::u100::u101::u102::u103::u104::u105::c106::c107::c108::c109::[]),[]⟩ W2:=by
 have HSK:Hid (∀W',Below W2.heap.size W2 W'→W'.cell? ⟨xb,0,none⟩=some (.int .i64 p.1)∧W'.cell? ⟨xb,1,none⟩=some (.int .i64 p.2)):=fun W' hb=>by
  have h1:=(hb.block xb (Array.getElem?_eq_some_iff.1 HXB.out).1).trans HXB.out;exact⟨cell_of_row _ xb 0 _ _ (0,0) h1,cell_of_row _ xb 1 _ _ (0,0) h1⟩
 have hxo1:=HR2.out.ar.own x.arow (List.mem_map.2 ⟨x,List.mem_of_getElem? HX.out,rfl⟩);have HSG:Hid (∀W',Below W2.heap.size W2 W'→∀W'',W'.grownBy W'' (Value.slice x.A ma x.c).ownBlock→W''.cell? ⟨xb,0,none⟩=some (.int .i64 p.1)∧W''.cell? ⟨xb,1,none⟩=some (.int .i64 p.2)):=fun W' hb' W'' hg'=>by
  have h1:=(hb'.block xb (Array.getElem?_eq_some_iff.1 HXB.out).1).trans HXB.out;have hne:some xb≠(Value.slice x.A ma x.c).ownBlock:=fun e=>by
   have h2:=za5 hxo1 HXB.out (by decide);have h3:(Value.slice x.A x.d.arcs.length x.c).ownBlock=some xb:=by rw[HMA.out];exact e.symm
   rcases h2 with h2|h2
   ·have h2:(Value.slice x.A x.d.arcs.length x.c).ownBlock=none:=h2;rw[h3]at h2;cases h2
   ·exact h2 h3
  have h4:=(hg'.block xb (Array.getElem?_eq_some_iff.1 h1).1 hne).trans h1;exact⟨cell_of_row _ xb 0 _ _ (0,0) h4,cell_of_row _ xb 1 _ _ (0,0) h4⟩
 have hgo:go≠xb:=fun e=>by
  obtain⟨_,_,cs,h1⟩:=zb3 HR2.out.out;rw[e,HXB.out]at h1;injection h1 with h1
  injection h1 with _ h1 _
  exact absurd h1 (by decide)
 have HSS:Hid (∀(W':World) (u:Value),(W'.cell? ⟨xb,0,none⟩=some (.int .i64 p.1)∧W'.cell? ⟨xb,1,none⟩=some (.int .i64 p.2))→(W'.setCell ⟨go,at_*3+1,none⟩ u).cell? ⟨xb,0,none⟩=some (.int .i64 p.1)∧(W'.setCell ⟨go,at_*3+1,none⟩ u).cell? ⟨xb,1,none⟩=some (.int .i64 p.2)):=fun W' u h=>by
  have k:∀j,(W'.setCell ⟨go,at_*3+1,none⟩ u).cell? ⟨xb,j,none⟩=W'.cell? ⟨xb,j,none⟩:=fun j=>World.cell?_of_block (w:=W') (Below.heap_setCell _ _ _ xb (fun e=>hgo (by simpa using e.symm)))
  exact⟨(k 0).trans h.1,(k 1).trans h.2⟩
 obtain⟨_,k1,_⟩:=zu5 HR2.out.out HX.out;rw[HMA.out]at k1;have hgow:=(zb3 HR2.out.out).2.1;have hxw:=(Array.getElem?_eq_some_iff.1 HXB.out).1;have hat2:(at_:Int)<(m:Int):=by omega
 clear hxo1;conv=>arg 2;whnf
 refine wp_region_held_drew (S:=fun w'=>w'.cell? ⟨xb,0,none⟩=some (.int .i64 p.1)∧w'.cell? ⟨xb,1,none⟩=some (.int .i64 p.2)) (by kernel_rfl) ?_ (fun hHeld=>?_)
 ·(try dsimp only);exact HSK.out _ ((Below.drew (za0 W2)))
 refine wpAnyH_take (i:=0) (v:=?_) rfl (by kernel_rfl) (by kernel_rfl) (by kernel_rfl) (fun c _ w h=>hQ0 c _ _ w (by rfl) h) (Or.inl ⟨by rfl,?_⟩) (by assumption) ?_;rotate_left
 ·intro w hSw;(try dsimp only at hSw);go_simp;(try with_reducible rfl)
 try simp only[Act.put,List.setIfInBounds_toArray]
 refine wpAnyH_take (i:=1) (v:=?_) rfl (by kernel_rfl) (by kernel_rfl) (by kernel_rfl) (fun c _ w h=>hQ0 c _ _ w (by rfl) h) (Or.inl ⟨by rfl,?_⟩) (by assumption) ?_;rotate_left
 ·intro w hSw;(try dsimp only at hSw);go_simp;(try with_reducible rfl)
 try simp only[Act.put]
 refine wpAnyH_take (i:=2) (v:=?_) rfl (by kernel_rfl) (by kernel_rfl) (by kernel_rfl) (fun c _ w h=>hQ0 c _ _ w (by rfl) h) (Or.inl ⟨by rfl,?_⟩) (by assumption) ?_;rotate_left
 ·intro w hSw;(try dsimp only at hSw);go_simp;(try with_reducible rfl)
 try simp only[Act.put]
 refine wpAnyH_take (i:=3) (v:=?_) rfl (by kernel_rfl) (by kernel_rfl) (by kernel_rfl) (fun c _ w h=>hQ0 c _ _ w (by rfl) h) (Or.inl ⟨by rfl,?_⟩) (by assumption) ?_;rotate_left
 ·intro w hSw;(try dsimp only at hSw);go_simp;(try with_reducible rfl)
 try simp only[Act.put]
 refine wpAnyH_take (i:=4) (v:=?_) rfl (by kernel_rfl) (by kernel_rfl) (by kernel_rfl) (fun c _ w h=>hQ0 c _ _ w (by rfl) h) (Or.inl ⟨by rfl,?_⟩) (by assumption) ?_;rotate_left
 ·intro w hSw;(try dsimp only at hSw);go_simp;(try with_reducible rfl)
 try simp only[Act.put]
 refine wpAnyH_take (i:=5) (v:=?_) rfl (by kernel_rfl) (by kernel_rfl) (by kernel_rfl) (fun c _ w h=>hQ0 c _ _ w (by rfl) h) (Or.inl ⟨by rfl,?_⟩) (by assumption) ?_;rotate_left
 ·intro w hSw;(try dsimp only at hSw);go_simp;(try with_reducible rfl)
 try simp only[Act.put]
 refine wpAnyH_take (i:=7) (v:=?_) rfl (by kernel_rfl) (by kernel_rfl) (by kernel_rfl) (fun c _ w h=>hQ0 c _ _ w (by rfl) h) (Or.inl ⟨by rfl,?_⟩) (by assumption) ?_;rotate_left
 ·intro w hSw;(try dsimp only at hSw);go_simp;(try with_reducible rfl)
 try simp only[Act.put]
 refine wpAnyH_take (i:=8) (v:=?_) rfl (by kernel_rfl) (by kernel_rfl) (by kernel_rfl) (fun c _ w h=>hQ0 c _ _ w (by rfl) h) (Or.inl ⟨by rfl,?_⟩) (by assumption) ?_;rotate_left
 ·intro w hSw;(try dsimp only at hSw);go_simp;(try with_reducible rfl)
 try simp only[Act.put]
 refine wpAnyH_take (i:=9) (v:=?_) rfl (by kernel_rfl) (by kernel_rfl) (by kernel_rfl) (fun c _ w h=>hQ0 c _ _ w (by rfl) h) (Or.inl ⟨by rfl,?_⟩) (by assumption) ?_;rotate_left
 ·intro w hSw;(try dsimp only at hSw);go_simp;(try with_reducible rfl)
 try simp only[Act.put]
 refine wpAnyH_take (i:=10) (v:=?_) rfl (by kernel_rfl) (by kernel_rfl) (by kernel_rfl) (fun c _ w h=>hQ0 c _ _ w (by rfl) h) (Or.inl ⟨by rfl,?_⟩) (by assumption) ?_;rotate_left
 ·intro w hSw;(try dsimp only at hSw);go_simp;(try with_reducible rfl)
 try simp only[Act.put]
 refine wpAnyH_take (i:=11) (v:=?_) rfl (by kernel_rfl) (by kernel_rfl) (by kernel_rfl) (fun c _ w h=>hQ0 c _ _ w (by rfl) h) (Or.inl ⟨by rfl,?_⟩) (by assumption) ?_;rotate_left
 ·intro w hSw;(try dsimp only at hSw);go_simp;(try with_reducible rfl)
 try simp only[Act.put]
 refine wpAnyH_take (i:=12) (v:=?_) rfl (by kernel_rfl) (by kernel_rfl) (by kernel_rfl) (fun c _ w h=>hQ0 c _ _ w (by rfl) h) (Or.inl ⟨by rfl,?_⟩) (by assumption) ?_;rotate_left
 ·intro w hSw;(try dsimp only at hSw);go_simp;(try with_reducible rfl)
 try simp only[Act.put]
 refine wpAnyH_ready (rs:=[6,13]) (by kernel_rfl) (by simp) ?_;refine AllReadyH.cons rfl (fun K hK=>?_) (AllReadyH.cons rfl (fun K hK=>?_) (AllReadyH.nil))
 ·skip
  go_simp
  refine hK.out _ _ ?_ (fun hHeld=>?_)
  ·(try dsimp only);exact HSK.out _ ((Below.drew (za0 W2)))
  clear hK K;try simp only[Act.put,List.setIfInBounds_toArray,List.set_cons_zero,List.set_cons_succ]
  refine wpAnyH_ready (rs:=[13]) (by kernel_rfl) (by simp) ?_;refine AllReadyH.cons rfl (fun K hK=>?_) (AllReadyH.nil);go_simp
  refine hK.out _ _ ?_ (fun hHeld=>?_)
  ·(try dsimp only);exact HSK.out _ ((bnew (Below.drew (za0 W2)) (.cells #[.int .i64 p.1,.int .i64 p.2,.int .i64 (nx:Int)] 76)))
  clear hK K;try simp only[Act.put,List.setIfInBounds_toArray,List.set_cons_zero,List.set_cons_succ]
  refine wpAnyH_ready (rs:=[14]) (by kernel_rfl) (by simp) ?_;refine AllReadyH.cons rfl (fun K hK=>?_) (AllReadyH.nil);have HRX:=Lib.hid (HR2.out.keep (bnew (Below.drew (za0 W2)) (.cells #[.int .i64 p.1,.int .i64 p.2,.int .i64 (nx:Int)] 76)));have hxo:=HRX.out.ar.own x.arow (List.mem_map.2 ⟨x,List.mem_of_getElem? HX.out,rfl⟩);have HXO:Hid (World.ownsRow (W2.drew.alloc (.cells #[.int .i64 p.1,.int .i64 p.2,.int .i64 (nx:Int)] 76)) w.heap.size 76 3 (.slice x.A ma x.c) ma (zaa x.d.arcs)):=by rw[←HMA.out];exact hxo
  clear hxo;refine zc4 _ _ (by rfl) (.tmp 95) (.tmp 102) _ (by rfl) zhi _ _ _ (by rfl) HXO.out (m:=1) (by rfl) (heap_alloc_new _ _) (by rfl) (by simp[Value.oneCell']) (by omega) (by unfold maxLen;omega) (by omega) HRX.out.bel.size ?_;intro g9 cx9 w9 hown9 hg9 hm9
  have HARC:=Lib.hid (HRX.out.arc (a:=(p.1,p.2,(nx:Int))) (A2:=some ⟨g9,0,none⟩) (c2:=cx9) HX.out (by rw[HMA.out];exact hg9) (by rw[HMA.out];exact hown9) (by rw[HMA.out];exact hm9.elim (fun h=>.inl h.symm) fun h=>.inr ⟨g9,rfl,h⟩));rw[HMA.out]at HARC;obtain⟨HLN,t1,t2,t3,hkp⟩:=HARC.out;have HKP:=Lib.hid (zi7.trans (zi7.below (Below.mono (bnew (Below.drew (za0 W2)) (.cells #[.int .i64 p.1,.int .i64 p.2,.int .i64 (nx:Int)] 76)) (Nat.le_refl _))) hkp);have HLN9:=Lib.hid HLN;have HSK9:Hid (w9.cell? ⟨xb,0,none⟩=some (.int .i64 p.1)∧w9.cell? ⟨xb,1,none⟩=some (.int .i64 p.2)):=HSG.out _ (bnew (Below.drew (za0 W2)) (.cells #[.int .i64 p.1,.int .i64 p.2,.int .i64 (nx:Int)] 76)) _ hg9;clear hown9 hm9 HARC HLN hg9 hkp;refine hK.out _ _ ?_ (fun hHeld=>?_)
  ·(try dsimp only);exact HSK9.out
  clear hK K;try simp only[Act.put,List.setIfInBounds_toArray]
  refine wpAnyH_take (i:=15) (v:=?_) rfl (by kernel_rfl) (by kernel_rfl) (by kernel_rfl) (fun c _ w h=>hQ0 c _ _ w (by rfl) h) (Or.inl ⟨by rfl,?_⟩) (by assumption) ?_;rotate_left
  ·intro w hSw;(try dsimp only at hSw);go_simp;(try with_reducible rfl)
  try simp only[Act.put]
  refine wpAnyH_take (i:=16) (v:=?_) rfl (by kernel_rfl) (by kernel_rfl) (by kernel_rfl) (fun c _ w h=>hQ0 c _ _ w (by rfl) h) (Or.inl ⟨by rfl,?_⟩) (by assumption) ?_;rotate_left
  ·intro w hSw;(try dsimp only at hSw);go_simp;(try with_reducible rfl)
  try simp only[Act.put]
  refine wpAnyH_ready (rs:=[17]) (by kernel_rfl) (by simp) ?_;refine AllReadyH.cons rfl (fun K hK=>?_) (AllReadyH.nil);go_simp
  refine hK.out _ _ ?_ (fun hHeld=>?_)
  ·(try dsimp only);exact HSS.out _ _ HSK9.out
  clear hK K;try simp only[Act.put,List.setIfInBounds_toArray,List.set_cons_zero,List.set_cons_succ]
  refine wpAnyH_done (by kernel_rfl) ?_ _;exact hexit g9 cx9 _ _ _ _ _ _ _ _ _ _ _ _ _ _ _ _ _ _ HLN9 HKP
 ·skip
  go_simp
  refine hK.out _ _ ?_ (fun hHeld=>?_)
  ·(try dsimp only);exact HSK.out _ ((bnew (Below.drew (za0 W2)) (.cells #[.int .i64 p.1,.int .i64 p.2,.int .i64 (nx:Int)] 76)))
  clear hK K;try simp only[Act.put,List.setIfInBounds_toArray,List.set_cons_zero,List.set_cons_succ]
  refine wpAnyH_ready (rs:=[6]) (by kernel_rfl) (by simp) ?_;refine AllReadyH.cons rfl (fun K hK=>?_) (AllReadyH.nil);go_simp
  refine hK.out _ _ ?_ (fun hHeld=>?_)
  ·(try dsimp only);exact HSK.out _ ((bnew (Below.drew (za0 W2)) (.cells #[.int .i64 p.1,.int .i64 p.2,.int .i64 (nx:Int)] 76)))
  clear hK K;try simp only[Act.put,List.setIfInBounds_toArray,List.set_cons_zero,List.set_cons_succ]
  refine wpAnyH_ready (rs:=[14]) (by kernel_rfl) (by simp) ?_;refine AllReadyH.cons rfl (fun K hK=>?_) (AllReadyH.nil);have HRX:=Lib.hid (HR2.out.keep (bnew (Below.drew (za0 W2)) (.cells #[.int .i64 p.1,.int .i64 p.2,.int .i64 (nx:Int)] 76)));have hxo:=HRX.out.ar.own x.arow (List.mem_map.2 ⟨x,List.mem_of_getElem? HX.out,rfl⟩);have HXO:Hid (World.ownsRow (W2.drew.alloc (.cells #[.int .i64 p.1,.int .i64 p.2,.int .i64 (nx:Int)] 76)) w.heap.size 76 3 (.slice x.A ma x.c) ma (zaa x.d.arcs)):=by rw[←HMA.out];exact hxo
  clear hxo;refine zc4 _ _ (by rfl) (.tmp 95) (.tmp 102) _ (by rfl) zhi _ _ _ (by rfl) HXO.out (m:=1) (by rfl) (heap_alloc_new _ _) (by rfl) (by simp[Value.oneCell']) (by omega) (by unfold maxLen;omega) (by omega) HRX.out.bel.size ?_;intro g9 cx9 w9 hown9 hg9 hm9
  have HARC:=Lib.hid (HRX.out.arc (a:=(p.1,p.2,(nx:Int))) (A2:=some ⟨g9,0,none⟩) (c2:=cx9) HX.out (by rw[HMA.out];exact hg9) (by rw[HMA.out];exact hown9) (by rw[HMA.out];exact hm9.elim (fun h=>.inl h.symm) fun h=>.inr ⟨g9,rfl,h⟩));rw[HMA.out]at HARC;obtain⟨HLN,t1,t2,t3,hkp⟩:=HARC.out;have HKP:=Lib.hid (zi7.trans (zi7.below (Below.mono (bnew (Below.drew (za0 W2)) (.cells #[.int .i64 p.1,.int .i64 p.2,.int .i64 (nx:Int)] 76)) (Nat.le_refl _))) hkp);have HLN9:=Lib.hid HLN;have HSK9:Hid (w9.cell? ⟨xb,0,none⟩=some (.int .i64 p.1)∧w9.cell? ⟨xb,1,none⟩=some (.int .i64 p.2)):=HSG.out _ (bnew (Below.drew (za0 W2)) (.cells #[.int .i64 p.1,.int .i64 p.2,.int .i64 (nx:Int)] 76)) _ hg9;clear hown9 hm9 HARC HLN hg9 hkp;refine hK.out _ _ ?_ (fun hHeld=>?_)
  ·(try dsimp only);exact HSK9.out
  clear hK K;try simp only[Act.put,List.setIfInBounds_toArray]
  refine wpAnyH_take (i:=15) (v:=?_) rfl (by kernel_rfl) (by kernel_rfl) (by kernel_rfl) (fun c _ w h=>hQ0 c _ _ w (by rfl) h) (Or.inl ⟨by rfl,?_⟩) (by assumption) ?_;rotate_left
  ·intro w hSw;(try dsimp only at hSw);go_simp;(try with_reducible rfl)
  try simp only[Act.put]
  refine wpAnyH_take (i:=16) (v:=?_) rfl (by kernel_rfl) (by kernel_rfl) (by kernel_rfl) (fun c _ w h=>hQ0 c _ _ w (by rfl) h) (Or.inl ⟨by rfl,?_⟩) (by assumption) ?_;rotate_left
  ·intro w hSw;(try dsimp only at hSw);go_simp;(try with_reducible rfl)
  try simp only[Act.put]
  refine wpAnyH_ready (rs:=[17]) (by kernel_rfl) (by simp) ?_;refine AllReadyH.cons rfl (fun K hK=>?_) (AllReadyH.nil);go_simp
  refine hK.out _ _ ?_ (fun hHeld=>?_)
  ·(try dsimp only);exact HSS.out _ _ HSK9.out
  clear hK K;try simp only[Act.put,List.setIfInBounds_toArray,List.set_cons_zero,List.set_cons_succ]
  refine wpAnyH_done (by kernel_rfl) ?_ _;exact hexit g9 cx9 _ _ _ _ _ _ _ _ _ _ _ _ _ _ _ _ _ _ HLN9 HKP
end
section
open Go.RowKit Go.Maps
theorem zj6{w w':World}{b:Nat}{v:Value}{l:List Sp.RR}(h:Sp.RowsAt w b v l)(hk:zi7 w w'):Sp.RowsAt w' b v l:=
 ⟨hk _ _ _ _ _ _ (by decide) (by decide) h.own,fun R hR=>⟨(h.inn R hR).1,hk _ _ _ _ _ _ (by decide) (by decide) (h.inn R hR).2⟩,h.nod⟩
theorem zH9{W:World}{b:Nat}{R:Sp.RR}(h:W.ownsRow b 151 2 R.val R.r.length (Sp.flatR R.r)){k:Nat}{p:Int×Int}(hp:R.r[k]? =some p):W.cell? ⟨R.b,k*2,none⟩=some (.int .i64 p.1)∧W.cell? ⟨R.b,k*2+1,none⟩=some (.int .i64 p.2):=by
 have key:∀q u,([.int .i64 p.1,.int .i64 p.2]:List Value)[q]? =some u→q<2→W.cell? ⟨R.b,k*2+q,none⟩=some u:=fun q u hu hq=>by
  have:=World.ownsRow.cells (g:=R.b) h rfl (k*2+q) u (by unfold Sp.flatR;rw[zc7 (fun p:Int×Int=>[Value.int .i64 p.1,Value.int .i64 p.2]) 2 (fun _=>rfl) R.r k q p hp hq];exact hu);rwa[Addr.add_lit,Nat.zero_add]at this
 exact⟨key 0 _ rfl (by omega),key 1 _ rfl (by omega)⟩
structure LqR(w W:World)(b0:Nat)(vr:Value)(l:List Sp.RR)(go m cp:Nat)(hs:List Lsh)(K:Nat):Prop where
 lo:LoR w W (.slice (some ⟨go,0,none⟩) m cp) m hs
 rw_:Sp.RowsAt W b0 vr l
 few:m≤1048576+K
 arcs:∀x∈hs,x.d.arcs.length≤1048576+K
 free:∀x∈hs,x.d.free.length≤1048576
theorem zD7(w W0:World)(b0:Nat)(vr:Value)(l:List Sp.RR)(R:Sp.RR)(HRm:Hid (R∈l))(hr4:R.r.length≤4)(go m cp:Nat)(hs:List Lsh)(K:Nat)(hK:K≤100)(HL0:Hid (LqR w W0 b0 vr l go m cp hs K))(at_ to_:Nat)(hat:at_<m)(hto:to_≤2000000)(tgt:List Lst)(HT0:Hid (leadRow (hs.map (·.d)) at_ to_ R.r=tgt))
  (c0 c1 c3 c4 c5 c6 c7 c8 c9 c10 c12 c13 c14 c20 c21 c22 c23 c24 c25 c26 c27 c28 c29 c30 c31 c32 c33 c34 c35 c36 c37 c38 c39 c40 c41 c42 c43 c44 c45 c46 c47 c48 c49 c50 c51 c52 c53 c54 c55 c56 c57 c58 c59 c60 c61 c62 c63 c64 c65 c66 c67 c68 c69 c108 c109 u17 u18 u19 u73 u74 u75 u76 u77 u78 u79 u80 u81 u82 u83 u84 u85 u86 u87 u88 u89 u90 u91 u92 u93 u94 u95 u96 u97 u98 u99 u100 u101 u102 u103 u104 u105 u106 u107:Value) (Q0:Exit→Act→World→Prop) (hQ0:∀c (a a':Act) w,a.defers=a'.defers→Q0 (.panic c) a w→Q0 (.panic c) a' w)
  (hexit:∀(go m cp:Nat) (hs:List Lsh) (W:World) (x16 x72 u17 u18 u19 u73 u74 u75 u76 u77 u78 u79 u80 u81 u82 u83 u84 u85 u86 u87 u88 u89 u90 u91 u92 u93 u94 u95 u96 u97 u98 u99 u100 u101 u102 u103 u104 u105 u106 u107:Value),Hid (LqR w W b0 vr l go m cp hs (K+R.r.length))→Hid (hs.map (·.d)=tgt)→Q0 (.exit 4) ⟨List.toArray (c0::c1::.int .i64 (to_:Int)::c3::c4::c5::c6::c7::c8::c9::c10::.slice (some ⟨go,0,none⟩) m cp::c12::c13::c14::.slice (some ⟨R.b,0,none⟩) R.r.length R.cap::x16::u17::u18::u19::c20::c21::c22::c23::c24::c25::c26::c27::c28::c29::c30::c31::c32::c33::c34::c35::c36::c37::c38::c39::c40::c41::c42::c43::c44::c45::c46::c47::c48::c49::c50::c51::c52::c53::c54::c55::c56::c57::c58::c59::c60::c61::c62::c63::c64::c65::c66::c67::c68::c69::.slice (some ⟨R.b,0,none⟩) R.r.length R.cap::.int .i64 (R.r.length:Int)::x72::u73::u74::u75::u76::u77::u78::u79::u80::u81::u82::u83::u84::u85::u86::u87::u88::u89::u90::u91::u92::u93::u94::u95::u96::u97::u98::u99::u100::u101::u102::u103::u104::u105::u106::u107::c108::c109::[]),[]⟩ W):
  Code.wp Tryz.prog (.loop (zoc Tryz.f65 2)) Q0 ⟨List.toArray (c0::c1::.int .i64 (to_:Int)::c3::c4::c5::c6::c7::c8::c9::c10::.slice (some ⟨go,0,none⟩) m cp::c12::c13::c14::.slice (some ⟨R.b,0,none⟩) R.r.length R.cap::.int .i64 (at_:Int)::u17::u18::u19::c20::c21::c22::c23::c24::c25::c26::c27::c28::c29::c30::c31::c32::c33::c34::c35::c36::c37::c38::c39::c40::c41::c42::c43::c44::c45::c46::c47::c48::c49::c50::c51::c52::c53::c54::c55::c56::c57::c58::c59::c60::c61::c62::c63::c64::c65::c66::c67::c68::c69::.slice (some ⟨R.b,0,none⟩) R.r.length R.cap::.int .i64 (R.r.length:Int)::.int .i64 (0:Int)::u73::u74::u75::u76::u77::u78::u79::u80::u81::u82::u83::u84::u85::u86::u87::u88::u89::u90::u91::u92::u93::u94::u95::u96::u97::u98::u99::u100::u101::u102::u103::u104::u105::u106::u107::c108::c109::[]),[]⟩ W0:=by
 obtain⟨rl,hrl⟩:∃k,R.r.length=k:=⟨_,rfl⟩;have HRL:=Lib.hid hrl;rw[hrl]at hr4 hexit;rw[hrl];have hwr:IntKind.i64.wrap ((rl:Int)-1)=(rl:Int)-1:=IntWalk.i64_in _ (by omega);clear hrl;conv=>arg 2;arg 1;whnf
 go_loopw [11,16,72] (fun ov av iv wr=>∃(i go m cp at_:Nat) (hs:List Lsh),i≤rl∧ov=.slice (some ⟨go,0,none⟩) m cp∧av=.int .i64 (at_:Int)∧iv=.int .i64 (i:Int)∧at_<m+(if i=rl then 1000000000 else 0)∧Hid (LqR w wr b0 vr l go m cp hs (K+i))∧Hid (leadRow (hs.map (·.d)) at_ to_ (R.r.drop i)=tgt)) (fun _ _ iv _=>rl-(intOf iv).toNat)
 case atStart=>exact⟨0,go,m,cp,at_,hs,Nat.zero_le _,rfl,rfl,rfl,by omega,HL0,HT0⟩
 case round=>
  clear HL0 HT0 hat
  obtain⟨i,go,m,cp,at_,hs,hi,rfl,rfl,rfl,hat,HR,HT⟩:=hrel;by_cases hin:i<rl
  ·have hat2:at_<m:=by rw[if_neg (by omega)]at hat;omega
   have hi2:(i:Int)<(rl:Int):=by omega
   obtain⟨p,hp⟩:∃p,R.r[i]? =some p:=⟨R.r[i]'(by rw[HRL.out];exact hin),List.getElem?_eq_getElem _⟩;have hrow:=(HR.out.rw_.inn R HRm.out).2;obtain⟨r0,r1⟩:=zH9 hrow hp;have hrb:=(zb3 hrow).2.1;have HP:=Lib.hid hp;have HDR:Hid (R.r.drop i=p::R.r.drop (i+1)):=by
    have h2:=List.getElem?_eq_some_iff.1 hp;show _=_;rw[List.drop_eq_getElem_cons h2.1,h2.2]
   obtain⟨b1,hb1⟩:∃k,wr.heap.size=k:=⟨_,rfl⟩;have hba:=bnew (za0 wr) (.cells #[.int .i64 p.1,.int .i64 p.2] 151);have hnew:=heap_alloc_new wr (.cells #[.int .i64 p.1,.int .i64 p.2] 151);have hHl:=HR.out.lo.len;have HXN:Hid (wr.heap.size<(wr.alloc (.cells #[.int .i64 p.1,.int .i64 p.2] 151)).heap.size):=by simp[Hid]
   have HLA:Hid (LqR w (wr.alloc (.cells #[.int .i64 p.1,.int .i64 p.2] 151)) b0 vr l go m cp hs (K+i)):=⟨HR.out.lo.keep hba,HR.out.rw_.kept hba,HR.out.few,HR.out.arcs,HR.out.free⟩;have HNEW:=Lib.hid hnew;have hfw:=HR.out.few;clear hp hrow hba hnew HR hb1;by_cases hlast:i+1<rl
   ·have q0:decide ((i:Int)<(rl:Int)-1)=true:=decide_eq_true (by omega);have HOUT:=Lib.hid HLA.out.lo.out;have HBL:=Lib.hid HLA.out.lo.bel;have hbsA:=HBL.out.size;obtain⟨W1,hW1⟩:∃W1,wr.alloc (.cells #[.int .i64 p.1,.int .i64 p.2] 151)=W1:=⟨_,rfl⟩;rw[hW1]at HOUT HBL hbsA HLA HNEW HXN;go_wp2_with (at_builtin;refine zab w W1 _ rfl _ _ _ rfl znb _ _ _ rfl HOUT.out rfl (by simp) rfl (by simp[Value.oneCell']) (by unfold maxLen;omega) (by omega) hbsA HBL.out ?_;intro v8 w8 hown8 _ hg8 hor8;obtain⟨A8,cp8,rfl,_⟩:=za1 hown8;have HO8:=Lib.hid hown8;have HG8:=Lib.hid hg8;clear hown8 hg8 hor8)
    obtain⟨g8,rfl,_,_⟩:=zah HO8.out (by omega);have HRB:Hid (LoR w w8 (.slice (some ⟨g8,0,none⟩) (m+1) cp8) (m+1) (hs++[⟨⟨false,[],[]⟩,none,0,none,0⟩])):=HLA.out.lo.bare HG8.out HO8.out;have HKB:Hid (zi7 W1 w8):=zi7.loose HOUT.out HG8.out;have HXB:Hid (w8.heap[wr.heap.size]? =some (.cells #[.int .i64 p.1,.int .i64 p.2] 151 (0,0))):=zc3 HOUT.out HG8.out HNEW.out (by decide);obtain⟨x,hx⟩:∃x,hs[at_]? =some x:=⟨hs[at_]'(by omega),List.getElem?_eq_getElem _⟩;have HX0:=Lib.hid hx;have HX:Hid ((hs++[(⟨⟨false,[],[]⟩,none,0,none,0⟩:Lsh)])[at_]? =some x):=by show _=_;rw[List.getElem?_append_left (by omega)];exact hx
    have hxa:=HLA.out.arcs x (List.mem_of_getElem? hx);obtain⟨ma,hma⟩:∃k,x.d.arcs.length=k:=⟨_,rfl⟩;have HMA:=Lib.hid hma;have hma2:ma≤2000000:=by omega
    clear hx hma hxa HO8 HG8;refine z16 w w8 g8 (m+1) cp8 _ HRB at_ m (by omega) x HX ma HMA hma2 wr.heap.size p HXB _ _ _ _ _ _ _ _ _ _ _ _ _ _ _ _ _ _ _ _ _ _ _ _ _ _ _ _ _ _ _ _ _ _ _ _ _ _ _ _ _ _ _ _ _ _ _ _ _ _ _ _ _ _ _ _ _ _ _ _ _ _ _ _ _ _ _ _ _ _ _ _ _ _ _ _ _ _ _ _ _ _ _ _ _ _ _ _ _ _ _ _ _ _ _ _ _ _ _ _ _ _ _ _ _ _ _ (fun c a a' w hd h=>hQ0 c a a' w hd h) ?_;intro g9 cx9 W u89 u90 u91 u92 u93 u94 u95 u96 u97 u98 u99 u100 u101 u102 u103 u104 u105 HL9 HK9
    have HLN:Hid (LqR w W b0 vr l g8 (m+1) cp8 ((hs++[(⟨⟨false,[],[]⟩,none,0,none,0⟩:Lsh)]).set at_ ⟨⟨x.d.fin,x.d.arcs++[(p.1,p.2,(m:Int))],x.d.free⟩,some ⟨g9,0,none⟩,cx9,x.F,x.e⟩) (K+(i+1))):=by
     have hmem:∀y∈hs++[(⟨⟨false,[],[]⟩,none,0,none,0⟩:Lsh)],y.d.arcs.length≤1048576+(K+i)∧y.d.free.length≤1048576:=fun y hy=>by
      rcases List.mem_append.1 hy with hy|hy
      ·exact⟨HLA.out.arcs y hy,HLA.out.free y hy⟩
      ·rw[List.mem_singleton.1 hy];exact⟨Nat.zero_le _,Nat.zero_le _⟩
     have hxm:=hmem x (List.mem_of_getElem? HX.out);refine⟨HL9.out,zj6 (zj6 HLA.out.rw_ HKB.out) HK9.out,by omega,fun y hy=>?_,fun y hy=>?_⟩
     ·rcases List.mem_or_eq_of_mem_set hy with hy|rfl
      ·have:=(hmem y hy).1;omega
      ·show(x.d.arcs++[_]).length≤_;rw[List.length_append,List.length_singleton];omega
     ·rcases List.mem_or_eq_of_mem_set hy with hy|rfl
      ·exact(hmem y hy).2
      ·exact hxm.2
    have HTN:Hid (leadRow (((hs++[(⟨⟨false,[],[]⟩,none,0,none,0⟩:Lsh)]).set at_ ⟨⟨x.d.fin,x.d.arcs++[(p.1,p.2,(m:Int))],x.d.free⟩,some ⟨g9,0,none⟩,cx9,x.F,x.e⟩).map (·.d)) m to_ (R.r.drop (i+1))=tgt):=by
     show _=_;rw[zsf HX.out,List.map_append,←HT.out,HDR.out];obtain⟨q,r',hq⟩:∃q r',R.r.drop (i+1)=q::r':=by
      have h1:(R.r.drop (i+1)).length≠0:=by rw[List.length_drop,HRL.out];omega
      cases h2:R.r.drop (i+1)with
      |nil=>rw[h2]at h1;exact absurd rfl h1
      |cons q r'=>exact⟨q,r',rfl⟩
     rw[hq,leadRow,List.length_map,hHl];rfl
    clear HL9 HK9 HRB HKB HXB HX HX0 HLA HT HNEW HOUT HBL r0 r1;go_wp2_with fail;go_roundw;case rel=>exact⟨i+1,g8,m+1,cp8,m,_,by omega,rfl,rfl,by go_num,by split<;>omega,HLN,HTN⟩
    case measure=>simp[intOf];omega
   ·have q0:decide ((i:Int)<(rl:Int)-1)=false:=decide_eq_false (by omega);obtain⟨W1,hW1⟩:∃W1,wr.alloc (.cells #[.int .i64 p.1,.int .i64 p.2] 151)=W1:=⟨_,rfl⟩;rw[hW1]at HLA HNEW HXN;obtain⟨x,hx⟩:∃x,hs[at_]? =some x:=⟨hs[at_]'(by omega),List.getElem?_eq_getElem _⟩;have HX:=Lib.hid hx;have hxa:=HLA.out.arcs x (List.mem_of_getElem? hx);obtain⟨ma,hma⟩:∃k,x.d.arcs.length=k:=⟨_,rfl⟩;have HMA:=Lib.hid hma;have hma2:ma≤2000000:=by omega
    clear hx hma hxa;go_wp2_with fail;refine z16 w W1 go m cp hs HLA.out.lo at_ to_ hat2 x HX ma HMA hma2 wr.heap.size p HNEW _ _ _ _ _ _ _ _ _ _ _ _ _ _ _ _ _ _ _ _ _ _ _ _ _ _ _ _ _ _ _ _ _ _ _ _ _ _ _ _ _ _ _ _ _ _ _ _ _ _ _ _ _ _ _ _ _ _ _ _ _ _ _ _ _ _ _ _ _ _ _ _ _ _ _ _ _ _ _ _ _ _ _ _ _ _ _ _ _ _ _ _ _ _ _ _ _ _ _ _ _ _ _ _ _ _ _ (fun c a a' w hd h=>hQ0 c a a' w hd h) ?_;intro g9 cx9 W u89 u90 u91 u92 u93 u94 u95 u96 u97 u98 u99 u100 u101 u102 u103 u104 u105 HL9 HK9
    have HLN:Hid (LqR w W b0 vr l go m cp (hs.set at_ ⟨⟨x.d.fin,x.d.arcs++[(p.1,p.2,(to_:Int))],x.d.free⟩,some ⟨g9,0,none⟩,cx9,x.F,x.e⟩) (K+(i+1))):=by
     have hxm:=List.mem_of_getElem? HX.out;refine⟨HL9.out,zj6 HLA.out.rw_ HK9.out,by omega,fun y hy=>?_,fun y hy=>?_⟩
     ·rcases List.mem_or_eq_of_mem_set hy with hy|rfl
      ·have:=HLA.out.arcs y hy;omega
      ·show(x.d.arcs++[_]).length≤_;rw[List.length_append,List.length_singleton];have:=HLA.out.arcs x hxm;omega
     ·rcases List.mem_or_eq_of_mem_set hy with hy|rfl
      ·exact HLA.out.free y hy
      ·exact HLA.out.free x hxm
    have HTN:Hid (leadRow ((hs.set at_ ⟨⟨x.d.fin,x.d.arcs++[(p.1,p.2,(to_:Int))],x.d.free⟩,some ⟨g9,0,none⟩,cx9,x.F,x.e⟩).map (·.d)) to_ to_ (R.r.drop (i+1))=tgt):=by
     have hd:R.r.drop (i+1)=[]:=List.drop_eq_nil_of_le (by rw[HRL.out];omega);show _=_;rw[zsf HX.out,←HT.out,HDR.out,hd];rfl
    clear HL9 HK9 HX HLA HT HNEW r0 r1;go_wp2_with fail;go_roundw;case rel=>exact⟨i+1,go,m,cp,to_,_,by omega,rfl,rfl,by go_num,by rw[if_pos (by omega)];omega,HLN,HTN⟩
    case measure=>simp[intOf];omega
  ·obtain rfl:i=rl:=by omega
   have HTE:Hid (hs.map (·.d)=tgt):=by
    have h1:=HT.out;rw[List.drop_eq_nil_of_le (by rw[HRL.out];exact Nat.le_refl _)]at h1;exact h1
   have q0:decide ((i:Int)<(i:Int))=false:=decide_eq_false (by omega);go_wp2_with fail;exact hexit go m cp hs wr _ _ _ _ _ _ _ _ _ _ _ _ _ _ _ _ _ _ _ _ _ _ _ _ _ _ _ _ _ _ _ _ _ _ _ _ _ _ _ _ HR HTE
end
section
open Go.RowKit Go.Maps
def z2k(w:World)(H:List Lsh)(fr to_:Nat)(lo hi:Int):Ending→World→Prop:=fun e w'=>∃go m cp hs,e=.returned (.slice (some ⟨go,0,none⟩) m cp)∧LoR w w' (.slice (some ⟨go,0,none⟩) m cp) m hs∧hs.map (·.d)=za6 (H.map (·.d)) fr to_ (Sp.allP lo hi)∧m≤H.length+60∧(∀x∈hs,x.d.arcs.length≤1048576+100)∧∀x∈hs,x.d.free.length≤1048576
theorem z75{l:List Sp.RR}{j:Nat}{R:Sp.RR}(h:l[j]? =some R):l.drop j=R::l.drop (j+1):=by
 have h2:=List.getElem?_eq_some_iff.1 h;rw[List.drop_eq_getElem_cons h2.1,h2.2]
theorem z0j:∀{rs:List (List (Int×Int))},(∀r∈rs,r.length≤4)→zj2 rs≤3*rs.length
 |[],_=>Nat.le_refl _
 |
  r::rs,h=>by
  have h1:=h r (List.mem_cons_self ..);have h2:=z0j (rs:=rs) fun r hr=>h r (List.mem_cons_of_mem _ hr)
  rw[zj2,List.length_cons];omega
theorem lead_any(w:World)(B:Nat)(hB:B≤w.heap.size)(A:Option Addr)(n c:Nat)(H:List Lsh)(h:LoIn w B A n c H)(hn:n≤1048576)(ha:∀x∈H,x.d.arcs.length≤1048576∧x.d.free.length≤1048576)(fr to_:Nat)(hfr:fr<n)(hto:to_<n)(lo hi:Int):
  Calls Tryz.prog 65 #[.slice A n c,.int .i64 (fr:Int),.int .i64 (to_:Int),.int .i64 lo,.int .i64 hi] w (z2k w H fr to_ lo hi):=by
 have HS:=Lib.hid h;have HA:=Lib.hid ha;have hlen:=h.len;have hfr2:(fr:Int)<(n:Int):=by omega
 have hto2:(to_:Int)<(n:Int):=by omega
 have q1:decide ((fr:Int)<0)=false:=decide_eq_false (by omega);have q2:decide ((fr:Int)≥(n:Int))=false:=decide_eq_false (by omega);have q21:decide (fr≥n)=false:=decide_eq_false (by omega);have q3:decide ((to_:Int)<0)=false:=decide_eq_false (by omega);have q4:decide ((to_:Int)≥(n:Int))=false:=decide_eq_false (by omega);have q41:decide (to_≥n)=false:=decide_eq_false (by omega);have HL0:Hid (LoR w (w.alloc (.cells #[] 134)) (.slice (some ⟨w.heap.size,0,none⟩) 0 0) 0 []):=⟨zc1 w _ 3 rfl (Nat.le_refl _),GFam.nil _ _ _ _,GFam.nil _ _ _ _,bnew (za0 w) _⟩;clear h ha;go_enter Tryz.func65,Tryz.ntmps65
 go_wp2_with fail;refine z95 w _ B hB A n c H HS hlen (by omega) _ HL0 _ _ _ _ _ _ _ _ _ _ _ _ _ _ _ _ _ _ _ _ _ _ _ _ _ _ _ _ _ _ _ _ _ _ _ _ _ _ _ _ _ _ _ _ _ _ _ _ _ _ _ _ _ _ _ _ _ _ _ _ _ _ _ _ _ _ _ _ _ _ _ _ _ _ _ _ _ _ _ _ _ _ _ _ _ _ _ _ _ _ _ _ _ _ _ _ _ _ _ _ _ _ _ _ _ _ _ (fun c a a' w hd h=>by cases a;cases a';cases hd;exact h) ?_;intro v hs0 W0 x23 u13 u24 u25 u26 u27 u28 u29 u30 u31 u32 u33 u34 u35 u36 u37 u38 u39 u40 u41 HR HD
 obtain⟨A0,cp0,rfl,_⟩:=za1 HR.out.out;obtain⟨g0,rfl,_,_⟩:=zah HR.out.out (by omega);have hbs0:=HR.out.bel.size;clear HL0;go_wp2_with fail;refine(Sp.all_any lo hi W0).mono ?_;rintro e W1 ⟨vr,l,rfl,hrows,hlm,hb1⟩;have HLM:=Lib.hid hlm;have hl20:l.length≤20:=by
  have:=Sp.all_len lo hi;rw[←hlm,List.length_map]at this;exact this
 obtain⟨Ar,cr,rfl,_⟩:=za1 hrows.own;have HR4:Hid (∀R∈l,R.r.length≤4):=fun R hR=>(Sp.all_ok lo hi R.r (by rw[←hlm];exact List.mem_map_of_mem hR)).2.1
 have HMEM:Hid (∀x∈hs0,x.d.arcs.length≤1048576∧x.d.free.length≤1048576):=fun x hx=>by
  have h1:x.d∈H.map (·.d):=by rw[←HD.out];exact List.mem_map_of_mem hx
  obtain⟨y,hy,he⟩:=List.mem_map.1 h1;rw[←he];exact HA.out y hy
 have HL1:Hid (LqR w W1 W0.heap.size (.slice Ar l.length cr) l g0 n cp0 hs0 0):=⟨HR.out.keep hb1,hrows,by omega,fun x hx=>(HMEM.out x hx).1,fun x hx=>(HMEM.out x hx).2⟩;have HT1:Hid (za6 (hs0.map (·.d)) fr to_ ((l.drop 0).map Sp.RR.r)=za6 (H.map (·.d)) fr to_ (Sp.allP lo hi)):=by show _=_;rw[HD.out,List.drop_zero,HLM.out]
 clear hrows hlm hb1 HR HMEM;go_wp2_with fail;go_loopw [11,65] (fun ov iv wr=>∃(j go m cp K:Nat) (hs:List Lsh),j≤l.length∧ov=.slice (some ⟨go,0,none⟩) m cp∧iv=.int .i64 (j:Int)∧n≤m∧K≤4*j∧Hid (LqR w wr W0.heap.size (.slice Ar l.length cr) l go m cp hs K)∧Hid (za6 (hs.map (·.d)) fr to_ ((l.drop j).map Sp.RR.r)=za6 (H.map (·.d)) fr to_ (Sp.allP lo hi))) (fun _ iv _=>l.length-(intOf iv).toNat)
 case atStart=>exact⟨0,g0,n,cp0,0,hs0,Nat.zero_le _,rfl,rfl,Nat.le_refl _,Nat.le_refl _,HL1,HT1⟩
 case round=>
  clear HL1 HT1;obtain⟨j,go,m,cp,K,hs,hj,rfl,rfl,hnm,hK,HR,HT⟩:=hrel;by_cases hjl:j<l.length
  ·obtain⟨R,hR⟩:∃R,l[j]? =some R:=⟨l[j],List.getElem?_eq_getElem _⟩;have HRm:=Lib.hid (List.mem_of_getElem? hR);have hr4:=HR4.out R HRm.out;have hj2:(j:Int)<(l.length:Int):=by omega
   obtain⟨gr,rfl,_,_⟩:=zah HR.out.rw_.own (by omega);have r0:=zak HR.out.rw_.own (j:=j) (u:=R.val) (by rw[List.getElem?_map,hR];rfl);unfold Sp.RR.val at r0;have hgr:=(zb3 HR.out.rw_.own).2.1;have HDR:Hid ((l.drop j).map Sp.RR.r=R.r::(l.drop (j+1)).map Sp.RR.r):=by show _=_;rw[z75 hR];rfl
   have hmh:=HR.out.lo.len;clear hR;go_wp2_with fail;refine zD7 w wr W0.heap.size _ l R HRm hr4 go m cp hs K (by omega) HR fr to_ (by omega) (by omega) (leadRow (hs.map (·.d)) fr to_ R.r) (Lib.hid rfl) _ _ _ _ _ _ _ _ _ _ _ _ _ _ _ _ _ _ _ _ _ _ _ _ _ _ _ _ _ _ _ _ _ _ _ _ _ _ _ _ _ _ _ _ _ _ _ _ _ _ _ _ _ _ _ _ _ _ _ _ _ _ _ _ _ _ _ _ _ _ _ _ _ _ _ _ _ _ _ _ _ _ _ _ _ _ _ _ _ _ _ _ _ _ _ _ _ _ _ _ _ _ _ _ (fun c a a' w hd h=>by cases a;cases a';cases hd;exact h) ?_;intro go2 m2 cp2 hs2 W x16 x72 u17 u18 u19 u73 u74 u75 u76 u77 u78 u79 u80 u81 u82 u83 u84 u85 u86 u87 u88 u89 u90 u91 u92 u93 u94 u95 u96 u97 u98 u99 u100 u101 u102 u103 u104 u105 u106 u107 HR2 HE2
   have HTN:Hid (za6 (hs2.map (·.d)) fr to_ ((l.drop (j+1)).map Sp.RR.r)=za6 (H.map (·.d)) fr to_ (Sp.allP lo hi)):=by
    show _=_;rw[HE2.out,←HT.out,HDR.out];rfl
   have hm2:n≤m2:=by
    have h1:=HR2.out.lo.len;have h2:=congrArg List.length HE2.out;rw[List.length_map,zd8,List.length_map]at h2;omega
   clear HT HDR HR r0 HE2;go_wp2_with fail;go_roundw;case rel=>exact⟨j+1,go2,m2,cp2,_,hs2,by omega,rfl,by go_num,hm2,by omega,HR2,HTN⟩
   case measure=>simp[intOf];omega
  ·obtain rfl:j=l.length:=by omega
   have HE:Hid (hs.map (·.d)=za6 (H.map (·.d)) fr to_ (Sp.allP lo hi)):=by
    have h1:=HT.out;rw[List.drop_length]at h1;exact h1
   have HM:Hid (m≤H.length+60):=by
    have h1:=congrArg List.length HE.out;rw[List.length_map,HR.out.lo.len,zdc,List.length_map]at h1;have h2:=z0j (rs:=Sp.allP lo hi) fun r hr=>(Sp.all_ok lo hi r hr).2.1
    have h3:=Sp.all_len lo hi;show m≤_;omega
   have HPOST:Hid (z2k w H fr to_ lo hi (.returned (.slice (some ⟨go,0,none⟩) m cp)) wr):=⟨go,m,cp,hs,rfl,HR.out.lo,HE.out,HM.out,fun x hx=>by have:=HR.out.arcs x hx;omega,HR.out.free⟩;have q0:decide ((l.length:Int)<(l.length:Int))=false:=decide_eq_false (by omega);clear HT HR HE HM;go_wp2_with fail;go_ret;exact HPOST.out
end
section
open Go.RowKit
def valD(l:List UInt8):Nat:=l.foldl (fun a c=>a*10+(c.toNat-48)) 0
theorem znd:∀u:Nat,valD (Lib.decDigits u)=u:=by
 intro u
 induction u using Nat.strongRecOn with
 |
  ind u ih=>
  rw[Lib.decDigits];split
  ·rename_i h
   unfold valD;simp
   omega
  ·rename_i h
   have h1:=ih (u/10) (by omega);unfold valD at h1⊢;rw[List.foldl_append,h1];simp
   omega
theorem zuc{u v:Nat}(h:Lib.decDigits u=Lib.decDigits v):u=v:=by
 rw[←znd u,h,znd]
theorem zpc:∀u:Nat,∀c∈Lib.decDigits u,48≤c.toNat∧c.toNat≤57:=by
 intro u
 induction u using Nat.strongRecOn with
 |
  ind u ih=>
  rw[Lib.decDigits];split
  ·rename_i h
   intro c hc
   rw[List.mem_singleton.1 hc];simp
   omega
  ·rename_i h
   intro c hc
   rcases List.mem_append.1 hc with hc|hc
   ·exact ih (u/10) (by omega) c hc
   ·rw[List.mem_singleton.1 hc];simp
    omega
theorem zGc(u:Nat):Lib.decDigits u≠[]:=by
 rw[Lib.decDigits];split<;>simp
def isD(c:UInt8):Bool:=decide (48≤c.toNat∧c.toNat≤57)
theorem zn7{z:Int}(h:0≤z):Lib.itoa z=Lib.decDigits z.toNat:=by
 unfold Lib.itoa;rw[if_neg (by omega)]
def Stop(r:List UInt8):Prop:=r=[]∨∃c t,r=c::t∧isD c=false
theorem zs4:∀{a b r s:List UInt8},(∀x∈a,isD x=true)→(∀x∈b,isD x=true)→Stop r→Stop s→a++r=b++s→a=b∧r=s
 |[],[],_,_,_,_,_,_,h=>⟨rfl,h⟩
 |
  [],y::b,r,s,_,hb,hr,_,h=>by
  rcases hr with rfl|⟨c,t,rfl,hc⟩
  ·cases h
  ·injection h with h1 _
   have:=hb y (List.mem_cons_self ..);rw[←h1,hc]at this;cases this
 |
  x::a,[],r,s,ha,_,_,hs,h=>by
  rcases hs with rfl|⟨c,t,rfl,hc⟩
  ·cases h
  ·injection h with h1 _
   have:=ha x (List.mem_cons_self ..);rw[h1,hc]at this;cases this
 |
  x::a,y::b,r,s,ha,hb,hr,hs,h=>by
  injection h with h1 h2
  obtain⟨e1,e2⟩:=zs4 (fun z hz=>ha z (List.mem_cons_of_mem _ hz)) (fun z hz=>hb z (List.mem_cons_of_mem _ hz)) hr hs h2;exact⟨by rw[h1,e1],e2⟩
theorem z18{z:Int}(h:0≤z):∀x∈Lib.itoa z,isD x=true:=by
 rw[zn7 h];intro x hx
 have:=zpc _ x hx;unfold isD;exact decide_eq_true this
theorem zu8{a b:Int}(ha:0≤a)(hb:0≤b)(h:Lib.itoa a=Lib.itoa b):a=b:=by
 rw[zn7 ha,zn7 hb]at h;have:=zuc h;omega
theorem zo9{a b:Int}(ha:0≤a)(hb:0≤b){r s:List UInt8}(hr:Stop r)(hs:Stop s)(h:Lib.itoa a++r=Lib.itoa b++s):a=b∧r=s:=by
 obtain⟨h1,h2⟩:=zs4 (z18 ha) (z18 hb) hr hs h;exact⟨zu8 ha hb h1,h2⟩
theorem zef{c:UInt8}{t:List UInt8}(h:isD c=false):Stop (c::t):=.inr ⟨c,t,rfl,h⟩
def Pos3(a:Arc3):Prop:=0≤a.1∧0≤a.2.1∧0≤a.2.2
theorem zq3:∀l:List Arc3,Stop (l.flatMap arcT)
 |[]=>.inl rfl
 |
  a::r=>by
  rw[List.flatMap_cons];exact zef (by decide)
theorem zuh:∀{l l':List Arc3},(∀a∈l,Pos3 a)→(∀a∈l',Pos3 a)→l.flatMap arcT=l'.flatMap arcT→l=l'
 |[],[],_,_,_=>rfl
 |
  [],b::r,_,_,h=>by
  rw[List.flatMap_cons]at h;cases h
 |
  a::r,[],_,_,h=>by
  rw[List.flatMap_cons]at h;cases h
 |
  a::r,b::s,ha,hb,h=>by
  rw[List.flatMap_cons,List.flatMap_cons]at h;obtain⟨p1,p2,p3⟩:=ha a (List.mem_cons_self ..);obtain⟨q1,q2,q3⟩:=hb b (List.mem_cons_self ..);unfold arcT at h;simp only[List.cons_append,List.append_assoc]at h;injection h with _ h
  obtain⟨e1,h⟩:=zo9 p1 q1 (zef (by decide)) (zef (by decide)) h;injection h with _ h
  obtain⟨e2,h⟩:=zo9 p2 q2 (zef (by decide)) (zef (by decide)) h;injection h with _ h
  obtain⟨e3,h⟩:=zo9 p3 q3 (zq3 r) (zq3 s) h;rw[zuh (fun x hx=>ha x (List.mem_cons_of_mem _ hx)) (fun x hx=>hb x (List.mem_cons_of_mem _ hx)) h];congr 1
  exact Prod.ext e1 (Prod.ext e2 e3)
theorem zC1{c c':Int}{f f':Bool}{l l':List Arc3}(hc:0≤c)(hc':0≤c')(hl:∀a∈l,Pos3 a)(hl':∀a∈l',Pos3 a)(h:sigT c f l=sigT c' f' l'):c=c'∧f=f'∧l=l':=by
 unfold sigT at h;rw[List.append_assoc,List.append_assoc]at h;have stop:∀(f:Bool) (l:List Arc3),Stop ((if f then[33]else[])++l.flatMap arcT):=by
  intro f l
  cases f
  ·exact zq3 l
  ·exact zef (by decide)
 obtain⟨e1,h2⟩:=zo9 hc hc' (stop f l) (stop f' l') h;refine⟨e1,?_⟩;have hne:∀(l l':List Arc3),(33:UInt8)::l.flatMap arcT≠l'.flatMap arcT:=by
  intro l l' e
  cases l' with
  |nil=>cases e
  |
   cons b s=>
   rw[List.flatMap_cons]at e;unfold arcT at e;injection e with e _
   exact absurd e (by decide)
 cases f<;>cases f'
 ·exact⟨rfl,zuh hl hl' h2⟩
 ·exact absurd h2.symm (hne l' l)
 ·exact absurd h2 (hne l l')
 ·refine⟨rfl,zuh hl hl' ?_⟩;simpa using h2
theorem z6g(c:Int)(f:Bool)(l:List Arc3)(hc:0≤c):sigT c f l≠[]:=by
 unfold sigT;rw[zn7 hc];intro h
 have h1:=List.append_eq_nil_iff.1 h;have h2:=List.append_eq_nil_iff.1 h1.1;exact zGc _ h2.1
end
end Go.Proofs.YtaociahafamncaaGreatDoor
