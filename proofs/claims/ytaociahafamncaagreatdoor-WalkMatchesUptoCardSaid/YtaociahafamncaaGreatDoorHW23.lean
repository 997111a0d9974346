/- Folded. -/
import Derived.Test.YtaociahafamncaaGreatDoorHW22
set_option maxRecDepth 100000
set_option maxHeartbeats 40000000
set_option linter.unusedVariables false
namespace Go.Proofs.YtaociahafamncaaGreatDoor
section
open Go.RowKit Go.Maps
open F (Ent Nd Nh gath gath_s Fine byteAt DictAt waysC wayC entsC entC)
theorem along_push{W w7:World}{mb p na ca ob oc most g cap:Nat}{A:Option Addr}{Av:Option Addr}{cv:Nat}{E:List Ent}{t:List UInt8}{Z:Int}(HM:MatAt W mb p na ca A ob oc most (.slice Av E.length cv) E false)(hg:W.grownBy w7 (Value.slice Av E.length cv).ownBlock)(ho:w7.ownsRow (mb+1) 29 2 (.slice (some ⟨g,0,none⟩) (E.length+1) cap) (E.length+1) (entsC E++(#[Value.string ⟨t.toArray⟩,.int .i64 Z]:Array Value).toList)){U:Nat}(hgm:(Value.slice Av E.length cv).ownBlock=some g∨U≤g)(hU:W.heap.size≤U):
  MatAt (w7.setCell ⟨mb,4,none⟩ (.slice (some ⟨g,0,none⟩) (E.length+1) cap)) mb p na ca A ob oc most (.slice (some ⟨g,0,none⟩) (E.length+1) cap) (E++[(t,Z)]) false∧But (MatAt.foot mb (.slice Av E.length cv)) W (w7.setCell ⟨mb,4,none⟩ (.slice (some ⟨g,0,none⟩) (E.length+1) cap))∧∀b,some b=(Value.slice (some ⟨g,0,none⟩) (E.length+1) cap).ownBlock→some b=(Value.slice Av E.length cv).ownBlock∨W.heap.size≤b:=by
 have hne:some mb≠(Value.slice Av E.length cv).ownBlock:=fun e=>by
  have:=(HM.own.lt _ e.symm).1;omega
 have hb7:=(hg.block mb HM.lt hne).trans HM.blk;refine⟨⟨?_,?_⟩,⟨hg.os,hg.tape,hg.output,by simpa using hg.size,fun k hk hn=>?_⟩,fun b hb=>?_⟩
 ·have:=F.blk_set (j:=4) hb7 (.slice (some ⟨g,0,none⟩) (E.length+1) cap);simpa using this
 ·have e1:entsC (E++[(t,Z)])=entsC E++(#[Value.string ⟨t.toArray⟩,.int .i64 Z]:Array Value).toList:=by
   unfold F.entsC;rw[List.flatMap_append];rfl
  rw[e1,List.length_append];exact F.own_set ho (Nat.lt_succ_self _)
 ·rw[Below.heap_setCell _ _ _ _ (by exact fun e=>hn (.inl e))];exact hg.block k hk fun e=>hn (.inr e)
 ·have e1:b=g:=by
   have:some b=some g:=hb;injection this
  subst e1;rcases hgm with h|h
  ·exact .inl h.symm
  ·exact .inr (by omega)
theorem along_r6(W:World)(mb p na ca ob oc most ab nb:Nat)(A:Option Addr)(v:Value)(E:List Ent)(HM:Hid (MatAt W mb p na ca A ob oc most v E false))(hE:E.length≤1048576)(hab:ab≠mb∧some ab≠v.ownBlock)(hnb:nb≠mb∧some nb≠v.ownBlock)(t:List UInt8)(z o:Int)
  (a1:W.cell? ⟨ab,1,none⟩=some (.int .i64 z)) (a3:W.cell? ⟨ab,3,none⟩=some (.string ⟨t.toArray⟩)) (n1:W.cell? ⟨nb,1,none⟩=some (.int .i64 o))
  (c1 c2 c5 c6 c7 c8 c9 c10 c11 c12 c13 c14 c15 c16 c17 c18 c19 c20 c21 c22 c23 c24 c25 c26 c27 c28 c29 c30 c31 c32 c33 c34 c35 c36 c37 c38 c39 c40 c41 c42 c43 c44 c45 c46 c47 c48 c49 c50 c51 c52 c53 c54 c55 c56 c57 c58 c76 c77 c78 c79 c80 c81 c82 c83 c84 c85 c86 c87 c88 c89 c90 c91 c92 c93 c94 c95 c96 c97 c98 c99 c100 c101 c102 c103 c104 c105 c106 c107 c108 c109 c110 c111 c112 c113 c114 u59 u60 u61 u62 u63 u64 u65 u66 u67 u68 u69 u70 u71 u72 u73 u74 u75:Value) (Q0:Exit→Act→World→Prop) (hQ0:∀c (a a':Act) w,a.defers=a'.defers→Q0 (.panic c) a w→Q0 (.panic c) a' w)
  (hnext:∀(v':Value) (W':World) (u59 u60 u61 u62 u63 u64 u65 u66 u67 u68 u69 u70 u71 u72 u73 u74 u75:Value),Hid (MatAt W' mb p na ca A ob oc most v' (E++[(t,IntKind.i64.wrap (z+o))]) false)→Hid (But (MatAt.foot mb v) W W')→Hid (∀b,some b=v'.ownBlock→some b=v.ownBlock∨W.heap.size≤b)→Q0 .normal ⟨List.toArray (.pointer (some ⟨mb,0,none⟩)::c1::c2::.pointer (some ⟨ab,0,none⟩)::.pointer (some ⟨nb,0,none⟩)::c5::c6::c7::c8::c9::c10::c11::c12::c13::c14::c15::c16::c17::c18::c19::c20::c21::c22::c23::c24::c25::c26::c27::c28::c29::c30::c31::c32::c33::c34::c35::c36::c37::c38::c39::c40::c41::c42::c43::c44::c45::c46::c47::c48::c49::c50::c51::c52::c53::c54::c55::c56::c57::c58::u59::u60::u61::u62::u63::u64::u65::u66::u67::u68::u69::u70::u71::u72::u73::u74::u75::c76::c77::c78::c79::c80::c81::c82::c83::c84::c85::c86::c87::c88::c89::c90::c91::c92::c93::c94::c95::c96::c97::c98::c99::c100::c101::c102::c103::c104::c105::c106::c107::c108::c109::c110::c111::c112::c113::c114::[]),[]⟩ W'):
  Code.wp Tryz.prog (regOf Tryz.f29 6) Q0 ⟨List.toArray (.pointer (some ⟨mb,0,none⟩)::c1::c2::.pointer (some ⟨ab,0,none⟩)::.pointer (some ⟨nb,0,none⟩)::c5::c6::c7::c8::c9::c10::c11::c12::c13::c14::c15::c16::c17::c18::c19::c20::c21::c22::c23::c24::c25::c26::c27::c28::c29::c30::c31::c32::c33::c34::c35::c36::c37::c38::c39::c40::c41::c42::c43::c44::c45::c46::c47::c48::c49::c50::c51::c52::c53::c54::c55::c56::c57::c58::u59::u60::u61::u62::u63::u64::u65::u66::u67::u68::u69::u70::u71::u72::u73::u74::u75::c76::c77::c78::c79::c80::c81::c82::c83::c84::c85::c86::c87::c88::c89::c90::c91::c92::c93::c94::c95::c96::c97::c98::c99::c100::c101::c102::c103::c104::c105::c106::c107::c108::c109::c110::c111::c112::c113::c114::[]),[]⟩ W:=by
 obtain⟨Av,cv,rfl,hEc⟩:=own_shape HM.out.own;have r4:=cell_of_row W mb 4 _ _ (0,0) HM.out.blk;simp at r4
 obtain⟨Z,hZ⟩:∃Z,IntKind.i64.wrap (z+o)=Z:=⟨_,rfl⟩;rw[hZ]at hnext;have HNE:Hid (some mb≠(Value.slice Av E.length cv).ownBlock):=fun e=>by
  have:=(HM.out.own.lt _ e.symm).1;omega
 have hpW:mb<W.heap.size:=HM.out.lt;have l1:=(lt_of_cell a1).1;have l3:=(lt_of_cell n1).1;simp only at l1 l3;have HNX:=Lib.hid hnext;have HC0:=Lib.hid (And.intro a1 (And.intro a3 n1));have HKP:Hid (∀W',Below W.heap.size W W'→W'.cell? ⟨ab,1,none⟩=some (.int .i64 z)∧W'.cell? ⟨ab,3,none⟩=some (.string ⟨t.toArray⟩)∧W'.cell? ⟨nb,1,none⟩=some (.int .i64 o)):=fun W' hb=>⟨(hb.cell (p:=⟨ab,1,none⟩) l1).trans a1,(hb.cell (p:=⟨ab,3,none⟩) l1).trans a3,(hb.cell (p:=⟨nb,1,none⟩) l3).trans n1⟩
 have HKG:Hid (∀W',W.grownBy W' (Value.slice Av E.length cv).ownBlock→W'.cell? ⟨ab,1,none⟩=some (.int .i64 z)∧W'.cell? ⟨ab,3,none⟩=some (.string ⟨t.toArray⟩)∧W'.cell? ⟨nb,1,none⟩=some (.int .i64 o)):=fun W' hg=>⟨hg.cell a1 hab.2,hg.cell a3 hab.2,hg.cell n1 hnb.2⟩
 have HKS:Hid (∀(W':World) (u:Value),(W'.cell? ⟨ab,1,none⟩=some (.int .i64 z)∧W'.cell? ⟨ab,3,none⟩=some (.string ⟨t.toArray⟩)∧W'.cell? ⟨nb,1,none⟩=some (.int .i64 o))→(W'.setCell ⟨mb,4,none⟩ u).cell? ⟨ab,1,none⟩=some (.int .i64 z)∧(W'.setCell ⟨mb,4,none⟩ u).cell? ⟨ab,3,none⟩=some (.string ⟨t.toArray⟩)∧(W'.setCell ⟨mb,4,none⟩ u).cell? ⟨nb,1,none⟩=some (.int .i64 o)):=fun W' u h=>⟨(World.cell?_of_block (a:=⟨ab,1,none⟩) (Below.heap_setCell W' ⟨mb,4,none⟩ u ab hab.1)).trans h.1,(World.cell?_of_block (a:=⟨ab,3,none⟩) (Below.heap_setCell W' ⟨mb,4,none⟩ u ab hab.1)).trans h.2.1,(World.cell?_of_block (a:=⟨nb,1,none⟩) (Below.heap_setCell W' ⟨mb,4,none⟩ u nb hnb.1)).trans h.2.2⟩
 clear hnext hab hnb;conv=>arg 2;whnf
 refine wp_region_held_drew (S:=(fun w'=>w'.cell? ⟨ab,1,none⟩=some (.int .i64 z)∧w'.cell? ⟨ab,3,none⟩=some (.string ⟨t.toArray⟩)∧w'.cell? ⟨nb,1,none⟩=some (.int .i64 o))) (by kernel_rfl) ?_ (fun hHeld=>?_)
 ·(try dsimp only);first|assumption|exact HC0.out|exact HC7.out|exact HC8.out|(refine HKP.out _ ?_;(repeat(first|exact brefl _|refine Below.drew ?_|refine bnew ?_ _));done)
 refine wpAnyH_take (i:=0) (v:=?_) rfl (by kernel_rfl) (by kernel_rfl) (by kernel_rfl) (fun c _ w h=>hQ0 c _ _ w (by rfl) h) (Or.inl ⟨by rfl,?_⟩) (by assumption) ?_;rotate_left
 ·intro w hSw;(try dsimp only at hSw);go_simp;(try with_reducible rfl)
 try simp only[Act.put,List.setIfInBounds_toArray]
 refine wpAnyH_take (i:=1) (v:=?_) rfl (by kernel_rfl) (by kernel_rfl) (by kernel_rfl) (fun c _ w h=>hQ0 c _ _ w (by rfl) h) (Or.inl ⟨by rfl,?_⟩) (by assumption) ?_;rotate_left
 ·intro w hSw;(try dsimp only at hSw);go_simp;(try with_reducible rfl)
 try simp only[Act.put]
 refine wpAnyH_take (i:=2) (v:=?_) rfl (by kernel_rfl) (by kernel_rfl) (by kernel_rfl) (fun c _ w h=>hQ0 c _ _ w (by rfl) h) (Or.inl ⟨by rfl,?_⟩) (by assumption) ?_;rotate_left
 ·intro w hSw;(try dsimp only at hSw);go_simp;(try with_reducible rfl)
 try simp only[Act.put]
 refine wpAnyH_take (i:=3) (v:=?_) rfl (by kernel_rfl) (by kernel_rfl) (by kernel_rfl) (fun c _ w h=>hQ0 c _ _ w (by rfl) h) (Or.inl ⟨by rfl,?_⟩) (by assumption) ?_;rotate_left
 ·intro w hSw;(try dsimp only at hSw);go_simp;(try with_reducible rfl)
 try simp only[Act.put]
 refine wpAnyH_take (i:=5) (v:=?_) rfl (by kernel_rfl) (by kernel_rfl) (by kernel_rfl) (fun c _ w h=>hQ0 c _ _ w (by rfl) h) (Or.inl ⟨by rfl,?_⟩) (by assumption) ?_;rotate_left
 ·intro w hSw;(try dsimp only at hSw);go_simp;(try with_reducible rfl)
 try simp only[Act.put]
 refine wpAnyH_take (i:=6) (v:=?_) rfl (by kernel_rfl) (by kernel_rfl) (by kernel_rfl) (fun c _ w h=>hQ0 c _ _ w (by rfl) h) (Or.inl ⟨by rfl,?_⟩) (by assumption) ?_;rotate_left
 ·intro w hSw;(try dsimp only at hSw);go_simp;(try with_reducible rfl)
 try simp only[Act.put]
 refine wpAnyH_take (i:=7) (v:=?_) rfl (by kernel_rfl) (by kernel_rfl) (by kernel_rfl) (fun c _ w h=>hQ0 c _ _ w (by rfl) h) (Or.inl ⟨by rfl,?_⟩) (by assumption) ?_;rotate_left
 ·intro w hSw;(try dsimp only at hSw);go_simp;(try with_reducible rfl)
 try simp only[Act.put]
 refine wpAnyH_take (i:=8) (v:=?_) rfl (by kernel_rfl) (by kernel_rfl) (by kernel_rfl) (fun c _ w h=>hQ0 c _ _ w (by rfl) h) (Or.inl ⟨by rfl,?_⟩) (by assumption) ?_;rotate_left
 ·intro w hSw;(try dsimp only at hSw);go_simp;(try with_reducible rfl)
 try simp only[Act.put]
 refine wpAnyH_take (i:=9) (v:=?_) rfl (by kernel_rfl) (by kernel_rfl) (by kernel_rfl) (fun c _ w h=>hQ0 c _ _ w (by rfl) h) (Or.inl ⟨by rfl,?_⟩) (by assumption) ?_;rotate_left
 ·intro w hSw;(try dsimp only at hSw);go_simp;(try with_reducible rfl)
 try simp only[Act.put]
 refine wpAnyH_take (i:=10) (v:=?_) rfl (by kernel_rfl) (by kernel_rfl) (by kernel_rfl) (fun c _ w h=>hQ0 c _ _ w (by rfl) h) (Or.inl ⟨by rfl,?_⟩) (by assumption) ?_;rotate_left
 ·intro w hSw;(try dsimp only at hSw);go_simp;(try with_reducible rfl)
 try simp only[Act.put]
 refine wpAnyH_take (i:=11) (v:=?_) rfl (by kernel_rfl) (by kernel_rfl) (by kernel_rfl) (fun c _ w h=>hQ0 c _ _ w (by rfl) h) (Or.inl ⟨by rfl,?_⟩) (by assumption) ?_;rotate_left
 ·intro w hSw;(try dsimp only at hSw);go_simp;(try with_reducible rfl)
 try simp only[Act.put]
 refine wpAnyH_take (i:=12) (v:=?_) rfl (by kernel_rfl) (by kernel_rfl) (by kernel_rfl) (fun c _ w h=>hQ0 c _ _ w (by rfl) h) (Or.inl ⟨by rfl,?_⟩) (by assumption) ?_;rotate_left
 ·intro w hSw;(try dsimp only at hSw);go_simp;(try with_reducible rfl)
 try simp only[Act.put]
 refine wpAnyH_ready (rs:=[4,13]) (by kernel_rfl) (by simp) ?_;refine AllReadyH.cons rfl (fun K hK=>?_) (AllReadyH.cons rfl (fun K hK=>?_) (AllReadyH.nil))
 ·skip
  go_simp
  refine hK.out _ _ ?_ (fun hHeld=>?_)
  ·(try dsimp only);first|assumption|exact HC0.out|exact HC7.out|exact HC8.out|(refine HKP.out _ ?_;(repeat(first|exact brefl _|refine Below.drew ?_|refine bnew ?_ _));done)
  clear hK K;try simp only[Act.put,List.setIfInBounds_toArray,List.set_cons_zero,List.set_cons_succ]
  refine wpAnyH_ready (rs:=[13]) (by kernel_rfl) (by simp) ?_;refine AllReadyH.cons rfl (fun K hK=>?_) (AllReadyH.nil);go_simp
  refine hK.out _ _ ?_ (fun hHeld=>?_)
  ·(try dsimp only);first|assumption|exact HC0.out|exact HC7.out|exact HC8.out|(refine HKP.out _ ?_;(repeat(first|exact brefl _|refine Below.drew ?_|refine bnew ?_ _));done)
  clear hK K;try simp only[Act.put,List.setIfInBounds_toArray,List.set_cons_zero,List.set_cons_succ]
  refine wpAnyH_ready (rs:=[14]) (by kernel_rfl) (by simp) ?_;refine AllReadyH.cons rfl (fun K hK=>?_) (AllReadyH.nil);refine step_pushg (base:=mb+1) _ #[.string ⟨t.toArray⟩,.int .i64 Z] (by rfl) (.tmp 63) (.tmp 72) 22 (by rfl) F.el_ent (.slice Av E.length cv) E.length (entsC E) (by rfl) (own_kept HM.out.own (by repeat(first|exact brefl _|refine Below.drew ?_|refine bnew ?_ _))) (nb:=W.heap.size) (m:=1) (by rfl) (by first|exact heap_alloc_new _ _|(simp;done)) (by rfl) (by simp[Value.oneCell']) (by omega) (by unfold maxLen;omega) (by omega) (Nat.le_trans hpW (Below.size (B:=W.heap.size) (by repeat(first|exact brefl _|refine Below.drew ?_|refine bnew ?_ _)))) ?_;intro g cap w7 hown7 hg7 hgm
  have HG7:=Lib.hid (F.grown_through (a:=W) (by repeat(first|exact brefl _|refine Below.drew ?_|refine bnew ?_ _)) hg7);have hb7:=(HG7.out.block mb hpW HNE.out).trans HM.out.blk;have f0:=cell_of_row w7 mb 4 _ _ (0,0) hb7;have fz:w7.frozen? ⟨mb,4,none⟩=false:=by simp[World.frozen?,hb7]
  simp at f0
  have HC7:=Lib.hid (HKG.out w7 HG7.out);have HC8:=Lib.hid (HKS.out _ (.slice (some ⟨g,0,none⟩) (E.length+1) cap) HC7.out);have HE:=Lib.hid (along_push (t:=t) (Z:=Z) HM.out HG7.out hown7 hgm (Below.size (B:=W.heap.size) (by repeat(first|exact brefl _|refine Below.drew ?_|refine bnew ?_ _))));clear hb7 hg7 hgm hown7;refine hK.out _ _ ?_ (fun hHeld=>?_)
  ·(try dsimp only);first|assumption|exact HC0.out|exact HC7.out|exact HC8.out|(refine HKP.out _ ?_;(repeat(first|exact brefl _|refine Below.drew ?_|refine bnew ?_ _));done)
  clear hK K;try simp only[Act.put,List.setIfInBounds_toArray]
  refine wpAnyH_take (i:=15) (v:=?_) rfl (by kernel_rfl) (by kernel_rfl) (by kernel_rfl) (fun c _ w h=>hQ0 c _ _ w (by rfl) h) (Or.inl ⟨by rfl,?_⟩) (by assumption) ?_;rotate_left
  ·intro w hSw;(try dsimp only at hSw);go_simp;(try with_reducible rfl)
  try simp only[Act.put]
  refine wpAnyH_take (i:=16) (v:=?_) rfl (by kernel_rfl) (by kernel_rfl) (by kernel_rfl) (fun c _ w h=>hQ0 c _ _ w (by rfl) h) (Or.inl ⟨by rfl,?_⟩) (by assumption) ?_;rotate_left
  ·intro w hSw;(try dsimp only at hSw);go_simp;(try with_reducible rfl)
  try simp only[Act.put]
  refine wpAnyH_ready (rs:=[17]) (by kernel_rfl) (by simp) ?_;refine AllReadyH.cons rfl (fun K hK=>?_) (AllReadyH.nil);go_simp
  refine hK.out _ _ ?_ (fun hHeld=>?_)
  ·(try dsimp only);first|assumption|exact HC0.out|exact HC7.out|exact HC8.out|(refine HKP.out _ ?_;(repeat(first|exact brefl _|refine Below.drew ?_|refine bnew ?_ _));done)
  clear hK K;try simp only[Act.put,List.setIfInBounds_toArray,List.set_cons_zero,List.set_cons_succ]
  refine wpAnyH_done (by kernel_rfl) ?_ _;exact HNX.out _ _ _ _ _ _ _ _ _ _ _ _ _ _ _ _ _ _ _ HE.out.1 HE.out.2.1 HE.out.2.2
 ·skip
  go_simp
  refine hK.out _ _ ?_ (fun hHeld=>?_)
  ·(try dsimp only);first|assumption|exact HC0.out|exact HC7.out|exact HC8.out|(refine HKP.out _ ?_;(repeat(first|exact brefl _|refine Below.drew ?_|refine bnew ?_ _));done)
  clear hK K;try simp only[Act.put,List.setIfInBounds_toArray,List.set_cons_zero,List.set_cons_succ]
  refine wpAnyH_ready (rs:=[4]) (by kernel_rfl) (by simp) ?_;refine AllReadyH.cons rfl (fun K hK=>?_) (AllReadyH.nil);go_simp
  refine hK.out _ _ ?_ (fun hHeld=>?_)
  ·(try dsimp only);first|assumption|exact HC0.out|exact HC7.out|exact HC8.out|(refine HKP.out _ ?_;(repeat(first|exact brefl _|refine Below.drew ?_|refine bnew ?_ _));done)
  clear hK K;try simp only[Act.put,List.setIfInBounds_toArray,List.set_cons_zero,List.set_cons_succ]
  refine wpAnyH_ready (rs:=[14]) (by kernel_rfl) (by simp) ?_;refine AllReadyH.cons rfl (fun K hK=>?_) (AllReadyH.nil);refine step_pushg (base:=mb+1) _ #[.string ⟨t.toArray⟩,.int .i64 Z] (by rfl) (.tmp 63) (.tmp 72) 22 (by rfl) F.el_ent (.slice Av E.length cv) E.length (entsC E) (by rfl) (own_kept HM.out.own (by repeat(first|exact brefl _|refine Below.drew ?_|refine bnew ?_ _))) (nb:=W.heap.size) (m:=1) (by rfl) (by first|exact heap_alloc_new _ _|(simp;done)) (by rfl) (by simp[Value.oneCell']) (by omega) (by unfold maxLen;omega) (by omega) (Nat.le_trans hpW (Below.size (B:=W.heap.size) (by repeat(first|exact brefl _|refine Below.drew ?_|refine bnew ?_ _)))) ?_;intro g cap w7 hown7 hg7 hgm
  have HG7:=Lib.hid (F.grown_through (a:=W) (by repeat(first|exact brefl _|refine Below.drew ?_|refine bnew ?_ _)) hg7);have hb7:=(HG7.out.block mb hpW HNE.out).trans HM.out.blk;have f0:=cell_of_row w7 mb 4 _ _ (0,0) hb7;have fz:w7.frozen? ⟨mb,4,none⟩=false:=by simp[World.frozen?,hb7]
  simp at f0
  have HC7:=Lib.hid (HKG.out w7 HG7.out);have HC8:=Lib.hid (HKS.out _ (.slice (some ⟨g,0,none⟩) (E.length+1) cap) HC7.out);have HE:=Lib.hid (along_push (t:=t) (Z:=Z) HM.out HG7.out hown7 hgm (Below.size (B:=W.heap.size) (by repeat(first|exact brefl _|refine Below.drew ?_|refine bnew ?_ _))));clear hb7 hg7 hgm hown7;refine hK.out _ _ ?_ (fun hHeld=>?_)
  ·(try dsimp only);first|assumption|exact HC0.out|exact HC7.out|exact HC8.out|(refine HKP.out _ ?_;(repeat(first|exact brefl _|refine Below.drew ?_|refine bnew ?_ _));done)
  clear hK K;try simp only[Act.put,List.setIfInBounds_toArray]
  refine wpAnyH_take (i:=15) (v:=?_) rfl (by kernel_rfl) (by kernel_rfl) (by kernel_rfl) (fun c _ w h=>hQ0 c _ _ w (by rfl) h) (Or.inl ⟨by rfl,?_⟩) (by assumption) ?_;rotate_left
  ·intro w hSw;(try dsimp only at hSw);go_simp;(try with_reducible rfl)
  try simp only[Act.put]
  refine wpAnyH_take (i:=16) (v:=?_) rfl (by kernel_rfl) (by kernel_rfl) (by kernel_rfl) (fun c _ w h=>hQ0 c _ _ w (by rfl) h) (Or.inl ⟨by rfl,?_⟩) (by assumption) ?_;rotate_left
  ·intro w hSw;(try dsimp only at hSw);go_simp;(try with_reducible rfl)
  try simp only[Act.put]
  refine wpAnyH_ready (rs:=[17]) (by kernel_rfl) (by simp) ?_;refine AllReadyH.cons rfl (fun K hK=>?_) (AllReadyH.nil);go_simp
  refine hK.out _ _ ?_ (fun hHeld=>?_)
  ·(try dsimp only);first|assumption|exact HC0.out|exact HC7.out|exact HC8.out|(refine HKP.out _ ?_;(repeat(first|exact brefl _|refine Below.drew ?_|refine bnew ?_ _));done)
  clear hK K;try simp only[Act.put,List.setIfInBounds_toArray,List.set_cons_zero,List.set_cons_succ]
  refine wpAnyH_done (by kernel_rfl) ?_ _;exact HNX.out _ _ _ _ _ _ _ _ _ _ _ _ _ _ _ _ _ _ _ HE.out.1 HE.out.2.1 HE.out.2.2
end
section
open Go.RowKit Go.Maps
open F (Ent Nd Nh gath gath_s Fine byteAt DictAt waysC wayC entsC entC)
theorem mtE_w{ds:List Nd}{i:Nat}{d:Nd}(h:ds[i]? =some d)(M:Au Nat)(dead:Nat→Bool)(f:Nat)(t:List UInt8)(z:Int)(q:Nat)(hq:dead q=false):mtE ds M dead (f+1) i t z q=(if d.fin&&M.fin q then[(t,IntKind.i64.wrap (z+d.out))]else[])++mtW ds M dead f t z q d.ways:=mtE_s h M dead f t z q hq
theorem along_stay{mb p n c:Nat}{A:Option Addr}{ob oc most:Nat}{W W':World}{v:Value}{E:List Ent}{more:Bool}(hm:MatAt W mb p n c A ob oc most v E more)(hb:Below W.heap.size W W'):AlongPost mb p n c A ob oc most W v (E,more) (.returned (.tuple #[])) W':=
 ⟨rfl,v,hm.keep hb,But.of hb,fun b hb=>.inl hb⟩
theorem along_more{mb p n c:Nat}{A:Option Addr}{ob oc most:Nat}{W W':World}{v:Value}{E:List Ent}(hm:MatAt W' mb p n c A ob oc most v E false)(hb:Below W.heap.size W W'):AlongPost mb p n c A ob oc most W v (E,true) (.returned (.tuple #[])) (W'.setCell ⟨mb,5,none⟩ (.bool true)):=by
 refine⟨rfl,v,⟨?_,F.own_set hm.own (Nat.lt_succ_self _)⟩,⟨hb.os,hb.tape,hb.output,by simpa using hb.size,fun k hk hn=>?_⟩,fun b hb=>.inl hb⟩
 ·have:=F.blk_set (j:=5) hm.blk (.bool true);simpa using this
 ·rw[Below.heap_setCell _ _ _ _ (by exact fun e=>hn (.inl e))];exact hb.block k hk
theorem along_any(Wm:World)(mb:Nat)(hmb:Wm.heap.size=mb)(p B n c:Nat)(A':Option Addr)(base cnt:Int)(hs:List Nh)(hd:DictAt Wm p B A' n c base cnt hs)(hf:Fine (hs.map (·.d)))(hwl:∀x∈hs,x.d.ways.length≤65536)
  (A:Option Addr) (na ca:Nat) (H:List Sh) (HS:Hid (StsIn Wm mb A na ca H)) (d:List St) (HD:Hid (H.map (·.d)=d)) (HG:Hid (Good d)) (hna:d.length=na) (ob oc most:Nat) (L:List Bool) (hLn:L.length=na) (hLc:na≤oc) (hob:ob<mb) (HDL:Hid (∀q b,L[q]? =some b→Wm.cell? ⟨ob,q,none⟩=some (.bool b))) (hmost:most≤9223372036854775807):
  ∀(f i:Nat),i<f→i<n→∀(W:World) (v:Value) (E:List Ent) (more:Bool) (t:List UInt8) (z:Int) (q:Nat),MatAt W mb p na ca A ob oc most v E more→Below mb Wm W→q<na→t.length+i≤1125899906842624→E.length+(mtE (hs.map (·.d)) (auOf d) (fun q=>L.getD q false) f i t z q).length≤1048576→
   Calls Tryz.prog 29 #[.pointer (some ⟨mb,0,none⟩),.agg #[.int .i64 (i:Int),.int .i64 z,.int .i64 (q:Int),.string ⟨t.toArray⟩]] W (AlongPost mb p na ca A ob oc most W v (runM2 most (E,more) (mtE (hs.map (·.d)) (auOf d) (fun q=>L.getD q false) f i t z q)))
 |0,i,hi,_,W,v,E,more,t,z,q,hm,hb,hq,ht,hl=>absurd hi (by omega)
 |
  f+1,i,hi,hin,W,v,E,more,t,z,q,hm,hb,hq,ht,hl=>by
  have IH0:=along_any Wm mb hmb p B n c A' base cnt hs hd hf hwl A na ca H HS d HD HG hna ob oc most L hLn hLc hob HDL hmost f;have hlen:=hd.len;obtain⟨x,hx⟩:∃x,hs[i]? =some x:=⟨hs[i]'(by omega),List.getElem?_eq_getElem _⟩;have hxm:(hs.map (·.d))[i]? =some x.d:=by rw[List.getElem?_map,hx];rfl
  have hfi:=hf i x.d hxm;have hwx:=hwl x (List.mem_of_getElem? hx);have hmW:mb<W.heap.size:=hm.lt;obtain⟨ds,hds⟩:∃ds,hs.map (·.d)=ds:=⟨_,rfl⟩;rw[hds]at IH0 hl hxm⊢;obtain⟨dd,hdd⟩:∃dd,(fun q=>L.getD q false)=dd:=⟨_,rfl⟩;rw[hdd]at IH0 hl⊢;obtain⟨bq,hbq⟩:∃b,L[q]? =some b:=⟨L[q]'(by omega),List.getElem?_eq_getElem _⟩;have hddq:dd q=bq:=by rw[←hdd];show L.getD q false=bq;rw[List.getD_eq_getElem?_getD,hbq];rfl
  have HIH:=Lib.hid (fun(i':Nat) (hi':i'<i)=>IH0 i' (by omega) (by omega));have hb1:=bnew (brefl W) (.cells #[.int .i64 (i:Int),.int .i64 z,.int .i64 (q:Int),.string ⟨t.toArray⟩] 56);have hat1:=heap_alloc_new W (.cells #[.int .i64 (i:Int),.int .i64 z,.int .i64 (q:Int),.string ⟨t.toArray⟩] 56);have hm1:=hm.keep hb1;have hbm1:Below mb Wm (W.alloc (.cells #[.int .i64 (i:Int),.int .i64 z,.int .i64 (q:Int),.string ⟨t.toArray⟩] 56)):=hb.trans (hb1.mono (by omega));have hdl1:=(hbm1.cell (p:=⟨ob,q,none⟩) hob).trans (HDL.out q bq hbq);have HNODE:=Lib.hid (fun(W6:World) (hb:Below (W.alloc (.cells #[.int .i64 (i:Int),.int .i64 z,.int .i64 (q:Int),.string ⟨t.toArray⟩] 56)).heap.size (W.alloc (.cells #[.int .i64 (i:Int),.int .i64 z,.int .i64 (q:Int),.string ⟨t.toArray⟩] 56)) W6)=>F.gnode_any W6 p B n c A' base cnt hs (hd.keep (by rw[hmb];exact hbm1.trans (hb.mono (by have:=hb1.size;omega)))) i x hx hwx);have HM0:=Lib.hid hm;have HM1:=Lib.hid hm1;have HB0:=Lib.hid hb;have HB1:=Lib.hid hb1;have HBM1:=Lib.hid hbm1;have HAT1:=Lib.hid hat1;have HFI:=Lib.hid hfi;have HXM:=Lib.hid hxm;have hobw:ob<(W.alloc (.cells #[.int .i64 (i:Int),.int .i64 z,.int .i64 (q:Int),.string ⟨t.toArray⟩] 56)).heap.size:=by simp;omega
  obtain⟨c0,c1,c2,c3,c4,c5⟩:=hm1.cells;have HLL:=Lib.hid hl;have hqo:(q:Int)<(na:Int):=by omega
  clear IH0 hlen hx hfi hb1 hat1 hm1 hbm1 hds hdd hd hf hwl hm hb hl hxm hbq;go_enter Tryz.func29,Tryz.ntmps29
  by_cases hmore:more=true
  ·subst hmore;go_wp2_with fail;go_quiet (fail)
   go_wp2_with fail;go_end0
   exact along_stay HM0.out (below_drewN HB1.out nq)
  ·obtain rfl:more=false:=by simpa using hmore
   cases bq with
   |
    true=>
    rw[mtE_dead ds (auOf d) _ _ _ _ hddq,runM2_nil];go_wp2_with fail;go_quiet (fail)
    go_wp2_with fail;go_end0
    exact along_stay HM0.out (below_drewN HB1.out nq)
   |
    false=>
    have HXL:=HLL;rw[mtE_w HXM.out (auOf d) _ _ _ _ _ hddq]at HXL⊢;clear HXM HLL;obtain⟨ws,hws⟩:∃ws,x.d.ways=ws:=⟨_,rfl⟩;obtain⟨fi,hfi2⟩:∃b,x.d.fin=b:=⟨_,rfl⟩;obtain⟨o,ho⟩:∃z,x.d.out=z:=⟨_,rfl⟩;obtain⟨m,hm⟩:∃m,ws.length=m:=⟨_,rfl⟩;have HWS:Hid (∀x_1∈x.d.ways,(0≤x_1.1∧x_1.1≤255)∧0≤x_1.2.2∧x_1.2.2<(i:Int)):=fun y hy=>⟨(HFI.out.2 y hy).1,(HFI.out.2 y hy).2.2⟩
    rw[hws,hfi2,ho]at HNODE HXL⊢;rw[hws]at HWS hwx;rw[hm]at HNODE hwx;have HM:=Lib.hid hm;obtain⟨fq,hfq⟩:∃b,(auOf d).fin q=b:=⟨_,rfl⟩;rw[hfq]at HXL⊢;obtain⟨Z,hZ⟩:∃Z,IntKind.i64.wrap (z+o)=Z:=⟨_,rfl⟩;rw[hZ]at HXL⊢;have HZZ:=Lib.hid hZ;obtain⟨pre,hpre⟩:∃pre,(if(fi&&fq)=true then[(t,Z)]else[])=pre:=⟨_,rfl⟩;rw[hpre]at HXL⊢;have HPRE:=Lib.hid hpre;have HFQ:=Lib.hid hfq;clear hws hfi2 ho hm hpre hfq HFI hmore;go_wp2_with fail;go_quiet (fail)
    go_wp2_with fail;have hq0:Below W.heap.size W ((W.alloc (.cells #[.int .i64 (i:Int),.int .i64 z,.int .i64 (q:Int),.string ⟨t.toArray⟩] 56)).drewN nq):=below_drewN HB1.out nq;have hat2:((W.alloc (.cells #[.int .i64 (i:Int),.int .i64 z,.int .i64 (q:Int),.string ⟨t.toArray⟩] 56)).drewN nq).heap[W.heap.size]? =some (.cells #[.int .i64 (i:Int),.int .i64 z,.int .i64 (q:Int),.string ⟨t.toArray⟩] 56 (0,0)):=HAT1.out;have hm2:MatAt ((W.alloc (.cells #[.int .i64 (i:Int),.int .i64 z,.int .i64 (q:Int),.string ⟨t.toArray⟩] 56)).drewN nq) mb p na ca A ob oc most v E false:=HM0.out.keep hq0;have hbm2:Below mb Wm ((W.alloc (.cells #[.int .i64 (i:Int),.int .i64 z,.int .i64 (q:Int),.string ⟨t.toArray⟩] 56)).drewN nq):=below_drewN HBM1.out nq;have hn2:∀W6,Below ((W.alloc (.cells #[.int .i64 (i:Int),.int .i64 z,.int .i64 (q:Int),.string ⟨t.toArray⟩] 56)).drewN nq).heap.size ((W.alloc (.cells #[.int .i64 (i:Int),.int .i64 z,.int .i64 (q:Int),.string ⟨t.toArray⟩] 56)).drewN nq) W6→_:=fun W6 hb=>HNODE.out W6 ((below_drewN (brefl _) nq).trans hb)
    clear HNODE HB1 HAT1 HM1 HBM1 c0 c1 c2 c3 c4 c5 hdl1 hobw;generalize(W.alloc (.cells #[.int .i64 (i:Int),.int .i64 z,.int .i64 (q:Int),.string ⟨t.toArray⟩] 56)).drewN nq=W1 at*;have HB1:=Lib.hid hq0;have HAT1:=Lib.hid hat2;have HM1:=Lib.hid hm2;have HBM1:=Lib.hid hbm2;have HNODE:=Lib.hid hn2;have HC1:Hid (W1.cell? ⟨mb,0,none⟩=some (.pointer (some ⟨p,0,none⟩))∧W1.cell? ⟨W.heap.size,0,none⟩=some (.int .i64 (i:Int))):=⟨cell_of_row W1 mb 0 _ _ (0,0) HM1.out.blk,cell_of_row W1 _ 0 _ _ (0,0) HAT1.out⟩;have HL1:Hid (mb<W1.heap.size∧W.heap.size<W1.heap.size):=⟨HM1.out.lt,(Array.getElem?_eq_some_iff.1 HAT1.out).1⟩;have HKP:=Lib.hid (fun(W':World) (hb:Below W1.heap.size W1 W')=>And.intro ((hb.cell (p:=⟨mb,0,none⟩) HL1.out.1).trans HC1.out.1) ((hb.cell (p:=⟨W.heap.size,0,none⟩) HL1.out.2).trans HC1.out.2));obtain⟨c0,a0⟩:=HC1.out;clear hq0 hat2 hm2 hbm2 hn2;go_region_held3 (fun w'=>w'.cell? ⟨mb,0,none⟩=some (.pointer (some ⟨p,0,none⟩))∧w'.cell? ⟨W.heap.size,0,none⟩=some (.int .i64 (i:Int)))
     (first
      |assumption
      |exact HC1.out
      |(refine HKP.out _ ?_;(repeat(first|exact brefl _|exact HB7.out|refine Below.drew ?_|refine bnew ?_ _|refine F.below_set ?_ (Nat.le_refl _) (Nat.le_refl _)));done))
     (first|(go_at_call 47;refine(HNODE.out _ (by repeat(first|exact brefl _|refine Below.drew ?_|refine bnew ?_ _))).mono ?_;rintro e W7 ⟨v,rfl,hown,hb7⟩;have HB7:=Lib.hid ((show Below W1.heap.size W1 _ by repeat(first|exact brefl _|refine Below.drew ?_|refine bnew ?_ _)).trans (hb7.mono (by first|exact Nat.le_refl _|(simp;done)|(simp;omega))));obtain⟨Aw,cw,rfl,hmc⟩:=own_shape hown;have HOW7:=Lib.hid hown;(try(have hz7:W7.heap[W1.heap.size]? =some (.cells #[.bool false,.int .i64 0,.slice none 0 0] 88 (0,0)):=(hb7.block W1.heap.size (by simp)).trans (heap_alloc_new _ _);have HZ7:=Lib.hid hz7;have z0:=cell_of_row W7 _ 0 _ _ (0,0) hz7;have z1:=cell_of_row W7 _ 1 _ _ (0,0) hz7;have z2:=cell_of_row W7 _ 2 _ _ (0,0) hz7;have y0:=F.free_at hz7 0;have y1:=F.free_at hz7 1;have y2:=F.free_at hz7 2;simp at z0 z1 z2;clear hz7));clear hown))
    rotate_left
    have hn3:=F.blk_set (j:=2) (F.blk_set (j:=1) (F.blk_set (j:=0) HZ7.out (.bool fi)) (.int .i64 o)) (.slice Aw m cw);have hb3:Below W1.heap.size W1 (((W7.setCell ⟨W1.heap.size,0,none⟩ (.bool fi)).setCell ⟨W1.heap.size,1,none⟩ (.int .i64 o)).setCell ⟨W1.heap.size,2,none⟩ (.slice Aw m cw)):=F.below_set (F.below_set (F.below_set HB7.out (Nat.le_refl _) (Nat.le_refl _)) (Nat.le_refl _) (Nat.le_refl _)) (Nat.le_refl _) (Nat.le_refl _);have ho3:=F.own_lower (F.own_set (k:=W1.heap.size) (j:=2) (u:=.slice Aw m cw) (F.own_set (k:=W1.heap.size) (j:=1) (u:=.int .i64 o) (F.own_set (k:=W1.heap.size) (j:=0) (u:=.bool fi) HOW7.out (by simp)) (by simp)) (by simp)) (show W1.heap.size≤_ by simp);simp at hn3
    have HB3:=Lib.hid hb3;have HOW3:=Lib.hid ho3;obtain⟨nb,hnb⟩:∃k,W1.heap.size=k:=⟨_,rfl⟩;have HNB:Hid (W1.heap.size≤nb):=Nat.le_of_eq hnb;generalize((W7.setCell ⟨W1.heap.size,0,none⟩ (.bool fi)).setCell ⟨W1.heap.size,1,none⟩ (.int .i64 o)).setCell ⟨W1.heap.size,2,none⟩ (.slice Aw m cw)=W3 at*;rw[hnb]at hn3⊢;have HN3:=Lib.hid hn3;clear hn3 hb3 ho3 HZ7 HOW7 HB7 HKP z0 z1 z2 y0 y1 y2 HNODE hb7 c0 a0 hnb W7;rotate_left
    have hn3:=heap_alloc_new W7 (.cells #[.bool fi,.int .i64 o,.slice Aw m cw] 88);have HB3:=Lib.hid (bnew HB7.out (.cells #[.bool fi,.int .i64 o,.slice Aw m cw] 88));have HOW3:=Lib.hid (F.own_lower (own_kept HOW7.out (bnew (brefl W7) (.cells #[.bool fi,.int .i64 o,.slice Aw m cw] 88))) (show W1.heap.size≤_ by first|exact Nat.le_refl _|(simp;done)));have HNB0:Hid (W1.heap.size≤W7.heap.size):=HB7.out.size;generalize W7.alloc (.cells #[.bool fi,.int .i64 o,.slice Aw m cw] 88)=W3 at*;obtain⟨nb,hnb⟩:∃k,W7.heap.size=k:=⟨_,rfl⟩;rw[hnb]at hn3 HNB0⊢;have HN3:=Lib.hid hn3;have HNB:=HNB0;clear hn3 HOW7 HB7 HKP HNODE hb7 c0 a0 hnb HNB0 W7;all_goals
     have HM3:=Lib.hid (HM1.out.keep HB3.out);have HB13:=Lib.hid (bcall HB1.out HB3.out);have HBM3:=Lib.hid (HBM1.out.trans (HB3.out.mono (by have:=HL1.out;omega)));have hat3:=(HB3.out.block _ HL1.out.2).trans HAT1.out;have HAT3:=Lib.hid hat3;have n0:=cell_of_row W3 _ 0 _ _ (0,0) HN3.out;have n1:=cell_of_row W3 _ 1 _ _ (0,0) HN3.out;have n2:=cell_of_row W3 _ 2 _ _ (0,0) HN3.out;have a1:=cell_of_row W3 _ 1 _ _ (0,0) hat3;have a2:=cell_of_row W3 _ 2 _ _ (0,0) hat3;have a3:=cell_of_row W3 _ 3 _ _ (0,0) hat3;simp at n0 n1 n2 a1 a2 a3
     obtain⟨c0,c1,c2,c3,c4,c5⟩:=HM3.out.cells;have HWC:Hid (0<m→∃g,Aw=some ⟨g,0,none⟩∧W.heap.size≤g∧g<W3.heap.size∧∀k y,ws[k]? =some y→W3.cell? ⟨g,k*3,none⟩=some (.int .i64 y.1)∧W3.cell? ⟨g,k*3+1,none⟩=some (.int .i64 y.2.1)∧W3.cell? ⟨g,k*3+2,none⟩=some (.int .i64 y.2.2)):=by
      intro h0
      obtain⟨g,h1,h2,h3,h4⟩:=ways_at HOW3.out h0;exact⟨g,h1,by have:=HL1.out;omega,h3,h4⟩
     have HV0:Hid (∀b,some b=v.ownBlock→mb≤b∧b<W.heap.size):=fun b hb=>by have:=HM0.out.own.lt b hb.symm;omega
     have hS3:=HS.out.keep HBM3.out (Nat.le_refl _);obtain⟨ab0,aoff,rfl,hab0,hac⟩:=hS3.at_ (by omega);have hHl:H.length=na:=by rw[←hna,←HD.out,List.length_map]
     obtain⟨xq,hxq⟩:∃y,H[q]? =some y:=⟨H[q]'(by omega),List.getElem?_eq_getElem _⟩;obtain⟨k0,_⟩:=hac q xq hxq;have hfin:xq.d.1=fq:=by
      have h1:=HFQ.out;have h2:d[q]? =some xq.d:=by rw[←HD.out,List.getElem?_map,hxq];rfl
      have h3:(auOf d).fin q=((d[q]?).map (·.1)).getD false:=rfl;rw[h3,h2]at h1;exact h1
     rw[hfin]at k0;have hab3:ab0<W3.heap.size:=by have:=HM3.out.lt;omega
     clear hat3 HM1 HBM1 HAT1 HB1 hS3 hac hHl hxq hfin HOW3;obtain⟨Av,cv,rfl,hEc⟩:=own_shape HM3.out.own;have hE63:E.length≤1048576:=by have:=HXL.out;omega
     have hcas:(∃b,fi=b∧b=false)∨(fi=true∧∃b,fq=b∧b=false)∨(fi=true∧fq=true):=by
      cases fi<;>cases fq<;>simp
     rcases hcas with⟨_,rfl,rfl⟩|⟨rfl,_,rfl,rfl⟩|⟨rfl,rfl⟩
     ·skip
      have HP:Hid (pre=[]):=HPRE.out.symm;go_wp2_with fail;go_quiet (fail)
      have HMID:Hid (MidM mb p na ca (some ⟨ab0,aoff,none⟩) ob oc most W (.slice Av E.length cv) W3.heap.size (E,false) pre E false (W3.drewN nq) (.slice Av E.length cv)):=⟨by rw[HP.out,runM2_nil],HM3.out.keep (below_drewN (brefl _) nq),But.of (below_drewN HB13.out nq),fun b hb=>.inl hb⟩;have HK:Hid (W3.heap.size≤(W3.drewN nq).heap.size∧∀b,W.heap.size≤b→b<W3.heap.size→(W3.drewN nq).heap[b]? =W3.heap[b]?):=⟨Nat.le_refl _,fun _ _ _=>rfl⟩;go_wp2_with fail;refine along_loop Wm W W3 (W3.drewN nq) mb p na ca ob oc most i m cw W.heap.size _ H HS d HD HG hna ds dd f t z q hq ht HB0 hmW (by omega) HIH _ HV0 (Nat.le_refl _) (Nat.lt_of_lt_of_le HL1.out.2 HB3.out.size) HAT3 Aw ws HM hmc hwx HWC HWS (E,false) pre E false (.slice Av E.length cv) HMID HK HXL _ _ _ _ _ _ _ _ _ _ _ _ _ _ _ _ _ _ _ _ _ _ _ _ _ _ _ _ _ _ _ _ _ _ _ _ _ _ _ _ _ _ _ _ _ _ _ _ _ _ _ _ _ _ _ _ _ _ _ _ _ _ _ _ _ _ _ _ _ _ _ _ _ _ _ _ _ _ _ _ _ _ _ _ _ _ _ _ _ _ _ _ _ _ _ _ _ _ _ _ _ _ _ _ _ _ _ _ _ _ _ ?_ ?_
      ·intro c a a' w hd h
       cases a;cases a';cases hd;exact h
      ·intro F2 more2 v2 W' x79 u7 u8 u80 u81 u82 u83 u84 u85 u86 u87 u88 u89 u90 u91 u92 u93 u94 u95 u96 u97 u98 u99 u100 u101 u102 u103 u104 u105 u106 u107 u108 u109 u110 u111 u112 u113 u114 HM2
       go_wp2_with fail;go_end0
       exact HM2.out.done (Nat.le_of_lt (Nat.lt_of_lt_of_le HL1.out.2 HB3.out.size))
     ·skip
      have HP:Hid (pre=[]):=HPRE.out.symm;go_wp2_with fail;go_quiet (fail)
      have HMID:Hid (MidM mb p na ca (some ⟨ab0,aoff,none⟩) ob oc most W (.slice Av E.length cv) W3.heap.size (E,false) pre E false (W3.drewN nq) (.slice Av E.length cv)):=⟨by rw[HP.out,runM2_nil],HM3.out.keep (below_drewN (brefl _) nq),But.of (below_drewN HB13.out nq),fun b hb=>.inl hb⟩;have HK:Hid (W3.heap.size≤(W3.drewN nq).heap.size∧∀b,W.heap.size≤b→b<W3.heap.size→(W3.drewN nq).heap[b]? =W3.heap[b]?):=⟨Nat.le_refl _,fun _ _ _=>rfl⟩;go_wp2_with fail;refine along_loop Wm W W3 (W3.drewN nq) mb p na ca ob oc most i m cw W.heap.size _ H HS d HD HG hna ds dd f t z q hq ht HB0 hmW (by omega) HIH _ HV0 (Nat.le_refl _) (Nat.lt_of_lt_of_le HL1.out.2 HB3.out.size) HAT3 Aw ws HM hmc hwx HWC HWS (E,false) pre E false (.slice Av E.length cv) HMID HK HXL _ _ _ _ _ _ _ _ _ _ _ _ _ _ _ _ _ _ _ _ _ _ _ _ _ _ _ _ _ _ _ _ _ _ _ _ _ _ _ _ _ _ _ _ _ _ _ _ _ _ _ _ _ _ _ _ _ _ _ _ _ _ _ _ _ _ _ _ _ _ _ _ _ _ _ _ _ _ _ _ _ _ _ _ _ _ _ _ _ _ _ _ _ _ _ _ _ _ _ _ _ _ _ _ _ _ _ _ _ _ _ ?_ ?_
      ·intro c a a' w hd h
       cases a;cases a';cases hd;exact h
      ·intro F2 more2 v2 W' x79 u7 u8 u80 u81 u82 u83 u84 u85 u86 u87 u88 u89 u90 u91 u92 u93 u94 u95 u96 u97 u98 u99 u100 u101 u102 u103 u104 u105 u106 u107 u108 u109 u110 u111 u112 u113 u114 HM2
       go_wp2_with fail;go_end0
       exact HM2.out.done (Nat.le_of_lt (Nat.lt_of_lt_of_le HL1.out.2 HB3.out.size))
     ·have HP:Hid (pre=[(t,Z)]):=HPRE.out.symm;go_wp2_with fail;go_quiet (fail)
      revert nq
      intro k1
      go_wp2_with fail;have y5:=F.free_at HM3.out.blk 5;have hmb3:=HM3.out.lt;by_cases hfull:E.length=most
      ·have q1:(E.length==most)=true:=by rw[beq_iff_eq];exact hfull
       have q2:((E.length:Int)==(most:Int))=true:=by rw[beq_iff_eq];omega
       have hR:Hid (runM2 most (E,false) (pre++mtW ds (auOf d) dd f t z q ws)=(E,true)):=by
        show _=_;rw[HP.out];show runM most E ((t,Z)::_)=_;rw[runM,if_pos hfull]
       clear hfull;go_quiet (fail)
       go_wp2_with fail;go_end0
       rw[hR.out];exact along_more (HM3.out.keep (below_drewN (brefl _) _)) (below_drewN HB13.out _)
      ·have q1:(E.length==most)=false:=by rw[beq_eq_false_iff_ne];exact hfull
       have q2:((E.length:Int)==(most:Int))=false:=by rw[beq_eq_false_iff_ne];omega
       have HR1:Hid (runM2 most (E,false) pre=(E++[(t,Z)],false)):=by
        show _=_;rw[HP.out];show runM most E [(t,Z)]=_;rw[runM,if_neg hfull];rfl
       clear hfull;go_quiet (fail)
       revert nq
       intro k2
       go_wp2_with fail;have hm4:=HM3.out.keep (below_drewN (below_drewN (brefl W3) k1) k2);have hb4:=below_drewN (below_drewN HB13.out k1) k2;have hk4:W3.heap.size≤((W3.drewN k1).drewN k2).heap.size∧∀b,W.heap.size≤b→b<W3.heap.size→((W3.drewN k1).drewN k2).heap[b]? =W3.heap[b]? :=⟨Nat.le_refl _,fun _ _ _=>rfl⟩;clear y5 c0 c1 c2 c3 c4 c5 n0 n1 n2 a1 a2 a3 k0 q1 q2;generalize(W3.drewN k1).drewN k2=W4 at*;have HM4:=Lib.hid hm4;have HB4:=Lib.hid hb4;have HK4:=Lib.hid hk4;have hn4:=(hk4.2 nb (by have:=HNB.out;have:=HL1.out;omega) (Array.getElem?_eq_some_iff.1 HN3.out).1).trans HN3.out;have ha4:=(hk4.2 W.heap.size (Nat.le_refl _) (Array.getElem?_eq_some_iff.1 HAT3.out).1).trans HAT3.out;have n1:=cell_of_row W4 _ 1 _ _ (0,0) hn4;have n2:=cell_of_row W4 _ 2 _ _ (0,0) hn4;have a1:=cell_of_row W4 _ 1 _ _ (0,0) ha4;have a3:=cell_of_row W4 _ 3 _ _ (0,0) ha4;have r4:=cell_of_row W4 mb 4 _ _ (0,0) hm4.blk;simp at n1 n2 a1 a3 r4
       have HN4:=Lib.hid hn4;have hob:=HV0.out;have hvb:∀b,W.heap.size≤b→b≠mb∧some b≠(Value.slice Av E.length cv).ownBlock:=fun b hb=>⟨by omega,fun e=>by have:=hob b e;omega⟩
       have hnb4:=hvb nb (by have:=HNB.out;have:=HL1.out;omega);have hab4:=hvb W.heap.size (Nat.le_refl _);have HVB:=Lib.hid hvb;clear hm4 hb4 hk4 hn4 ha4 hob hvb r4;refine along_r6 W4 mb p na ca ob oc most W.heap.size nb _ _ E HM4 hE63 hab4 hnb4 t z o a1 a3 n1 _ _ _ _ _ _ _ _ _ _ _ _ _ _ _ _ _ _ _ _ _ _ _ _ _ _ _ _ _ _ _ _ _ _ _ _ _ _ _ _ _ _ _ _ _ _ _ _ _ _ _ _ _ _ _ _ _ _ _ _ _ _ _ _ _ _ _ _ _ _ _ _ _ _ _ _ _ _ _ _ _ _ _ _ _ _ _ _ _ _ _ _ _ _ _ _ _ _ _ _ _ _ _ _ _ _ _ _ _ _ _ _ _ ?_ ?_
       ·intro c a a' w hd h
        cases a;cases a';cases hd;exact h
       rw[HZZ.out];intro v' W' u59 u60 u61 u62 u63 u64 u65 u66 u67 u68 u69 u70 u71 u72 u73 u74 u75 HMN HBUT HSUB
       have hn5:=HBUT.out.at_ HN4.out (fun h=>h.elim hnb4.1 hnb4.2);have n2:=cell_of_row W' _ 2 _ _ (0,0) hn5;simp at n2
       have HMID:Hid (MidM mb p na ca (some ⟨ab0,aoff,none⟩) ob oc most W (.slice Av E.length cv) W3.heap.size (E,false) pre (E++[(t,Z)]) false W' v'):=⟨HR1.out,HMN.out,(But.of HB4.out).trans HBUT.out fun _ hi=>.inl hi,fun b hb=>(HSUB.out b hb).elim .inl fun h=>.inr (Nat.le_trans HK4.out.1 h)⟩;have HK:Hid (W3.heap.size≤W'.heap.size∧∀b,W.heap.size≤b→b<W3.heap.size→W'.heap[b]? =W3.heap[b]?):=⟨Nat.le_trans HK4.out.1 HBUT.out.size,fun b h1 h2=>by
        have h3:=HVB.out b h1;have h4:=HK4.out.1;rw[HBUT.out.block b (by omega) (fun h=>h.elim h3.1 h3.2)];exact HK4.out.2 b h1 h2⟩
       clear hn5 a1 a3 n1;go_wp2_with fail;refine along_loop Wm W W3 W' mb p na ca ob oc most i m cw W.heap.size _ H HS d HD HG hna ds dd f t z q hq ht HB0 hmW (by omega) HIH _ HV0 (Nat.le_refl _) (Nat.lt_of_lt_of_le HL1.out.2 HB3.out.size) HAT3 Aw ws HM hmc hwx HWC HWS (E,false) pre (E++[(t,Z)]) false v' HMID HK HXL _ _ _ _ _ _ _ _ _ _ _ _ _ _ _ _ _ _ _ _ _ _ _ _ _ _ _ _ _ _ _ _ _ _ _ _ _ _ _ _ _ _ _ _ _ _ _ _ _ _ _ _ _ _ _ _ _ _ _ _ _ _ _ _ _ _ _ _ _ _ _ _ _ _ _ _ _ _ _ _ _ _ _ _ _ _ _ _ _ _ _ _ _ _ _ _ _ _ _ _ _ _ _ _ _ _ _ _ _ _ _ ?_ ?_
       ·intro c a a' w hd h
        cases a;cases a';cases hd;exact h
       ·intro F2 more2 v2 W' x79 u7 u8 u80 u81 u82 u83 u84 u85 u86 u87 u88 u89 u90 u91 u92 u93 u94 u95 u96 u97 u98 u99 u100 u101 u102 u103 u104 u105 u106 u107 u108 u109 u110 u111 u112 u113 u114 HM2
        go_wp2_with fail;go_end0
        exact HM2.out.done (Nat.le_of_lt (Nat.lt_of_lt_of_le HL1.out.2 HB3.out.size))
end
section
structure DdP(d:List St)(L:List Bool):Prop where
 len:L.length=d.length
 live:∀i:Nat,L[i]? =some false→(auOf d).live i
 fin:∀(i:Nat) s,d[i]? =some s→s.1=true→L[i]? =some false
def DdTo(d:List St)(L:List Bool)(i k:Nat):Prop:=(∀(y:Nat) s,y<i→L[y]? =some true→d[y]? =some s→∀a∈s.2,L[a.2.2.toNat]? =some true)∧∀s,d[i]? =some s→L[i]? =some true→∀a∈s.2.take k,L[a.2.2.toNat]? =some true
theorem DdTo.zero(d:List St)(L:List Bool):DdTo d L 0 0:=⟨fun y s h=>absurd h (by omega),fun s _ _ t ht=>by simp at ht⟩
theorem DdTo.next{d:List St}{L:List Bool}{i k:Nat}(h:DdTo d L i k)(he:∀s,d[i]? =some s→L[i]? =some true→s.2.length≤k):DdTo d L (i+1) 0:=by
 refine⟨fun y s hy hb hs t ht=>?_,fun s _ _ t ht=>by simp at ht⟩;by_cases e:y<i
 ·exact h.1 y s e hb hs t ht
 ·obtain rfl:y=i:=by omega
  exact h.2 s hs hb t (by rw[List.take_of_length_le (he s hs hb)];exact ht)
theorem DdTo.one{d:List St}{L:List Bool}{i k:Nat}{s:St}{a:Arc3}(h:DdTo d L i k)(hs:d[i]? =some s)(ha:s.2[k]? =some a)(hb:L[a.2.2.toNat]? =some true):DdTo d L i (k+1):=by
 refine⟨h.1,fun s' hs' hi u hu=>?_⟩;rw[hs]at hs';injection hs' with hs'
 subst hs';rw[List.take_add_one,ha]at hu;rcases List.mem_append.1 hu with hu|hu
 ·exact h.2 s hs hi u hu
 ·simp at hu
  rw[hu];exact hb
theorem DdP.set{d:List St}{L:List Bool}(hg:Good d)(h:DdP d L){i:Nat}{s:St}{a:Arc3}(hs:d[i]? =some s)(ha:a∈s.2)(hb:L[a.2.2.toNat]? =some false):DdP d (L.set i false):=by
 have hl:=(List.getElem?_eq_some_iff.1 hs).1;have hlive:(auOf d).live i:=by
  obtain⟨t,ht⟩:=h.live _ hb;have hm:=List.mem_of_getElem? hs;have hab:=(hg.asc s hm).ok a ha;have hto:=hg.to_ s hm a ha;refine⟨a.1.toNat::t,?_⟩;rw[Au.acc,if_pos (by omega)];have hst:(auOf d).step i a.1.toNat=some a.2.2.toNat:=by
   show(d[i]?).bind _=_;rw[hs];show(lookA s.2 (a.1.toNat:Int)).map Int.toNat=_;have hlk:lookA s.2 (a.1.toNat:Int)=some a.2.2:=by
    have:=(hg.asc s hm);rw[show((a.1.toNat:Nat):Int)=a.1 by omega];unfold lookA;obtain⟨l1,l2,e⟩:=List.append_of_mem ha;rw[e,List.find?_append];have hn:l1.find? (fun b=>decide (b.1≤a.1∧a.1≤b.2.1))=none:=by
     rw[List.find?_eq_none];intro b hb'
     have hlt:=this.lt;rw[e,List.pairwise_append]at hlt;have:=hlt.2.2 b hb' a (List.mem_cons_self ..);simp
     omega
    rw[hn];simp[hab.2.1]
   rw[hlk];rfl
  rw[hst];exact ht
 refine⟨by rw[List.length_set];exact h.len,fun y hy=>?_,fun y s' hy hf=>?_⟩
 ·rw[List.getElem?_set]at hy;split at hy
  ·rename_i e
   subst e;exact hlive
  ·exact h.live y hy
 ·rw[List.getElem?_set];split
  ·rename_i e
   subst e;rw[if_pos (by rw[h.len];exact hl)]
  ·exact h.fin y s' hy hf
theorem DdP.done{d:List St}{L:List Bool}(h:DdP d L)(hc:DdTo d L d.length 0):∀(t:List Nat) (i:Nat),L[i]? =some true→(auOf d).acc i t=false
 |
  [],i,hi=>by
  show((d[i]?).map (·.1)).getD false=false;cases hs:d[i]? with
  |none=>rfl
  |
   some s=>
   cases hf:s.1 with
   |false=>show s.1=false;exact hf
   |
    true=>
    have:=h.fin i s hs hf;rw[hi]at this;cases this
 |
  c::t,i,hi=>by
  rw[Au.acc];by_cases hc256:c<256
  ·rw[if_pos hc256];have hst:(auOf d).step i c=(d[i]?).bind fun s=>(lookA s.2 c).map Int.toNat:=rfl
   rw[hst];cases hs:d[i]? with
   |none=>rfl
   |
    some s=>
    simp only[Option.bind_some];cases hl:lookA s.2 c with
    |none=>rfl
    |
     some z=>
     unfold lookA at hl;obtain⟨a,ha,rfl⟩:=Option.map_eq_some_iff.1 hl;have hm:=List.mem_of_find?_eq_some ha;exact h.done hc t _ (hc.1 i s ((List.getElem?_eq_some_iff.1 hs).1) hi hs a hm)
  ·rw[if_neg hc256]
end
end Go.Proofs.YtaociahafamncaaGreatDoor
