/- Folded. -/
import Derived.Test.YtaociahafamncaaGreatDoorHW26
set_option maxRecDepth 100000
set_option maxHeartbeats 40000000
set_option linter.unusedVariables false
namespace Go.Proofs.YtaociahafamncaaGreatDoor
section
open Go.RowKit Go.Maps
theorem lead_copy(w W0:World)(B:Nat)(hB:B≤w.heap.size)(A:Option Addr)(n c:Nat)(H:List Lsh)(HS:Hid (LoIn w B A n c H))(hlen:H.length=n)(hcm:n≤1048576)(v0:Value)(HL0:Hid (LoR w W0 v0 0 []))
  (c0 c1 c2 c3 c4 c5 c6 c7 c8 c9 c10 c12 c14 c15 c16 c17 c18 c19 c20 c42 c43 c44 c45 c46 c47 c48 c49 c50 c51 c52 c53 c54 c55 c56 c57 c58 c59 c60 c61 c62 c63 c64 c65 c66 c67 c68 c69 c70 c71 c72 c73 c74 c75 c76 c77 c78 c79 c80 c81 c82 c83 c84 c85 c86 c87 c88 c89 c90 c91 c92 c93 c94 c95 c96 c97 c98 c99 c100 c101 c102 c103 c104 c105 c106 c107 c108 c109 u13 u24 u25 u26 u27 u28 u29 u30 u31 u32 u33 u34 u35 u36 u37 u38 u39 u40 u41:Value) (Q0:Exit→Act→World→Prop) (hQ0:∀c (a a':Act) w,a.defers=a'.defers→Q0 (.panic c) a w→Q0 (.panic c) a' w)
  (hexit:∀(v:Value) (hs:List Lsh) (W:World) (x23 u13 u24 u25 u26 u27 u28 u29 u30 u31 u32 u33 u34 u35 u36 u37 u38 u39 u40 u41:Value),Hid (LoR w W v n hs)→Hid (hs.map (·.d)=H.map (·.d))→Q0 (.exit 0) ⟨List.toArray (c0::c1::c2::c3::c4::c5::c6::c7::c8::c9::c10::v::c12::u13::c14::c15::c16::c17::c18::c19::c20::.slice A n c::.int .i64 (n:Int)::x23::u24::u25::u26::u27::u28::u29::u30::u31::u32::u33::u34::u35::u36::u37::u38::u39::u40::u41::c42::c43::c44::c45::c46::c47::c48::c49::c50::c51::c52::c53::c54::c55::c56::c57::c58::c59::c60::c61::c62::c63::c64::c65::c66::c67::c68::c69::c70::c71::c72::c73::c74::c75::c76::c77::c78::c79::c80::c81::c82::c83::c84::c85::c86::c87::c88::c89::c90::c91::c92::c93::c94::c95::c96::c97::c98::c99::c100::c101::c102::c103::c104::c105::c106::c107::c108::c109::[]),[]⟩ W):
  Code.wp Tryz.prog (.loop (loopOf Tryz.f65 0)) Q0 ⟨List.toArray (c0::c1::c2::c3::c4::c5::c6::c7::c8::c9::c10::v0::c12::u13::c14::c15::c16::c17::c18::c19::c20::.slice A n c::.int .i64 (n:Int)::.int .i64 (0:Int)::u24::u25::u26::u27::u28::u29::u30::u31::u32::u33::u34::u35::u36::u37::u38::u39::u40::u41::c42::c43::c44::c45::c46::c47::c48::c49::c50::c51::c52::c53::c54::c55::c56::c57::c58::c59::c60::c61::c62::c63::c64::c65::c66::c67::c68::c69::c70::c71::c72::c73::c74::c75::c76::c77::c78::c79::c80::c81::c82::c83::c84::c85::c86::c87::c88::c89::c90::c91::c92::c93::c94::c95::c96::c97::c98::c99::c100::c101::c102::c103::c104::c105::c106::c107::c108::c109::[]),[]⟩ W0:=by
 conv=>arg 2;arg 1;whnf
 go_loopw [11,23] (fun v iv wr=>∃(i:Nat) (hs:List Lsh),i≤n∧iv=.int .i64 i∧Hid (LoR w wr v i hs)∧Hid (hs.map (·.d)=(H.map (·.d)).take i)) (fun _ iv _=>n-(intOf iv).toNat)
 case atStart=>exact⟨0,[],Nat.zero_le _,rfl,HL0,rfl⟩
 case round=>
  clear HL0;obtain⟨i,hs,hi,rfl,HR,HD⟩:=hrel;by_cases hin:i<n
  ·obtain⟨x,hx⟩:∃x,H[i]? =some x:=⟨H[i]'(by omega),List.getElem?_eq_getElem _⟩;have HX:=Lib.hid hx;have hxm:=List.mem_of_getElem? hx;obtain⟨b,off,rfl,hb,hcell⟩:=(HS.out.keep (HR.out.bel.mono hB) (Nat.le_refl _)).at_ (by omega);obtain⟨k0,k1,k2⟩:=hcell i x hx;obtain⟨hsa,hac,ham⟩:=HS.out.ar x hxm;obtain⟨hsf,hfc,hfm,hfn⟩:=HS.out.fr x hxm;have hbs:=HR.out.bel.size;have hbw:b<wr.heap.size:=by omega
   have hi2:(i:Int)<(n:Int):=by omega
   obtain⟨ma,hma⟩:∃m,x.d.arcs.length=m:=⟨_,rfl⟩;obtain⟨mf,hmf⟩:∃m,x.d.free.length=m:=⟨_,rfl⟩;rw[hma]at k1 hsa ham;rw[hmf]at k2 hsf hfm hfn;have HMM:=Lib.hid (And.intro hma hmf);obtain⟨b0,hb0⟩:∃k,wr.heap.size=k:=⟨_,rfl⟩;obtain⟨W1,hW⟩:∃W1,wr.alloc (.cells #[.bool x.d.fin,.slice x.A ma x.c,.slice x.F mf x.e] 134)=W1:=⟨_,rfl⟩;have hba:=bnew (brefl wr) (.cells #[.bool x.d.fin,.slice x.A ma x.c,.slice x.F mf x.e] 134);have hnew:=heap_alloc_new wr (.cells #[.bool x.d.fin,.slice x.A ma x.c,.slice x.F mf x.e] 134);have hsz:(wr.alloc (.cells #[.bool x.d.fin,.slice x.A ma x.c,.slice x.F mf x.e] 134)).heap.size=wr.heap.size+1:=by simp
   rw[hW]at hba hnew hsz;rw[hb0]at hnew hsz hba hbw;have HBW:Hid (Below wr.heap.size wr W1):=by rw[hb0];exact hba
   have hW1:wr.heap.size≤W1.heap.size:=by omega
   have s0:=cell_of_row _ b0 0 _ _ (0,0) hnew;have s1:=cell_of_row _ b0 1 _ _ (0,0) hnew;have s2:=cell_of_row _ b0 2 _ _ (0,0) hnew;simp at s0 s1 s2
   have HSK:Hid (∀W',Below W1.heap.size W1 W'→W'.cell? ⟨b0,0,none⟩=some (.bool x.d.fin)∧W'.cell? ⟨b0,1,none⟩=some (.slice x.A ma x.c)∧W'.cell? ⟨b0,2,none⟩=some (.slice x.F mf x.e)):=fun W' hb'=>⟨(hb'.cell (p:=⟨b0,0,none⟩) (by show b0<_;omega)).trans s0,(hb'.cell (p:=⟨b0,1,none⟩) (by show b0<_;omega)).trans s1,(hb'.cell (p:=⟨b0,2,none⟩) (by show b0<_;omega)).trans s2⟩
   have HNE:Hid (some b0≠v0.ownBlock∨True):=.inr trivial;have HSA:Hid (Sl W1 W1.heap.size 3 x.A ma (arcsC x.d.arcs)):=((hsa.below ((HR.out.bel.trans (HBW.out.mono hbs)).mono hB)).more (by omega));have HSF:Hid (Sl W1 W1.heap.size 1 x.F mf (x.d.free.map (.int .i64))):=((hsf.below ((HR.out.bel.trans (HBW.out.mono hbs)).mono hB)).more (by omega));have HNA:Hid (x.A=none→ma=0):=fun h=>hsa.none_ h
   have HNF:Hid (x.F=none→mf=0):=hfn;have HSG:Hid (∀W',Below W1.heap.size W1 W'→∀W'',W'.grownBy W'' u11.ownBlock→W''.cell? ⟨b0,0,none⟩=some (.bool x.d.fin)∧W''.cell? ⟨b0,1,none⟩=some (.slice x.A ma x.c)∧W''.cell? ⟨b0,2,none⟩=some (.slice x.F mf x.e)):=fun W' hb' W'' hg'=>by
    have hne:some b0≠u11.ownBlock:=fun e=>by
     have:=(HR.out.out.lt b0 e.symm).2;omega
    have hl:b0<W'.heap.size:=by have:=hb'.size;omega
    obtain⟨t0,t1,t2⟩:=HSK.out W' hb';exact⟨(World.cell?_of_block (w:=W') (hg'.block b0 hl hne)).trans t0,(World.cell?_of_block (w:=W') (hg'.block b0 hl hne)).trans t1,(World.cell?_of_block (w:=W') (hg'.block b0 hl hne)).trans t2⟩
   have hHN:=HR.out.len;clear hcell hx hsa hsf hfn hac hfc hma hmf hba hnew HNE;rw[←hb0]at hsz hbw;have hW1b:b0≤W1.heap.size:=by omega
   have hW1c:b0+1≤W1.heap.size:=by omega
   go_wp2_with fail;clear k0 k1 k2 hW s0 s1 s2 hsz;refine wp_region_held_drew (S:=fun w'=>w'.cell? ⟨b0,0,none⟩=some (.bool x.d.fin)∧w'.cell? ⟨b0,1,none⟩=some (.slice x.A ma x.c)∧w'.cell? ⟨b0,2,none⟩=some (.slice x.F mf x.e)) (by kernel_rfl) ?_ (fun hHeld=>?_)
   ·(try dsimp only);exact HSK.out _ ((Below.drew (brefl W1)))
   refine wpAnyH_take (i:=0) (v:=?_) rfl (by kernel_rfl) (by kernel_rfl) (by kernel_rfl) (fun c _ w h=>hQ0 c _ _ w (by rfl) h) (Or.inl ⟨by rfl,?_⟩) (by assumption) ?_;rotate_left
   ·intro w hSw;(try dsimp only at hSw);go_simp;(try with_reducible rfl)
   try simp only[Act.put,List.setIfInBounds_toArray]
   refine wpAnyH_take (i:=1) (v:=?_) rfl (by kernel_rfl) (by kernel_rfl) (by kernel_rfl) (fun c _ w h=>hQ0 c _ _ w (by rfl) h) (Or.inl ⟨by rfl,?_⟩) (by assumption) ?_;rotate_left
   ·intro w hSw;(try dsimp only at hSw);go_simp;(try with_reducible rfl)
   try simp only[Act.put]
   refine wpAnyH_take (i:=2) (v:=?_) rfl (by kernel_rfl) (by kernel_rfl) (by kernel_rfl) (fun c _ w h=>hQ0 c _ _ w (by rfl) h) (Or.inl ⟨by rfl,?_⟩) (by assumption) ?_;rotate_left
   ·intro w hSw;(try dsimp only at hSw);go_simp;(try with_reducible rfl)
   try simp only[Act.put]
   refine wpAnyH_take (i:=4) (v:=?_) rfl (by kernel_rfl) (by kernel_rfl) (by kernel_rfl) (fun c _ w h=>hQ0 c _ _ w (by rfl) h) (Or.inl ⟨by rfl,?_⟩) (by assumption) ?_;rotate_left
   ·intro w hSw;(try dsimp only at hSw);go_simp;(try with_reducible rfl)
   try simp only[Act.put]
   refine wpAnyH_take (i:=5) (v:=?_) rfl (by kernel_rfl) (by kernel_rfl) (by kernel_rfl) (fun c _ w h=>hQ0 c _ _ w (by rfl) h) (Or.inl ⟨by rfl,?_⟩) (by assumption) ?_;rotate_left
   ·intro w hSw;(try dsimp only at hSw);go_simp;(try with_reducible rfl)
   try simp only[Act.put]
   refine wpAnyH_take (i:=8) (v:=?_) rfl (by kernel_rfl) (by kernel_rfl) (by kernel_rfl) (fun c _ w h=>hQ0 c _ _ w (by rfl) h) (Or.inl ⟨by rfl,?_⟩) (by assumption) ?_;rotate_left
   ·intro w hSw;(try dsimp only at hSw);go_simp;(try with_reducible rfl)
   try simp only[Act.put]
   refine wpAnyH_take (i:=9) (v:=?_) rfl (by kernel_rfl) (by kernel_rfl) (by kernel_rfl) (fun c _ w h=>hQ0 c _ _ w (by rfl) h) (Or.inl ⟨by rfl,?_⟩) (by assumption) ?_;rotate_left
   ·intro w hSw;(try dsimp only at hSw);go_simp;(try with_reducible rfl)
   try simp only[Act.put]
   refine wpAnyH_ready (rs:=[3,7]) (by kernel_rfl) (by simp) ?_;refine AllReadyH.cons rfl (fun K hK=>?_) (AllReadyH.cons rfl (fun K hK=>?_) (AllReadyH.nil))
   ·skip
    go_simp
    refine hK.out _ _ ?_ (fun hHeld=>?_)
    ·(try dsimp only);exact HSK.out _ ((bnew (Below.drew (brefl W1)) (.cells #[] 76)))
    clear hK K;try simp only[Act.put,List.setIfInBounds_toArray,List.set_cons_zero,List.set_cons_succ]
    refine wpAnyH_ready (rs:=[6,7]) (by kernel_rfl) (by simp) ?_;refine AllReadyH.cons rfl (fun K hK=>?_) (AllReadyH.cons rfl (fun K hK=>?_) (AllReadyH.nil))
    ·skip
     refine step_apsl (base:=b0) _ (by rfl) (.tmp 30) (.tmp 32) _ (by rfl) el_arc _ 0 [] (by rfl) (own_lit (base:=b0) W1.drew 76 3 rfl (by show b0≤W1.heap.size;omega)) (by rfl) (HSA.out.below (bnew (Below.drew (brefl W1)) (.cells #[] 76))) HNA.out (arcs_cell1 x.d.arcs) (by unfold maxLen;omega) (by omega) (by first|omega|(simp;omega)) ?_;intro v6 w6 ho6 hg6 hor6
     rw[Nat.zero_add,List.nil_append]at ho6;obtain⟨A6,c6,rfl,_⟩:=own_shape ho6;have HB6:Hid (Below W1.heap.size W1 w6):=Below.grown (bnew (Below.drew (brefl W1)) (.cells #[] 76)) hg6 (Below.size (bnew (Below.drew (brefl W1)) (.cells #[] 76))) (fun r hr=>by injection hr with hr;simp at hr;omega);have hb6:=HB6.out.size;have HO6:=Lib.hid ho6;clear ho6 hor6;clear hg6;refine hK.out _ _ ?_ (fun hHeld=>?_)
     ·(try dsimp only);exact HSK.out _ (HB6.out)
     clear hK K;try simp only[Act.put,List.setIfInBounds_toArray]
     refine wpAnyH_ready (rs:=[7]) (by kernel_rfl) (by simp) ?_;refine AllReadyH.cons rfl (fun K hK=>?_) (AllReadyH.nil);go_simp
     refine hK.out _ _ ?_ (fun hHeld=>?_)
     ·(try dsimp only);exact HSK.out _ ((bnew HB6.out (.cells #[] 3)))
     clear hK K;try simp only[Act.put,List.setIfInBounds_toArray,List.set_cons_zero,List.set_cons_succ]
     refine wpAnyH_ready (rs:=[10]) (by kernel_rfl) (by simp) ?_;refine AllReadyH.cons rfl (fun K hK=>?_) (AllReadyH.nil);refine step_apsl (base:=b0) _ (by rfl) (.tmp 34) (.tmp 36) _ (by rfl) el_int _ 0 [] (by rfl) (own_lit (base:=b0) w6 3 1 rfl (by omega)) (by rfl) (HSF.out.below (bnew HB6.out (.cells #[] 3))) HNF.out (ints_cell1 x.d.free) (by unfold maxLen;omega) (by omega) (by first|omega|(simp;omega)) ?_;intro v10 w10 ho10 hg10 hor10
     rw[Nat.zero_add,List.nil_append]at ho10;obtain⟨A10,c10,rfl,_⟩:=own_shape ho10;have HB10:Hid (Below W1.heap.size W1 w10):=Below.grown (bnew HB6.out (.cells #[] 3)) hg10 (Below.size (bnew HB6.out (.cells #[] 3))) (fun r hr=>by injection hr with hr;simp at hr;omega);have hb10:=HB10.out.size;have HO10:=Lib.hid ho10;have HOA:Hid (w10.ownsRow b0 76 3 (.slice A6 ma c6) ma (arcsC x.d.arcs)):=World.ownsRow.kept (own_kept HO6.out (bnew (brefl w6) (.cells #[] 3))) hg10 (own_types (own_lit (base:=b0) w6 3 1 rfl (by omega)) (own_kept HO6.out (bnew (brefl w6) (.cells #[] 3))) (by decide));clear ho10 hor10 hg10;refine hK.out _ _ ?_ (fun hHeld=>?_)
     ·(try dsimp only);exact HSK.out _ (HB10.out)
     clear hK K;try simp only[Act.put,List.setIfInBounds_toArray]
     refine wpAnyH_take (i:=11) (v:=?_) rfl (by kernel_rfl) (by kernel_rfl) (by kernel_rfl) (fun c _ w h=>hQ0 c _ _ w (by rfl) h) (Or.inl ⟨by rfl,?_⟩) (by assumption) ?_;rotate_left
     ·intro w hSw;(try dsimp only at hSw);go_simp;(try with_reducible rfl)
     try simp only[Act.put]
     refine wpAnyH_ready (rs:=[12]) (by kernel_rfl) (by simp) ?_;refine AllReadyH.cons rfl (fun K hK=>?_) (AllReadyH.nil);go_simp
     refine hK.out _ _ ?_ (fun hHeld=>?_)
     ·(try dsimp only);exact HSK.out _ (bnew HB10.out (.cells #[.bool x.d.fin,.slice A6 ma c6,.slice A10 mf c10] 134))
     clear hK K;try simp only[Act.put,List.setIfInBounds_toArray,List.set_cons_zero,List.set_cons_succ]
     refine wpAnyH_ready (rs:=[13]) (by kernel_rfl) (by simp) ?_;refine AllReadyH.cons rfl (fun K hK=>?_) (AllReadyH.nil);have hb0w:=hb10;have HOW:=Lib.hid (own_kept HR.out.out (Below.trans HBW.out ((Below.mono (bnew HB10.out (.cells #[.bool x.d.fin,.slice A6 ma c6,.slice A10 mf c10] 134)) hW1))));have HBB:=Lib.hid (Below.trans HR.out.bel ((Below.mono (Below.trans HBW.out (Below.mono (bnew HB10.out (.cells #[.bool x.d.fin,.slice A6 ma c6,.slice A10 mf c10] 134)) hW1)) HR.out.bel.size)));refine step_pushw w _ _ (by rfl) (.tmp 27) (.tmp 39) _ (by rfl) el_loose _ _ _ (by rfl) HOW.out (m:=1) (by rfl) (heap_alloc_new _ _) (by rfl) (by simp[Value.oneCell']) (by omega) (by unfold maxLen;omega) (by omega) HBB.out.size HBB.out ?_;intro g9 c9 w9 hown9 hb9 hg9
     have HG9:=Lib.hid hg9;have HOW9:=Lib.hid hown9;clear hown9 hb9 hg9;refine hK.out _ _ ?_ (fun hHeld=>?_)
     ·(try dsimp only);exact HSG.out _ (bnew HB10.out (.cells #[.bool x.d.fin,.slice A6 ma c6,.slice A10 mf c10] 134)) _ HG9.out
     clear hK K;try simp only[Act.put,List.setIfInBounds_toArray]
     refine wpAnyH_take (i:=14) (v:=?_) rfl (by kernel_rfl) (by kernel_rfl) (by kernel_rfl) (fun c _ w h=>hQ0 c _ _ w (by rfl) h) (Or.inl ⟨by rfl,?_⟩) (by assumption) ?_;rotate_left
     ·intro w hSw;(try dsimp only at hSw);go_simp;(try with_reducible rfl)
     try simp only[Act.put]
     refine wpAnyH_done (by kernel_rfl) ?_ _;have HFIN:Hid (LoR w w9 (.slice (some ⟨g9,0,none⟩) (i+1) c9) (i+1) (hs++[⟨x.d,A6,c6,A10,c10⟩])):=by
      refine HR.out.push (x:=⟨x.d,A6,c6,A10,c10⟩) (HBW.out.trans ((bnew HB10.out (.cells #[.bool x.d.fin,.slice A6 ma c6,.slice A10 mf c10] 134)).mono hW1)) ?_ ?_ HG9.out ?_
      ·show World.ownsRow _ _ _ _ (.slice A6 x.d.arcs.length c6) x.d.arcs.length _;rw[HMM.out.1,hb0];exact own_kept HOA.out (bnew (brefl _) _)
      ·show World.ownsRow _ _ _ _ (.slice A10 x.d.free.length c10) x.d.free.length _;rw[HMM.out.2,hb0];exact own_kept HO10.out (bnew (brefl _) _)
      ·have e:(⟨x.d,A6,c6,A10,c10⟩:Lsh).hdr=[.bool x.d.fin,.slice A6 ma c6,.slice A10 mf c10]:=by unfold Lsh.hdr;rw[HMM.out.1,HMM.out.2]
       rw[e];exact HOW9.out
     have HDN:Hid ((hs++[(⟨x.d,A6,c6,A10,c10⟩:Lsh)]).map (·.d)=(H.map (·.d)).take (i+1)):=by
      show _=_;rw[List.map_append,HD.out,List.take_add_one,List.getElem?_map,HX.out];rfl
     clear HG9 HOW9 HOW HBB HOA HO10 HO6 HB10 HB6 HR HD;go_wp2_with fail;go_roundw;case rel=>exact⟨i+1,_,by omega,by go_num,HFIN,HDN⟩
     case measure=>simp[intOf];omega
    ·skip
     go_simp
     refine hK.out _ _ ?_ (fun hHeld=>?_)
     ·(try dsimp only);exact HSK.out _ ((bnew (bnew (Below.drew (brefl W1)) (.cells #[] 76)) (.cells #[] 3)))
     clear hK K;try simp only[Act.put,List.setIfInBounds_toArray,List.set_cons_zero,List.set_cons_succ]
     refine wpAnyH_ready (rs:=[6]) (by kernel_rfl) (by simp) ?_;refine AllReadyH.cons rfl (fun K hK=>?_) (AllReadyH.nil);refine step_apsl (base:=b0) _ (by rfl) (.tmp 30) (.tmp 32) _ (by rfl) el_arc _ 0 [] (by rfl) (own_kept (own_lit (base:=b0) W1.drew 76 3 rfl (by show b0≤W1.heap.size;omega)) (bnew (brefl _) (.cells #[] 3))) (by rfl) (HSA.out.below (bnew (bnew (Below.drew (brefl W1)) (.cells #[] 76)) (.cells #[] 3))) HNA.out (arcs_cell1 x.d.arcs) (by unfold maxLen;omega) (by omega) (by first|omega|(simp;omega)) ?_;intro v6 w6 ho6 hg6 hor6
     rw[Nat.zero_add,List.nil_append]at ho6;obtain⟨A6,c6,rfl,_⟩:=own_shape ho6;have HB6:Hid (Below W1.heap.size W1 w6):=Below.grown (bnew (bnew (Below.drew (brefl W1)) (.cells #[] 76)) (.cells #[] 3)) hg6 (Below.size (bnew (bnew (Below.drew (brefl W1)) (.cells #[] 76)) (.cells #[] 3))) (fun r hr=>by injection hr with hr;simp at hr;omega);have hb6:=HB6.out.size;have HO6:=Lib.hid ho6;have HOI:Hid (w6.ownsRow b0 3 1 (.slice (some ⟨W1.heap.size+1,0,none⟩) 0 0) 0 []):=World.ownsRow.kept (own_lit (base:=b0) (W1.drew.alloc (.cells #[] 76)) 3 1 (by simp) (by simp;omega)) hg6 (own_types (own_kept (own_lit (base:=b0) W1.drew 76 3 rfl (by show b0≤W1.heap.size;omega)) (bnew (brefl _) (.cells #[] 3))) (own_lit (base:=b0) (W1.drew.alloc (.cells #[] 76)) 3 1 (by simp) (by simp;omega)) (by decide));clear ho6 hor6;clear hg6;refine hK.out _ _ ?_ (fun hHeld=>?_)
     ·(try dsimp only);exact HSK.out _ (HB6.out)
     clear hK K;try simp only[Act.put,List.setIfInBounds_toArray]
     refine wpAnyH_ready (rs:=[10]) (by kernel_rfl) (by simp) ?_;refine AllReadyH.cons rfl (fun K hK=>?_) (AllReadyH.nil);refine step_apsl (base:=b0) _ (by rfl) (.tmp 34) (.tmp 36) _ (by rfl) el_int _ 0 [] (by rfl) (HOI.out) (by rfl) (HSF.out.below HB6.out) HNF.out (ints_cell1 x.d.free) (by unfold maxLen;omega) (by omega) (by first|omega|(simp;omega)) ?_;intro v10 w10 ho10 hg10 hor10
     rw[Nat.zero_add,List.nil_append]at ho10;obtain⟨A10,c10,rfl,_⟩:=own_shape ho10;have HB10:Hid (Below W1.heap.size W1 w10):=Below.grown HB6.out hg10 (Below.size HB6.out) (fun r hr=>by injection hr with hr;simp at hr;omega);have hb10:=HB10.out.size;have HO10:=Lib.hid ho10;have HOA:Hid (w10.ownsRow b0 76 3 (.slice A6 ma c6) ma (arcsC x.d.arcs)):=World.ownsRow.kept (HO6.out) hg10 (own_types (HOI.out) (HO6.out) (by decide));clear ho10 hor10 hg10;refine hK.out _ _ ?_ (fun hHeld=>?_)
     ·(try dsimp only);exact HSK.out _ (HB10.out)
     clear hK K;try simp only[Act.put]
     refine wpAnyH_take (i:=11) (v:=?_) rfl (by kernel_rfl) (by kernel_rfl) (by kernel_rfl) (fun c _ w h=>hQ0 c _ _ w (by rfl) h) (Or.inl ⟨by rfl,?_⟩) (by assumption) ?_;rotate_left
     ·intro w hSw;(try dsimp only at hSw);go_simp;(try with_reducible rfl)
     try simp only[Act.put]
     refine wpAnyH_ready (rs:=[12]) (by kernel_rfl) (by simp) ?_;refine AllReadyH.cons rfl (fun K hK=>?_) (AllReadyH.nil);go_simp
     refine hK.out _ _ ?_ (fun hHeld=>?_)
     ·(try dsimp only);exact HSK.out _ (bnew HB10.out (.cells #[.bool x.d.fin,.slice A6 ma c6,.slice A10 mf c10] 134))
     clear hK K;try simp only[Act.put,List.setIfInBounds_toArray,List.set_cons_zero,List.set_cons_succ]
     refine wpAnyH_ready (rs:=[13]) (by kernel_rfl) (by simp) ?_;refine AllReadyH.cons rfl (fun K hK=>?_) (AllReadyH.nil);have hb0w:=hb10;have HOW:=Lib.hid (own_kept HR.out.out (Below.trans HBW.out ((Below.mono (bnew HB10.out (.cells #[.bool x.d.fin,.slice A6 ma c6,.slice A10 mf c10] 134)) hW1))));have HBB:=Lib.hid (Below.trans HR.out.bel ((Below.mono (Below.trans HBW.out (Below.mono (bnew HB10.out (.cells #[.bool x.d.fin,.slice A6 ma c6,.slice A10 mf c10] 134)) hW1)) HR.out.bel.size)));refine step_pushw w _ _ (by rfl) (.tmp 27) (.tmp 39) _ (by rfl) el_loose _ _ _ (by rfl) HOW.out (m:=1) (by rfl) (heap_alloc_new _ _) (by rfl) (by simp[Value.oneCell']) (by omega) (by unfold maxLen;omega) (by omega) HBB.out.size HBB.out ?_;intro g9 c9 w9 hown9 hb9 hg9
     have HG9:=Lib.hid hg9;have HOW9:=Lib.hid hown9;clear hown9 hb9 hg9;refine hK.out _ _ ?_ (fun hHeld=>?_)
     ·(try dsimp only);exact HSG.out _ (bnew HB10.out (.cells #[.bool x.d.fin,.slice A6 ma c6,.slice A10 mf c10] 134)) _ HG9.out
     clear hK K;try simp only[Act.put,List.setIfInBounds_toArray]
     refine wpAnyH_take (i:=14) (v:=?_) rfl (by kernel_rfl) (by kernel_rfl) (by kernel_rfl) (fun c _ w h=>hQ0 c _ _ w (by rfl) h) (Or.inl ⟨by rfl,?_⟩) (by assumption) ?_;rotate_left
     ·intro w hSw;(try dsimp only at hSw);go_simp;(try with_reducible rfl)
     try simp only[Act.put]
     refine wpAnyH_done (by kernel_rfl) ?_ _;have HFIN:Hid (LoR w w9 (.slice (some ⟨g9,0,none⟩) (i+1) c9) (i+1) (hs++[⟨x.d,A6,c6,A10,c10⟩])):=by
      refine HR.out.push (x:=⟨x.d,A6,c6,A10,c10⟩) (HBW.out.trans ((bnew HB10.out (.cells #[.bool x.d.fin,.slice A6 ma c6,.slice A10 mf c10] 134)).mono hW1)) ?_ ?_ HG9.out ?_
      ·show World.ownsRow _ _ _ _ (.slice A6 x.d.arcs.length c6) x.d.arcs.length _;rw[HMM.out.1,hb0];exact own_kept HOA.out (bnew (brefl _) _)
      ·show World.ownsRow _ _ _ _ (.slice A10 x.d.free.length c10) x.d.free.length _;rw[HMM.out.2,hb0];exact own_kept HO10.out (bnew (brefl _) _)
      ·have e:(⟨x.d,A6,c6,A10,c10⟩:Lsh).hdr=[.bool x.d.fin,.slice A6 ma c6,.slice A10 mf c10]:=by unfold Lsh.hdr;rw[HMM.out.1,HMM.out.2]
       rw[e];exact HOW9.out
     have HDN:Hid ((hs++[(⟨x.d,A6,c6,A10,c10⟩:Lsh)]).map (·.d)=(H.map (·.d)).take (i+1)):=by
      show _=_;rw[List.map_append,HD.out,List.take_add_one,List.getElem?_map,HX.out];rfl
     clear HG9 HOW9 HOW HBB HOA HO10 HO6 HB10 HB6 HR HD;go_wp2_with fail;go_roundw;case rel=>exact⟨i+1,_,by omega,by go_num,HFIN,HDN⟩
     case measure=>simp[intOf];omega
   ·skip
    go_simp
    refine hK.out _ _ ?_ (fun hHeld=>?_)
    ·(try dsimp only);exact HSK.out _ ((bnew (Below.drew (brefl W1)) (.cells #[] 3)))
    clear hK K;try simp only[Act.put,List.setIfInBounds_toArray,List.set_cons_zero,List.set_cons_succ]
    refine wpAnyH_ready (rs:=[3]) (by kernel_rfl) (by simp) ?_;refine AllReadyH.cons rfl (fun K hK=>?_) (AllReadyH.nil);go_simp
    refine hK.out _ _ ?_ (fun hHeld=>?_)
    ·(try dsimp only);exact HSK.out _ ((bnew (bnew (Below.drew (brefl W1)) (.cells #[] 3)) (.cells #[] 76)))
    clear hK K;try simp only[Act.put,List.setIfInBounds_toArray,List.set_cons_zero,List.set_cons_succ]
    refine wpAnyH_ready (rs:=[6]) (by kernel_rfl) (by simp) ?_;refine AllReadyH.cons rfl (fun K hK=>?_) (AllReadyH.nil);refine step_apsl (base:=b0) _ (by rfl) (.tmp 30) (.tmp 32) _ (by rfl) el_arc _ 0 [] (by rfl) (own_lit (base:=b0) (W1.drew.alloc (.cells #[] 3)) 76 3 (by simp) (by simp;omega)) (by rfl) (HSA.out.below (bnew (bnew (Below.drew (brefl W1)) (.cells #[] 3)) (.cells #[] 76))) HNA.out (arcs_cell1 x.d.arcs) (by unfold maxLen;omega) (by omega) (by first|omega|(simp;omega)) ?_;intro v6 w6 ho6 hg6 hor6
    rw[Nat.zero_add,List.nil_append]at ho6;obtain⟨A6,c6,rfl,_⟩:=own_shape ho6;have HB6:Hid (Below W1.heap.size W1 w6):=Below.grown (bnew (bnew (Below.drew (brefl W1)) (.cells #[] 3)) (.cells #[] 76)) hg6 (Below.size (bnew (bnew (Below.drew (brefl W1)) (.cells #[] 3)) (.cells #[] 76))) (fun r hr=>by injection hr with hr;simp at hr;omega);have hb6:=HB6.out.size;have HO6:=Lib.hid ho6;have HOI:Hid (w6.ownsRow b0 3 1 (.slice (some ⟨W1.heap.size,0,none⟩) 0 0) 0 []):=World.ownsRow.kept (own_kept (own_lit (base:=b0) W1.drew 3 1 rfl (by show b0≤W1.heap.size;omega)) (bnew (brefl _) (.cells #[] 76))) hg6 (own_types (own_lit (base:=b0) (W1.drew.alloc (.cells #[] 3)) 76 3 (by simp) (by simp;omega)) (own_kept (own_lit (base:=b0) W1.drew 3 1 rfl (by show b0≤W1.heap.size;omega)) (bnew (brefl _) (.cells #[] 76))) (by decide));clear ho6 hor6;clear hg6;refine hK.out _ _ ?_ (fun hHeld=>?_)
    ·(try dsimp only);exact HSK.out _ (HB6.out)
    clear hK K;try simp only[Act.put,List.setIfInBounds_toArray]
    refine wpAnyH_ready (rs:=[10]) (by kernel_rfl) (by simp) ?_;refine AllReadyH.cons rfl (fun K hK=>?_) (AllReadyH.nil);refine step_apsl (base:=b0) _ (by rfl) (.tmp 34) (.tmp 36) _ (by rfl) el_int _ 0 [] (by rfl) (HOI.out) (by rfl) (HSF.out.below HB6.out) HNF.out (ints_cell1 x.d.free) (by unfold maxLen;omega) (by omega) (by first|omega|(simp;omega)) ?_;intro v10 w10 ho10 hg10 hor10
    rw[Nat.zero_add,List.nil_append]at ho10;obtain⟨A10,c10,rfl,_⟩:=own_shape ho10;have HB10:Hid (Below W1.heap.size W1 w10):=Below.grown HB6.out hg10 (Below.size HB6.out) (fun r hr=>by injection hr with hr;simp at hr;omega);have hb10:=HB10.out.size;have HO10:=Lib.hid ho10;have HOA:Hid (w10.ownsRow b0 76 3 (.slice A6 ma c6) ma (arcsC x.d.arcs)):=World.ownsRow.kept (HO6.out) hg10 (own_types (HOI.out) (HO6.out) (by decide));clear ho10 hor10 hg10;refine hK.out _ _ ?_ (fun hHeld=>?_)
    ·(try dsimp only);exact HSK.out _ (HB10.out)
    clear hK K;try simp only[Act.put]
    refine wpAnyH_take (i:=11) (v:=?_) rfl (by kernel_rfl) (by kernel_rfl) (by kernel_rfl) (fun c _ w h=>hQ0 c _ _ w (by rfl) h) (Or.inl ⟨by rfl,?_⟩) (by assumption) ?_;rotate_left
    ·intro w hSw;(try dsimp only at hSw);go_simp;(try with_reducible rfl)
    try simp only[Act.put]
    refine wpAnyH_ready (rs:=[12]) (by kernel_rfl) (by simp) ?_;refine AllReadyH.cons rfl (fun K hK=>?_) (AllReadyH.nil);go_simp
    refine hK.out _ _ ?_ (fun hHeld=>?_)
    ·(try dsimp only);exact HSK.out _ (bnew HB10.out (.cells #[.bool x.d.fin,.slice A6 ma c6,.slice A10 mf c10] 134))
    clear hK K;try simp only[Act.put,List.setIfInBounds_toArray,List.set_cons_zero,List.set_cons_succ]
    refine wpAnyH_ready (rs:=[13]) (by kernel_rfl) (by simp) ?_;refine AllReadyH.cons rfl (fun K hK=>?_) (AllReadyH.nil);have hb0w:=hb10;have HOW:=Lib.hid (own_kept HR.out.out (Below.trans HBW.out ((Below.mono (bnew HB10.out (.cells #[.bool x.d.fin,.slice A6 ma c6,.slice A10 mf c10] 134)) hW1))));have HBB:=Lib.hid (Below.trans HR.out.bel ((Below.mono (Below.trans HBW.out (Below.mono (bnew HB10.out (.cells #[.bool x.d.fin,.slice A6 ma c6,.slice A10 mf c10] 134)) hW1)) HR.out.bel.size)));refine step_pushw w _ _ (by rfl) (.tmp 27) (.tmp 39) _ (by rfl) el_loose _ _ _ (by rfl) HOW.out (m:=1) (by rfl) (heap_alloc_new _ _) (by rfl) (by simp[Value.oneCell']) (by omega) (by unfold maxLen;omega) (by omega) HBB.out.size HBB.out ?_;intro g9 c9 w9 hown9 hb9 hg9
    have HG9:=Lib.hid hg9;have HOW9:=Lib.hid hown9;clear hown9 hb9 hg9;refine hK.out _ _ ?_ (fun hHeld=>?_)
    ·(try dsimp only);exact HSG.out _ (bnew HB10.out (.cells #[.bool x.d.fin,.slice A6 ma c6,.slice A10 mf c10] 134)) _ HG9.out
    clear hK K;try simp only[Act.put,List.setIfInBounds_toArray]
    refine wpAnyH_take (i:=14) (v:=?_) rfl (by kernel_rfl) (by kernel_rfl) (by kernel_rfl) (fun c _ w h=>hQ0 c _ _ w (by rfl) h) (Or.inl ⟨by rfl,?_⟩) (by assumption) ?_;rotate_left
    ·intro w hSw;(try dsimp only at hSw);go_simp;(try with_reducible rfl)
    try simp only[Act.put]
    refine wpAnyH_done (by kernel_rfl) ?_ _;have HFIN:Hid (LoR w w9 (.slice (some ⟨g9,0,none⟩) (i+1) c9) (i+1) (hs++[⟨x.d,A6,c6,A10,c10⟩])):=by
     refine HR.out.push (x:=⟨x.d,A6,c6,A10,c10⟩) (HBW.out.trans ((bnew HB10.out (.cells #[.bool x.d.fin,.slice A6 ma c6,.slice A10 mf c10] 134)).mono hW1)) ?_ ?_ HG9.out ?_
     ·show World.ownsRow _ _ _ _ (.slice A6 x.d.arcs.length c6) x.d.arcs.length _;rw[HMM.out.1,hb0];exact own_kept HOA.out (bnew (brefl _) _)
     ·show World.ownsRow _ _ _ _ (.slice A10 x.d.free.length c10) x.d.free.length _;rw[HMM.out.2,hb0];exact own_kept HO10.out (bnew (brefl _) _)
     ·have e:(⟨x.d,A6,c6,A10,c10⟩:Lsh).hdr=[.bool x.d.fin,.slice A6 ma c6,.slice A10 mf c10]:=by unfold Lsh.hdr;rw[HMM.out.1,HMM.out.2]
      rw[e];exact HOW9.out
    have HDN:Hid ((hs++[(⟨x.d,A6,c6,A10,c10⟩:Lsh)]).map (·.d)=(H.map (·.d)).take (i+1)):=by
     show _=_;rw[List.map_append,HD.out,List.take_add_one,List.getElem?_map,HX.out];rfl
    clear HG9 HOW9 HOW HBB HOA HO10 HO6 HB10 HB6 HR HD;go_wp2_with fail;go_roundw;case rel=>exact⟨i+1,_,by omega,by go_num,HFIN,HDN⟩
    case measure=>simp[intOf];omega
  ·obtain rfl:i=n:=by omega
   have HDE:Hid (hs.map (·.d)=H.map (·.d)):=by
    have h1:=HD.out;rw[List.take_of_length_le (by rw[List.length_map,hlen];exact Nat.le_refl _)]at h1;exact h1
   go_wp2_with fail;exact hexit _ hs wr _ _ _ _ _ _ _ _ _ _ _ _ _ _ _ _ _ _ _ _ HR HDE
end
section
open Go.RowKit Go.Maps
theorem addArc_map{hs:List Lsh}{i:Nat}{x:Lsh}{a:Arc3}{A2:Option Addr}{c2:Nat}(hx:hs[i]? =some x):(hs.set i ⟨⟨x.d.fin,x.d.arcs++[a],x.d.free⟩,A2,c2,x.F,x.e⟩).map (·.d)=addArc (hs.map (·.d)) i a:=by
 apply List.ext_getElem?
 intro j
 by_cases e:i=j
 ·subst e;rw[addArc_at a (s:=x.d) (by rw[List.getElem?_map,hx];rfl),List.getElem?_map,List.getElem?_set_self (List.getElem?_eq_some_iff.1 hx).1];rfl
 ·rw[addArc_ne a e,List.getElem?_map,List.getElem?_map,List.getElem?_set_ne e]
theorem lead_r20(w W2:World)(go m cp:Nat)(hs:List Lsh)(HR2:Hid (LoR w W2 (.slice (some ⟨go,0,none⟩) m cp) m hs))(at_ nx:Nat)(hat:at_<m)(x:Lsh)(HX:Hid (hs[at_]? =some x))(ma:Nat)(HMA:Hid (x.d.arcs.length=ma))(hma:ma≤2000000)(xb:Nat)(p:Int×Int)(HXB:Hid (W2.heap[xb]? =some (.cells #[.int .i64 p.1,.int .i64 p.2] 151 (0,0))))
  (c0 c1 c2 c3 c4 c5 c6 c7 c8 c9 c10 c12 c13 c14 c15 c17 c20 c21 c22 c23 c24 c25 c26 c27 c28 c29 c30 c31 c32 c33 c34 c35 c36 c37 c38 c39 c40 c41 c42 c43 c44 c45 c46 c47 c48 c49 c50 c51 c52 c53 c54 c55 c56 c57 c58 c59 c60 c61 c62 c63 c64 c65 c66 c67 c68 c69 c70 c71 c72 c73 c74 c75 c76 c77 c78 c79 c80 c81 c82 c83 c84 c85 c86 c87 c88 c106 c107 c108 c109 u89 u90 u91 u92 u93 u94 u95 u96 u97 u98 u99 u100 u101 u102 u103 u104 u105:Value) (Q0:Exit→Act→World→Prop) (hQ0:∀c (a a':Act) w,a.defers=a'.defers→Q0 (.panic c) a w→Q0 (.panic c) a' w)
  (hexit:∀(g9 cx9:Nat) (W:World) (u89 u90 u91 u92 u93 u94 u95 u96 u97 u98 u99 u100 u101 u102 u103 u104 u105:Value),Hid (LoR w W (.slice (some ⟨go,0,none⟩) m cp) m (hs.set at_ ⟨⟨x.d.fin,x.d.arcs++[(p.1,p.2,(nx:Int))],x.d.free⟩,some ⟨g9,0,none⟩,cx9,x.F,x.e⟩))→Hid (Keeps W2 W)→Q0 .normal ⟨List.toArray (c0::c1::c2::c3::c4::c5::c6::c7::c8::c9::c10::.slice (some ⟨go,0,none⟩) m cp::c12::c13::c14::c15::.int .i64 (at_:Int)::c17::.pointer (some ⟨xb,0,none⟩)::.int .i64 (nx:Int)::c20::c21::c22::c23::c24::c25::c26::c27::c28::c29::c30::c31::c32::c33::c34::c35::c36::c37::c38::c39::c40::c41::c42::c43::c44::c45::c46::c47::c48::c49::c50::c51::c52::c53::c54::c55::c56::c57::c58::c59::c60::c61::c62::c63::c64::c65::c66::c67::c68::c69::c70::c71::c72::c73::c74::c75::c76::c77::c78::c79::c80::c81::c82::c83::c84::c85::c86::c87::c88::u89::u90::u91::u92::u93::u94::u95::u96::u97::u98::u99::u100::u101::u102::u103::u104::u105::c106::c107::c108::c109::[]),[]⟩ W):
  Code.wp Tryz.prog (regOf Tryz.f65 20) Q0 ⟨List.toArray (c0::c1::c2::c3::c4::c5::c6::c7::c8::c9::c10::.slice (some ⟨go,0,none⟩) m cp::c12::c13::c14::c15::.int .i64 (at_:Int)::c17::.pointer (some ⟨xb,0,none⟩)::.int .i64 (nx:Int)::c20::c21::c22::c23::c24::c25::c26::c27::c28::c29::c30::c31::c32::c33::c34::c35::c36::c37::c38::c39::c40::c41::c42::c43::c44::c45::c46::c47::c48::c49::c50::c51::c52::c53::c54::c55::c56::c57::c58::c59::c60::c61::c62::c63::c64::c65::c66::c67::c68::c69::c70::c71::c72::c73::c74::c75::c76::c77::c78::c79::c80::c81::c82::c83::c84::c85::c86::c87::c88::u89::u90::u91::u92::u93::u94::u95::u96::u97::u98::u99::u100::u101::u102::u103::u104::u105::c106::c107::c108::c109::[]),[]⟩ W2:=by
 have HSK:Hid (∀W',Below W2.heap.size W2 W'→W'.cell? ⟨xb,0,none⟩=some (.int .i64 p.1)∧W'.cell? ⟨xb,1,none⟩=some (.int .i64 p.2)):=fun W' hb=>by
  have h1:=(hb.block xb (Array.getElem?_eq_some_iff.1 HXB.out).1).trans HXB.out;exact⟨cell_of_row _ xb 0 _ _ (0,0) h1,cell_of_row _ xb 1 _ _ (0,0) h1⟩
 have hxo1:=HR2.out.ar.own x.arow (List.mem_map.2 ⟨x,List.mem_of_getElem? HX.out,rfl⟩);have HSG:Hid (∀W',Below W2.heap.size W2 W'→∀W'',W'.grownBy W'' (Value.slice x.A ma x.c).ownBlock→W''.cell? ⟨xb,0,none⟩=some (.int .i64 p.1)∧W''.cell? ⟨xb,1,none⟩=some (.int .i64 p.2)):=fun W' hb' W'' hg'=>by
  have h1:=(hb'.block xb (Array.getElem?_eq_some_iff.1 HXB.out).1).trans HXB.out;have hne:some xb≠(Value.slice x.A ma x.c).ownBlock:=fun e=>by
   have h2:=row_not_cells hxo1 HXB.out (by decide);have h3:(Value.slice x.A x.d.arcs.length x.c).ownBlock=some xb:=by rw[HMA.out];exact e.symm
   rcases h2 with h2|h2
   ·have h2:(Value.slice x.A x.d.arcs.length x.c).ownBlock=none:=h2;rw[h3]at h2;cases h2
   ·exact h2 h3
  have h4:=(hg'.block xb (Array.getElem?_eq_some_iff.1 h1).1 hne).trans h1;exact⟨cell_of_row _ xb 0 _ _ (0,0) h4,cell_of_row _ xb 1 _ _ (0,0) h4⟩
 have hgo:go≠xb:=fun e=>by
  obtain⟨_,_,cs,h1⟩:=own_blk HR2.out.out;rw[e,HXB.out]at h1;injection h1 with h1
  injection h1 with _ h1 _
  exact absurd h1 (by decide)
 have HSS:Hid (∀(W':World) (u:Value),(W'.cell? ⟨xb,0,none⟩=some (.int .i64 p.1)∧W'.cell? ⟨xb,1,none⟩=some (.int .i64 p.2))→(W'.setCell ⟨go,at_*3+1,none⟩ u).cell? ⟨xb,0,none⟩=some (.int .i64 p.1)∧(W'.setCell ⟨go,at_*3+1,none⟩ u).cell? ⟨xb,1,none⟩=some (.int .i64 p.2)):=fun W' u h=>by
  have k:∀j,(W'.setCell ⟨go,at_*3+1,none⟩ u).cell? ⟨xb,j,none⟩=W'.cell? ⟨xb,j,none⟩:=fun j=>World.cell?_of_block (w:=W') (Below.heap_setCell _ _ _ xb (fun e=>hgo (by simpa using e.symm)))
  exact⟨(k 0).trans h.1,(k 1).trans h.2⟩
 obtain⟨_,k1,_⟩:=lo_cell HR2.out.out HX.out;rw[HMA.out]at k1;have hgow:=(own_blk HR2.out.out).2.1;have hxw:=(Array.getElem?_eq_some_iff.1 HXB.out).1;have hat2:(at_:Int)<(m:Int):=by omega
 clear hxo1;conv=>arg 2;whnf
 refine wp_region_held_drew (S:=fun w'=>w'.cell? ⟨xb,0,none⟩=some (.int .i64 p.1)∧w'.cell? ⟨xb,1,none⟩=some (.int .i64 p.2)) (by kernel_rfl) ?_ (fun hHeld=>?_)
 ·(try dsimp only);exact HSK.out _ ((Below.drew (brefl W2)))
 refine wpAnyH_take (i:=0) (v:=?_) rfl (by kernel_rfl) (by kernel_rfl) (by kernel_rfl) (fun c _ w h=>hQ0 c _ _ w (by rfl) h) (Or.inl ⟨by rfl,?_⟩) (by assumption) ?_;rotate_left
 ·intro w hSw;(try dsimp only at hSw);go_simp;(try with_reducible rfl)
 try simp only[Act.put,List.setIfInBounds_toArray]
 refine wpAnyH_take (i:=1) (v:=?_) rfl (by kernel_rfl) (by kernel_rfl) (by kernel_rfl) (fun c _ w h=>hQ0 c _ _ w (by rfl) h) (Or.inl ⟨by rfl,?_⟩) (by assumption) ?_;rotate_left
 ·intro w hSw;(try dsimp only at hSw);go_simp;(try with_reducible rfl)
 try simp only[Act.put]
 refine wpAnyH_take (i:=2) (v:=?_) rfl (by kernel_rfl) (by kernel_rfl) (by kernel_rfl) (fun c _ w h=>hQ0 c _ _ w (by rfl) h) (Or.inl ⟨by rfl,?_⟩) (by assumption) ?_;rotate_left
 ·intro w hSw;(try dsimp only at hSw);go_simp;(try with_reducible rfl)
 try simp only[Act.put]
 refine wpAnyH_take (i:=3) (v:=?_) rfl (by kernel_rfl) (by kernel_rfl) (by kernel_rfl) (fun c _ w h=>hQ0 c _ _ w (by rfl) h) (Or.inl ⟨by rfl,?_⟩) (by assumption) ?_;rotate_left
 ·intro w hSw;(try dsimp only at hSw);go_simp;(try with_reducible rfl)
 try simp only[Act.put]
 refine wpAnyH_take (i:=4) (v:=?_) rfl (by kernel_rfl) (by kernel_rfl) (by kernel_rfl) (fun c _ w h=>hQ0 c _ _ w (by rfl) h) (Or.inl ⟨by rfl,?_⟩) (by assumption) ?_;rotate_left
 ·intro w hSw;(try dsimp only at hSw);go_simp;(try with_reducible rfl)
 try simp only[Act.put]
 refine wpAnyH_take (i:=5) (v:=?_) rfl (by kernel_rfl) (by kernel_rfl) (by kernel_rfl) (fun c _ w h=>hQ0 c _ _ w (by rfl) h) (Or.inl ⟨by rfl,?_⟩) (by assumption) ?_;rotate_left
 ·intro w hSw;(try dsimp only at hSw);go_simp;(try with_reducible rfl)
 try simp only[Act.put]
 refine wpAnyH_take (i:=7) (v:=?_) rfl (by kernel_rfl) (by kernel_rfl) (by kernel_rfl) (fun c _ w h=>hQ0 c _ _ w (by rfl) h) (Or.inl ⟨by rfl,?_⟩) (by assumption) ?_;rotate_left
 ·intro w hSw;(try dsimp only at hSw);go_simp;(try with_reducible rfl)
 try simp only[Act.put]
 refine wpAnyH_take (i:=8) (v:=?_) rfl (by kernel_rfl) (by kernel_rfl) (by kernel_rfl) (fun c _ w h=>hQ0 c _ _ w (by rfl) h) (Or.inl ⟨by rfl,?_⟩) (by assumption) ?_;rotate_left
 ·intro w hSw;(try dsimp only at hSw);go_simp;(try with_reducible rfl)
 try simp only[Act.put]
 refine wpAnyH_take (i:=9) (v:=?_) rfl (by kernel_rfl) (by kernel_rfl) (by kernel_rfl) (fun c _ w h=>hQ0 c _ _ w (by rfl) h) (Or.inl ⟨by rfl,?_⟩) (by assumption) ?_;rotate_left
 ·intro w hSw;(try dsimp only at hSw);go_simp;(try with_reducible rfl)
 try simp only[Act.put]
 refine wpAnyH_take (i:=10) (v:=?_) rfl (by kernel_rfl) (by kernel_rfl) (by kernel_rfl) (fun c _ w h=>hQ0 c _ _ w (by rfl) h) (Or.inl ⟨by rfl,?_⟩) (by assumption) ?_;rotate_left
 ·intro w hSw;(try dsimp only at hSw);go_simp;(try with_reducible rfl)
 try simp only[Act.put]
 refine wpAnyH_take (i:=11) (v:=?_) rfl (by kernel_rfl) (by kernel_rfl) (by kernel_rfl) (fun c _ w h=>hQ0 c _ _ w (by rfl) h) (Or.inl ⟨by rfl,?_⟩) (by assumption) ?_;rotate_left
 ·intro w hSw;(try dsimp only at hSw);go_simp;(try with_reducible rfl)
 try simp only[Act.put]
 refine wpAnyH_take (i:=12) (v:=?_) rfl (by kernel_rfl) (by kernel_rfl) (by kernel_rfl) (fun c _ w h=>hQ0 c _ _ w (by rfl) h) (Or.inl ⟨by rfl,?_⟩) (by assumption) ?_;rotate_left
 ·intro w hSw;(try dsimp only at hSw);go_simp;(try with_reducible rfl)
 try simp only[Act.put]
 refine wpAnyH_ready (rs:=[6,13]) (by kernel_rfl) (by simp) ?_;refine AllReadyH.cons rfl (fun K hK=>?_) (AllReadyH.cons rfl (fun K hK=>?_) (AllReadyH.nil))
 ·skip
  go_simp
  refine hK.out _ _ ?_ (fun hHeld=>?_)
  ·(try dsimp only);exact HSK.out _ ((Below.drew (brefl W2)))
  clear hK K;try simp only[Act.put,List.setIfInBounds_toArray,List.set_cons_zero,List.set_cons_succ]
  refine wpAnyH_ready (rs:=[13]) (by kernel_rfl) (by simp) ?_;refine AllReadyH.cons rfl (fun K hK=>?_) (AllReadyH.nil);go_simp
  refine hK.out _ _ ?_ (fun hHeld=>?_)
  ·(try dsimp only);exact HSK.out _ ((bnew (Below.drew (brefl W2)) (.cells #[.int .i64 p.1,.int .i64 p.2,.int .i64 (nx:Int)] 76)))
  clear hK K;try simp only[Act.put,List.setIfInBounds_toArray,List.set_cons_zero,List.set_cons_succ]
  refine wpAnyH_ready (rs:=[14]) (by kernel_rfl) (by simp) ?_;refine AllReadyH.cons rfl (fun K hK=>?_) (AllReadyH.nil);have HRX:=Lib.hid (HR2.out.keep (bnew (Below.drew (brefl W2)) (.cells #[.int .i64 p.1,.int .i64 p.2,.int .i64 (nx:Int)] 76)));have hxo:=HRX.out.ar.own x.arow (List.mem_map.2 ⟨x,List.mem_of_getElem? HX.out,rfl⟩);have HXO:Hid (World.ownsRow (W2.drew.alloc (.cells #[.int .i64 p.1,.int .i64 p.2,.int .i64 (nx:Int)] 76)) w.heap.size 76 3 (.slice x.A ma x.c) ma (arcsC x.d.arcs)):=by rw[←HMA.out];exact hxo
  clear hxo;refine step_pushg _ _ (by rfl) (.tmp 95) (.tmp 102) _ (by rfl) el_arc _ _ _ (by rfl) HXO.out (m:=1) (by rfl) (heap_alloc_new _ _) (by rfl) (by simp[Value.oneCell']) (by omega) (by unfold maxLen;omega) (by omega) HRX.out.bel.size ?_;intro g9 cx9 w9 hown9 hg9 hm9
  have HARC:=Lib.hid (HRX.out.arc (a:=(p.1,p.2,(nx:Int))) (A2:=some ⟨g9,0,none⟩) (c2:=cx9) HX.out (by rw[HMA.out];exact hg9) (by rw[HMA.out];exact hown9) (by rw[HMA.out];exact hm9.elim (fun h=>.inl h.symm) fun h=>.inr ⟨g9,rfl,h⟩));rw[HMA.out]at HARC;obtain⟨HLN,t1,t2,t3,hkp⟩:=HARC.out;have HKP:=Lib.hid (Keeps.trans (Keeps.below (Below.mono (bnew (Below.drew (brefl W2)) (.cells #[.int .i64 p.1,.int .i64 p.2,.int .i64 (nx:Int)] 76)) (Nat.le_refl _))) hkp);have HLN9:=Lib.hid HLN;have HSK9:Hid (w9.cell? ⟨xb,0,none⟩=some (.int .i64 p.1)∧w9.cell? ⟨xb,1,none⟩=some (.int .i64 p.2)):=HSG.out _ (bnew (Below.drew (brefl W2)) (.cells #[.int .i64 p.1,.int .i64 p.2,.int .i64 (nx:Int)] 76)) _ hg9;clear hown9 hm9 HARC HLN hg9 hkp;refine hK.out _ _ ?_ (fun hHeld=>?_)
  ·(try dsimp only);exact HSK9.out
  clear hK K;try simp only[Act.put,List.setIfInBounds_toArray]
  refine wpAnyH_take (i:=15) (v:=?_) rfl (by kernel_rfl) (by kernel_rfl) (by kernel_rfl) (fun c _ w h=>hQ0 c _ _ w (by rfl) h) (Or.inl ⟨by rfl,?_⟩) (by assumption) ?_;rotate_left
  ·intro w hSw;(try dsimp only at hSw);go_simp;(try with_reducible rfl)
  try simp only[Act.put]
  refine wpAnyH_take (i:=16) (v:=?_) rfl (by kernel_rfl) (by kernel_rfl) (by kernel_rfl) (fun c _ w h=>hQ0 c _ _ w (by rfl) h) (Or.inl ⟨by rfl,?_⟩) (by assumption) ?_;rotate_left
  ·intro w hSw;(try dsimp only at hSw);go_simp;(try with_reducible rfl)
  try simp only[Act.put]
  refine wpAnyH_ready (rs:=[17]) (by kernel_rfl) (by simp) ?_;refine AllReadyH.cons rfl (fun K hK=>?_) (AllReadyH.nil);go_simp
  refine hK.out _ _ ?_ (fun hHeld=>?_)
  ·(try dsimp only);exact HSS.out _ _ HSK9.out
  clear hK K;try simp only[Act.put,List.setIfInBounds_toArray,List.set_cons_zero,List.set_cons_succ]
  refine wpAnyH_done (by kernel_rfl) ?_ _;exact hexit g9 cx9 _ _ _ _ _ _ _ _ _ _ _ _ _ _ _ _ _ _ HLN9 HKP
 ·skip
  go_simp
  refine hK.out _ _ ?_ (fun hHeld=>?_)
  ·(try dsimp only);exact HSK.out _ ((bnew (Below.drew (brefl W2)) (.cells #[.int .i64 p.1,.int .i64 p.2,.int .i64 (nx:Int)] 76)))
  clear hK K;try simp only[Act.put,List.setIfInBounds_toArray,List.set_cons_zero,List.set_cons_succ]
  refine wpAnyH_ready (rs:=[6]) (by kernel_rfl) (by simp) ?_;refine AllReadyH.cons rfl (fun K hK=>?_) (AllReadyH.nil);go_simp
  refine hK.out _ _ ?_ (fun hHeld=>?_)
  ·(try dsimp only);exact HSK.out _ ((bnew (Below.drew (brefl W2)) (.cells #[.int .i64 p.1,.int .i64 p.2,.int .i64 (nx:Int)] 76)))
  clear hK K;try simp only[Act.put,List.setIfInBounds_toArray,List.set_cons_zero,List.set_cons_succ]
  refine wpAnyH_ready (rs:=[14]) (by kernel_rfl) (by simp) ?_;refine AllReadyH.cons rfl (fun K hK=>?_) (AllReadyH.nil);have HRX:=Lib.hid (HR2.out.keep (bnew (Below.drew (brefl W2)) (.cells #[.int .i64 p.1,.int .i64 p.2,.int .i64 (nx:Int)] 76)));have hxo:=HRX.out.ar.own x.arow (List.mem_map.2 ⟨x,List.mem_of_getElem? HX.out,rfl⟩);have HXO:Hid (World.ownsRow (W2.drew.alloc (.cells #[.int .i64 p.1,.int .i64 p.2,.int .i64 (nx:Int)] 76)) w.heap.size 76 3 (.slice x.A ma x.c) ma (arcsC x.d.arcs)):=by rw[←HMA.out];exact hxo
  clear hxo;refine step_pushg _ _ (by rfl) (.tmp 95) (.tmp 102) _ (by rfl) el_arc _ _ _ (by rfl) HXO.out (m:=1) (by rfl) (heap_alloc_new _ _) (by rfl) (by simp[Value.oneCell']) (by omega) (by unfold maxLen;omega) (by omega) HRX.out.bel.size ?_;intro g9 cx9 w9 hown9 hg9 hm9
  have HARC:=Lib.hid (HRX.out.arc (a:=(p.1,p.2,(nx:Int))) (A2:=some ⟨g9,0,none⟩) (c2:=cx9) HX.out (by rw[HMA.out];exact hg9) (by rw[HMA.out];exact hown9) (by rw[HMA.out];exact hm9.elim (fun h=>.inl h.symm) fun h=>.inr ⟨g9,rfl,h⟩));rw[HMA.out]at HARC;obtain⟨HLN,t1,t2,t3,hkp⟩:=HARC.out;have HKP:=Lib.hid (Keeps.trans (Keeps.below (Below.mono (bnew (Below.drew (brefl W2)) (.cells #[.int .i64 p.1,.int .i64 p.2,.int .i64 (nx:Int)] 76)) (Nat.le_refl _))) hkp);have HLN9:=Lib.hid HLN;have HSK9:Hid (w9.cell? ⟨xb,0,none⟩=some (.int .i64 p.1)∧w9.cell? ⟨xb,1,none⟩=some (.int .i64 p.2)):=HSG.out _ (bnew (Below.drew (brefl W2)) (.cells #[.int .i64 p.1,.int .i64 p.2,.int .i64 (nx:Int)] 76)) _ hg9;clear hown9 hm9 HARC HLN hg9 hkp;refine hK.out _ _ ?_ (fun hHeld=>?_)
  ·(try dsimp only);exact HSK9.out
  clear hK K;try simp only[Act.put,List.setIfInBounds_toArray]
  refine wpAnyH_take (i:=15) (v:=?_) rfl (by kernel_rfl) (by kernel_rfl) (by kernel_rfl) (fun c _ w h=>hQ0 c _ _ w (by rfl) h) (Or.inl ⟨by rfl,?_⟩) (by assumption) ?_;rotate_left
  ·intro w hSw;(try dsimp only at hSw);go_simp;(try with_reducible rfl)
  try simp only[Act.put]
  refine wpAnyH_take (i:=16) (v:=?_) rfl (by kernel_rfl) (by kernel_rfl) (by kernel_rfl) (fun c _ w h=>hQ0 c _ _ w (by rfl) h) (Or.inl ⟨by rfl,?_⟩) (by assumption) ?_;rotate_left
  ·intro w hSw;(try dsimp only at hSw);go_simp;(try with_reducible rfl)
  try simp only[Act.put]
  refine wpAnyH_ready (rs:=[17]) (by kernel_rfl) (by simp) ?_;refine AllReadyH.cons rfl (fun K hK=>?_) (AllReadyH.nil);go_simp
  refine hK.out _ _ ?_ (fun hHeld=>?_)
  ·(try dsimp only);exact HSS.out _ _ HSK9.out
  clear hK K;try simp only[Act.put,List.setIfInBounds_toArray,List.set_cons_zero,List.set_cons_succ]
  refine wpAnyH_done (by kernel_rfl) ?_ _;exact hexit g9 cx9 _ _ _ _ _ _ _ _ _ _ _ _ _ _ _ _ _ _ HLN9 HKP
end
end Go.Proofs.YtaociahafamncaaGreatDoor
