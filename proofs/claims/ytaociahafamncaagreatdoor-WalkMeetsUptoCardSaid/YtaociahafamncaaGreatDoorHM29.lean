/- Folded. -/
import Derived.Test.YtaociahafamncaaGreatDoorHM25
import Derived.Test.YtaociahafamncaaGreatDoorHM28
set_option maxRecDepth 100000
set_option maxHeartbeats 40000000
set_option linter.unusedVariables false
namespace Go.Proofs.YtaociahafamncaaGreatDoor
section
open Go.RowKit
def zq2:Lsh:=⟨⟨false,[],[]⟩,none,0,none,0⟩
def endH:Lsh:=⟨endS,none,0,none,0⟩
def zmi:Array Value:= #[.bool false,.slice none 0 0,.slice none 0 0]
theorem z4c:(Tryz.prog.info? 134).map (fun i=>(i.zero,i.size,i.bytes))=some (some (.agg zmi),3,56):=by kernel_rfl
theorem z45(n:Nat)(hn:n≤1000)(w:World):(Instr.makeSlice 132 (.int .i64 ((n:Int)+1)) (.int .i64 ((n:Int)+1))).run Tryz.prog w=.ok (.slice (some ⟨w.heap.size,0,none⟩) (n+1) (n+1)) (w.alloc (.cells (madeCells zmi ((n+1)*3)) 134)):=by
 obtain⟨i,hi,hzz⟩:=Option.map_eq_some_iff.1 z4c;simp only[Prod.mk.injEq]at hzz;obtain⟨hz,hs,hb⟩:=hzz;have hr:=run_make (P:=Tryz.prog) w 132 134 i _ Tryz.underlying132 hi hz .i64 .i64 ((n:Int)+1) ((n:Int)+1) (by omega) (Int.le_refl _) (by rw[hb];omega) (by omega);rw[hs,show((n:Int)+1).toNat=n+1 by omega]at hr;exact hr
theorem zD3:∀n:Nat,(madeCells zmi (n*3)).toList=(List.replicate n zq2).flatMap Lsh.hdr:=by
 intro n
 induction n with
 |zero=>simp[madeCells]
 |
  succ n ih=>
  have e:(n+1)*3=n*3+1+1+1:=by omega
  have m0:n*3%3=0:=by omega
  have m1:(n*3+1)%3=1:=by omega
  have m2:(n*3+1+1)%3=2:=by omega
  rw[List.replicate_succ',List.flatMap_append,←ih,e];unfold madeCells;simp only[Array.toList_map,Array.toList_range,List.range_succ,List.map_append,List.map_cons,List.map_nil,List.append_assoc];congr 1
  show[zmi[n*3%3]!]++([zmi[(n*3+1)%3]!]++[zmi[(n*3+1+1)%3]!])=_;rw[m0,m1,m2];rfl
theorem z21(W:World)(base e s:Nat):∀{F:List GRow},(∀x∈F,x=GRow.nil)→GFam W base e s F:=fun{F} h=>by
 refine⟨fun x hx=>by rw[h x hx];exact GRow.own_nil ..,?_⟩;refine List.pairwise_of_forall_mem_list fun x hx y _=>?_
 rw[h x hx];exact .inl rfl
theorem z47(w:World)(n:Nat)(hn:n≤1000):
  LoR w ((w.alloc (.cells (madeCells zmi ((n+1)*3)) 134)).setCell ⟨w.heap.size,n*3,none⟩ (.bool true)) (.slice (some ⟨w.heap.size,0,none⟩) (n+1) (n+1)) (n+1) (List.replicate n zq2++[endH])∧
  (w.alloc (.cells (madeCells zmi ((n+1)*3)) 134)).cell? ⟨w.heap.size,n*3,none⟩=some (.bool false)∧(w.alloc (.cells (madeCells zmi ((n+1)*3)) 134)).frozen? ⟨w.heap.size,n*3,none⟩=false:=by
 have hsz:(madeCells zmi ((n+1)*3)).size=(n+1)*3:=size_madeCells _ _;have ho:=zg1 w (madeCells zmi ((n+1)*3)) 134 3 (n+1) hsz (by unfold maxLen;omega) (nb:=w.heap.size) rfl (base:=w.heap.size) (Nat.le_refl _);rw[zD3]at ho;have hlen:((List.replicate n zq2).flatMap Lsh.hdr).length=n*3:=by rw[zn4,List.length_replicate]
 have hsplit:(List.replicate (n+1) zq2).flatMap Lsh.hdr=(List.replicate n zq2).flatMap Lsh.hdr++zq2.hdr:=by
  rw[List.replicate_succ',List.flatMap_append];simp
 refine⟨⟨?_,?_,?_,below_set (bnew (za0 w) _) (Nat.le_refl _) (Nat.le_refl _)⟩,?_,?_⟩
 ·have h1:=zf0 (j:=n*3) (u:=.bool true) ho;rw[hsplit,List.set_append_right _ _ (by omega),hlen,Nat.sub_self]at h1;have e:(List.replicate n zq2++[endH]).flatMap Lsh.hdr=(List.replicate n zq2).flatMap Lsh.hdr++zq2.hdr.set 0 (.bool true):=by
   rw[List.flatMap_append];rfl
  rw[e];exact h1
 ·refine z21 _ _ _ _ fun x hx=>?_
  obtain⟨y,hy,rfl⟩:=List.mem_map.1 hx;rcases List.mem_append.1 hy with hy|hy
  ·rw[List.eq_of_mem_replicate hy];rfl
  ·rw[List.mem_singleton.1 hy];rfl
 ·refine z21 _ _ _ _ fun x hx=>?_
  obtain⟨y,hy,rfl⟩:=List.mem_map.1 hx;rcases List.mem_append.1 hy with hy|hy
  ·rw[List.eq_of_mem_replicate hy];rfl
  ·rw[List.mem_singleton.1 hy];rfl
 ·have h1:=ho.cells (g:=w.heap.size) rfl (n*3) (.bool false) (by
   rw[hsplit,List.getElem?_append_right (by omega),hlen,Nat.sub_self];rfl)
  rwa[Addr.add_lit,Nat.zero_add]at h1
 ·obtain⟨_,_,cs,h1⟩:=zb3 ho;exact free_at h1 _
theorem zEk(n:Nat):(List.replicate n zq2++[endH]).map (·.d)=zcj n:=by
 unfold zcj;rw[List.map_append,List.map_replicate];rfl
theorem LoR.fway{w W W':World}{g n c i:Nat}{hs:List Lsh}{x:Lsh}{z:Int}{A2:Option Addr}{c2:Nat}(h:LoR w W (.slice (some ⟨g,0,none⟩) n c) n hs)(hx:hs[i]? =some x)(hg:W.grownBy W' (Value.slice x.F x.d.free.length x.e).ownBlock)
  (hy:W'.ownsRow w.heap.size 3 1 (.slice A2 (x.d.free.length+1) c2) (x.d.free.length+1) (x.d.free.map (.int .i64)++[.int .i64 z])) (hm:(Value.slice A2 (x.d.free.length+1) c2).ownBlock=(Value.slice x.F x.d.free.length x.e).ownBlock∨∃q,(Value.slice A2 (x.d.free.length+1) c2).ownBlock=some q∧W.heap.size≤q):
  LoR w (W'.setCell ⟨g,i*3+2,none⟩ (.slice A2 (x.d.free.length+1) c2)) (.slice (some ⟨g,0,none⟩) n c) n (hs.set i ⟨⟨x.d.fin,x.d.arcs,x.d.free++[z]⟩,x.A,x.c,A2,c2⟩)∧
  W'.cell? ⟨g,i*3+2,none⟩=some (.slice x.F x.d.free.length x.e)∧W'.frozen? ⟨g,i*3+2,none⟩=false∧g<W'.heap.size∧W'.cell? ⟨g,i*3+1,none⟩=some (.slice x.A x.d.arcs.length x.c):=by
 have hxf:W.ownsRow w.heap.size 3 1 (.slice x.F x.d.free.length x.e) x.d.free.length (x.d.free.map (.int .i64)):=h.fr.own x.frow (List.mem_map.2 ⟨x,List.mem_of_getElem? hx,rfl⟩);have hbel:=h.bel.grown hg h.bel.size fun r hr=>(hxf.lt r hr).1
 have ho1:=h.out.kept hg (za4 hxf h.out (by decide));obtain⟨q1,q2,cs,q3⟩:=zb3 ho1;obtain⟨_,k0,k1⟩:=zu5 ho1 hx;have hxr:(hs.map Lsh.frow)[i]? =some x.frow:=by rw[List.getElem?_map,hx];rfl
 refine⟨⟨?_,?_,?_,below_set hbel q1 (Nat.le_refl _)⟩,k1,free_at q3 _,q2,k0⟩
 ·have h1:=zf0 (j:=i*3+2) (u:=.slice A2 (x.d.free.length+1) c2) ho1;have e:(hs.flatMap Lsh.hdr).set (i*3+2) (.slice A2 (x.d.free.length+1) c2)=(hs.set i ⟨⟨x.d.fin,x.d.arcs,x.d.free++[z]⟩,x.A,x.c,A2,c2⟩).flatMap Lsh.hdr:=by
   rw[zfa hx];conv=>lhs;rw[zgh hx]
   have hl:((hs.take i).flatMap Lsh.hdr).length=i*3:=by rw[zn4,List.length_take,Nat.min_eq_left (by have:=(List.getElem?_eq_some_iff.1 hx).1;omega)]
   rw[List.flatMap_append,List.flatMap_append,List.flatMap_cons,List.flatMap_cons,List.set_append_right _ _ (by omega),hl,Nat.add_sub_cancel_left];unfold Lsh.hdr;simp
  rw[e]at h1;exact h1
 ·rw[List.map_set];have e:(hs.map Lsh.arow).set i (⟨⟨x.d.fin,x.d.arcs,x.d.free++[z]⟩,x.A,x.c,A2,c2⟩:Lsh).arow=hs.map Lsh.arow:=by
   have e2:(⟨⟨x.d.fin,x.d.arcs,x.d.free++[z]⟩,x.A,x.c,A2,c2⟩:Lsh).arow=x.arow:=rfl;rw[e2];apply List.ext_getElem?
   intro j
   by_cases hj:i=j
   ·subst hj;rw[List.getElem?_set_self (by rw[List.length_map];exact(List.getElem?_eq_some_iff.1 hx).1),List.getElem?_map,hx];rfl
   ·rw[List.getElem?_set_ne hj]
  rw[e];have h2:=h.ar.kept hg fun z hz=>za4 hxf (h.ar.own z hz) (by decide)
  exact h2.kept (za7 _ _ _) fun z hz=>za5 (h2.own z hz) q3 (by decide)
 ·rw[List.map_set];have h1:=h.fr;rw[zgh hxr]at h1;have h2:=h1.grow (W2:=W') (y:=(⟨⟨x.d.fin,x.d.arcs,x.d.free++[z]⟩,x.A,x.c,A2,c2⟩:Lsh).frow) hg (by
   show W'.ownsRow _ _ _ (.slice A2 (x.d.free++[z]).length c2) (x.d.free++[z]).length ((x.d.free++[z]).map (.int .i64));rw[List.length_append,List.length_singleton,List.map_append];exact hy) (by
   show(Value.slice A2 (x.d.free++[z]).length c2).ownBlock=_∨∃q,(Value.slice A2 (x.d.free++[z]).length c2).ownBlock=some q∧_;rw[List.length_append,List.length_singleton];exact hm)
  rw[←zfa hxr]at h2;exact h2.kept (za7 _ _ _) fun z hz=>za5 (h2.own z hz) q3 (by decide)
theorem zC0{hs:List Lsh}{i:Nat}{x:Lsh}{A2 A3:Option Addr}{c2 c3:Nat}(hx:hs[i]? =some x):
  ((hs.set i ⟨⟨x.d.fin,x.d.arcs,x.d.free++[((i:Int)+1)]⟩,x.A,x.c,A2,c2⟩).set i ⟨⟨x.d.fin,x.d.arcs++[(0,255,(i:Int))],x.d.free++[((i:Int)+1)]⟩,A3,c3,A2,c2⟩).map (·.d)=zha (hs.map (·.d)) i:=by
 apply List.ext_getElem?
 intro j
 have hi:=(List.getElem?_eq_some_iff.1 hx).1;rw[List.set_set];by_cases e:i=j
 ·subst e;rw[zk2 (s:=x.d) (by rw[List.getElem?_map,hx];rfl),List.getElem?_map,List.getElem?_set_self hi];rfl
 ·rw[zk0 e,List.getElem?_map,List.getElem?_map,List.getElem?_set_ne e]
end
section
open Go.RowKit Go.Maps
theorem z95(w W0:World)(B:Nat)(hB:B≤w.heap.size)(A:Option Addr)(n c:Nat)(H:List Lsh)(HS:Hid (LoIn w B A n c H))(hlen:H.length=n)(hcm:n≤1048576)(v0:Value)(HL0:Hid (LoR w W0 v0 0 []))
  (c0 c1 c2 c3 c4 c5 c6 c7 c8 c9 c10 c12 c14 c15 c16 c17 c18 c19 c20 c42 c43 c44 c45 c46 c47 c48 c49 c50 c51 c52 c53 c54 c55 c56 c57 c58 c59 c60 c61 c62 c63 c64 c65 c66 c67 c68 c69 c70 c71 c72 c73 c74 c75 c76 c77 c78 c79 c80 c81 c82 c83 c84 c85 c86 c87 c88 c89 c90 c91 c92 c93 c94 c95 c96 c97 c98 c99 c100 c101 c102 c103 c104 c105 c106 c107 c108 c109 u13 u24 u25 u26 u27 u28 u29 u30 u31 u32 u33 u34 u35 u36 u37 u38 u39 u40 u41:Value) (Q0:Exit→Act→World→Prop) (hQ0:∀c (a a':Act) w,a.defers=a'.defers→Q0 (.panic c) a w→Q0 (.panic c) a' w)
  (hexit:∀(v:Value) (hs:List Lsh) (W:World) (x23 u13 u24 u25 u26 u27 u28 u29 u30 u31 u32 u33 u34 u35 u36 u37 u38 u39 u40 u41:Value),Hid (LoR w W v n hs)→Hid (hs.map (·.d)=H.map (·.d))→Q0 (.exit 0) ⟨List.toArray (c0::c1::c2::c3::c4::c5::c6::c7::c8::c9::c10::v::c12::u13::c14::c15::c16::c17::c18::c19::c20::.slice A n c::.int .i64 (n:Int)::x23::u24::u25::u26::u27::u28::u29::u30::u31::u32::u33::u34::u35::u36::u37::u38::u39::u40::u41::c42::c43::c44::c45::c46::c47::c48::c49::c50::c51::c52::c53::c54::c55::c56::c57::c58::c59::c60::c61::c62::c63::c64::c65::c66::c67::c68::c69::c70::c71::c72::c73::c74::c75::c76::c77::c78::c79::c80::c81::c82::c83::c84::c85::c86::c87::c88::c89::c90::c91::c92::c93::c94::c95::c96::c97::c98::c99::c100::c101::c102::c103::c104::c105::c106::c107::c108::c109::[]),[]⟩ W):
  Code.wp Tryz.prog (.loop (zoc Tryz.f65 0)) Q0 ⟨List.toArray (c0::c1::c2::c3::c4::c5::c6::c7::c8::c9::c10::v0::c12::u13::c14::c15::c16::c17::c18::c19::c20::.slice A n c::.int .i64 (n:Int)::.int .i64 (0:Int)::u24::u25::u26::u27::u28::u29::u30::u31::u32::u33::u34::u35::u36::u37::u38::u39::u40::u41::c42::c43::c44::c45::c46::c47::c48::c49::c50::c51::c52::c53::c54::c55::c56::c57::c58::c59::c60::c61::c62::c63::c64::c65::c66::c67::c68::c69::c70::c71::c72::c73::c74::c75::c76::c77::c78::c79::c80::c81::c82::c83::c84::c85::c86::c87::c88::c89::c90::c91::c92::c93::c94::c95::c96::c97::c98::c99::c100::c101::c102::c103::c104::c105::c106::c107::c108::c109::[]),[]⟩ W0:=by
 conv=>arg 2;arg 1;whnf
 go_loopw [11,23] (fun v iv wr=>∃(i:Nat) (hs:List Lsh),i≤n∧iv=.int .i64 i∧Hid (LoR w wr v i hs)∧Hid (hs.map (·.d)=(H.map (·.d)).take i)) (fun _ iv _=>n-(intOf iv).toNat)
 case atStart=>exact⟨0,[],Nat.zero_le _,rfl,HL0,rfl⟩
 case round=>
  clear HL0;obtain⟨i,hs,hi,rfl,HR,HD⟩:=hrel;by_cases hin:i<n
  ·obtain⟨x,hx⟩:∃x,H[i]? =some x:=⟨H[i]'(by omega),List.getElem?_eq_getElem _⟩;have HX:=Lib.hid hx;have hxm:=List.mem_of_getElem? hx;obtain⟨b,off,rfl,hb,hcell⟩:=(HS.out.keep (HR.out.bel.mono hB) (Nat.le_refl _)).at_ (by omega);obtain⟨k0,k1,k2⟩:=hcell i x hx;obtain⟨hsa,hac,ham⟩:=HS.out.ar x hxm;obtain⟨hsf,hfc,hfm,hfn⟩:=HS.out.fr x hxm;have hbs:=HR.out.bel.size;have hbw:b<wr.heap.size:=by omega
   have hi2:(i:Int)<(n:Int):=by omega
   obtain⟨ma,hma⟩:∃m,x.d.arcs.length=m:=⟨_,rfl⟩;obtain⟨mf,hmf⟩:∃m,x.d.free.length=m:=⟨_,rfl⟩;rw[hma]at k1 hsa ham;rw[hmf]at k2 hsf hfm hfn;have HMM:=Lib.hid (And.intro hma hmf);obtain⟨b0,hb0⟩:∃k,wr.heap.size=k:=⟨_,rfl⟩;obtain⟨W1,hW⟩:∃W1,wr.alloc (.cells #[.bool x.d.fin,.slice x.A ma x.c,.slice x.F mf x.e] 134)=W1:=⟨_,rfl⟩;have hba:=bnew (za0 wr) (.cells #[.bool x.d.fin,.slice x.A ma x.c,.slice x.F mf x.e] 134);have hnew:=heap_alloc_new wr (.cells #[.bool x.d.fin,.slice x.A ma x.c,.slice x.F mf x.e] 134);have hsz:(wr.alloc (.cells #[.bool x.d.fin,.slice x.A ma x.c,.slice x.F mf x.e] 134)).heap.size=wr.heap.size+1:=by simp
   rw[hW]at hba hnew hsz;rw[hb0]at hnew hsz hba hbw;have HBW:Hid (Below wr.heap.size wr W1):=by rw[hb0];exact hba
   have hW1:wr.heap.size≤W1.heap.size:=by omega
   have s0:=cell_of_row _ b0 0 _ _ (0,0) hnew;have s1:=cell_of_row _ b0 1 _ _ (0,0) hnew;have s2:=cell_of_row _ b0 2 _ _ (0,0) hnew;simp at s0 s1 s2
   have HSK:Hid (∀W',Below W1.heap.size W1 W'→W'.cell? ⟨b0,0,none⟩=some (.bool x.d.fin)∧W'.cell? ⟨b0,1,none⟩=some (.slice x.A ma x.c)∧W'.cell? ⟨b0,2,none⟩=some (.slice x.F mf x.e)):=fun W' hb'=>⟨(hb'.cell (p:=⟨b0,0,none⟩) (by show b0<_;omega)).trans s0,(hb'.cell (p:=⟨b0,1,none⟩) (by show b0<_;omega)).trans s1,(hb'.cell (p:=⟨b0,2,none⟩) (by show b0<_;omega)).trans s2⟩
   have HNE:Hid (some b0≠v0.ownBlock∨True):=.inr trivial;have HSA:Hid (Sl W1 W1.heap.size 3 x.A ma (zaa x.d.arcs)):=((hsa.below ((HR.out.bel.trans (HBW.out.mono hbs)).mono hB)).more (by omega));have HSF:Hid (Sl W1 W1.heap.size 1 x.F mf (x.d.free.map (.int .i64))):=((hsf.below ((HR.out.bel.trans (HBW.out.mono hbs)).mono hB)).more (by omega));have HNA:Hid (x.A=none→ma=0):=fun h=>hsa.none_ h
   have HNF:Hid (x.F=none→mf=0):=hfn;have HSG:Hid (∀W',Below W1.heap.size W1 W'→∀W'',W'.grownBy W'' u11.ownBlock→W''.cell? ⟨b0,0,none⟩=some (.bool x.d.fin)∧W''.cell? ⟨b0,1,none⟩=some (.slice x.A ma x.c)∧W''.cell? ⟨b0,2,none⟩=some (.slice x.F mf x.e)):=fun W' hb' W'' hg'=>by
    have hne:some b0≠u11.ownBlock:=fun e=>by
     have:=(HR.out.out.lt b0 e.symm).2;omega
    have hl:b0<W'.heap.size:=by have:=hb'.size;omega
    obtain⟨t0,t1,t2⟩:=HSK.out W' hb';exact⟨(World.cell?_of_block (w:=W') (hg'.block b0 hl hne)).trans t0,(World.cell?_of_block (w:=W') (hg'.block b0 hl hne)).trans t1,(World.cell?_of_block (w:=W') (hg'.block b0 hl hne)).trans t2⟩
   have hHN:=HR.out.len;clear hcell hx hsa hsf hfn hac hfc hma hmf hba hnew HNE;rw[←hb0]at hsz hbw;have hW1b:b0≤W1.heap.size:=by omega
   have hW1c:b0+1≤W1.heap.size:=by omega
   go_wp2_with fail;clear k0 k1 k2 hW s0 s1 s2 hsz;refine wp_region_held_drew (S:=fun w'=>w'.cell? ⟨b0,0,none⟩=some (.bool x.d.fin)∧w'.cell? ⟨b0,1,none⟩=some (.slice x.A ma x.c)∧w'.cell? ⟨b0,2,none⟩=some (.slice x.F mf x.e)) (by kernel_rfl) ?_ (fun hHeld=>?_)
   ·(try dsimp only);exact HSK.out _ ((Below.drew (za0 W1)))
   refine wpAnyH_take (i:=0) (v:=?_) rfl (by kernel_rfl) (by kernel_rfl) (by kernel_rfl) (fun c _ w h=>hQ0 c _ _ w (by rfl) h) (Or.inl ⟨by rfl,?_⟩) (by assumption) ?_;rotate_left
   ·intro w hSw;(try dsimp only at hSw);go_simp;(try with_reducible rfl)
   try simp only[Act.put,List.setIfInBounds_toArray]
   refine wpAnyH_take (i:=1) (v:=?_) rfl (by kernel_rfl) (by kernel_rfl) (by kernel_rfl) (fun c _ w h=>hQ0 c _ _ w (by rfl) h) (Or.inl ⟨by rfl,?_⟩) (by assumption) ?_;rotate_left
   ·intro w hSw;(try dsimp only at hSw);go_simp;(try with_reducible rfl)
   try simp only[Act.put]
   refine wpAnyH_take (i:=2) (v:=?_) rfl (by kernel_rfl) (by kernel_rfl) (by kernel_rfl) (fun c _ w h=>hQ0 c _ _ w (by rfl) h) (Or.inl ⟨by rfl,?_⟩) (by assumption) ?_;rotate_left
   ·intro w hSw;(try dsimp only at hSw);go_simp;(try with_reducible rfl)
   try simp only[Act.put]
   refine wpAnyH_take (i:=4) (v:=?_) rfl (by kernel_rfl) (by kernel_rfl) (by kernel_rfl) (fun c _ w h=>hQ0 c _ _ w (by rfl) h) (Or.inl ⟨by rfl,?_⟩) (by assumption) ?_;rotate_left
   ·intro w hSw;(try dsimp only at hSw);go_simp;(try with_reducible rfl)
   try simp only[Act.put]
   refine wpAnyH_take (i:=5) (v:=?_) rfl (by kernel_rfl) (by kernel_rfl) (by kernel_rfl) (fun c _ w h=>hQ0 c _ _ w (by rfl) h) (Or.inl ⟨by rfl,?_⟩) (by assumption) ?_;rotate_left
   ·intro w hSw;(try dsimp only at hSw);go_simp;(try with_reducible rfl)
   try simp only[Act.put]
   refine wpAnyH_take (i:=8) (v:=?_) rfl (by kernel_rfl) (by kernel_rfl) (by kernel_rfl) (fun c _ w h=>hQ0 c _ _ w (by rfl) h) (Or.inl ⟨by rfl,?_⟩) (by assumption) ?_;rotate_left
   ·intro w hSw;(try dsimp only at hSw);go_simp;(try with_reducible rfl)
   try simp only[Act.put]
   refine wpAnyH_take (i:=9) (v:=?_) rfl (by kernel_rfl) (by kernel_rfl) (by kernel_rfl) (fun c _ w h=>hQ0 c _ _ w (by rfl) h) (Or.inl ⟨by rfl,?_⟩) (by assumption) ?_;rotate_left
   ·intro w hSw;(try dsimp only at hSw);go_simp;(try with_reducible rfl)
   try simp only[Act.put]
   refine wpAnyH_ready (rs:=[3,7]) (by kernel_rfl) (by simp) ?_;refine AllReadyH.cons rfl (fun K hK=>?_) (AllReadyH.cons rfl (fun K hK=>?_) (AllReadyH.nil))
   ·skip
    go_simp
    refine hK.out _ _ ?_ (fun hHeld=>?_)
    ·(try dsimp only);exact HSK.out _ ((bnew (Below.drew (za0 W1)) (.cells #[] 76)))
    clear hK K;try simp only[Act.put,List.setIfInBounds_toArray,List.set_cons_zero,List.set_cons_succ]
    refine wpAnyH_ready (rs:=[6,7]) (by kernel_rfl) (by simp) ?_;refine AllReadyH.cons rfl (fun K hK=>?_) (AllReadyH.cons rfl (fun K hK=>?_) (AllReadyH.nil))
    ·skip
     refine zg5 (base:=b0) _ (by rfl) (.tmp 30) (.tmp 32) _ (by rfl) zhi _ 0 [] (by rfl) (zc1 (base:=b0) W1.drew 76 3 rfl (by show b0≤W1.heap.size;omega)) (by rfl) (HSA.out.below (bnew (Below.drew (za0 W1)) (.cells #[] 76))) HNA.out (zm6 x.d.arcs) (by unfold maxLen;omega) (by omega) (by first|omega|(simp;omega)) ?_;intro v6 w6 ho6 hg6 hor6
     rw[Nat.zero_add,List.nil_append]at ho6;obtain⟨A6,c6,rfl,_⟩:=za1 ho6;have HB6:Hid (Below W1.heap.size W1 w6):=Below.grown (bnew (Below.drew (za0 W1)) (.cells #[] 76)) hg6 (Below.size (bnew (Below.drew (za0 W1)) (.cells #[] 76))) (fun r hr=>by injection hr with hr;simp at hr;omega);have hb6:=HB6.out.size;have HO6:=Lib.hid ho6;clear ho6 hor6;clear hg6;refine hK.out _ _ ?_ (fun hHeld=>?_)
     ·(try dsimp only);exact HSK.out _ (HB6.out)
     clear hK K;try simp only[Act.put,List.setIfInBounds_toArray]
     refine wpAnyH_ready (rs:=[7]) (by kernel_rfl) (by simp) ?_;refine AllReadyH.cons rfl (fun K hK=>?_) (AllReadyH.nil);go_simp
     refine hK.out _ _ ?_ (fun hHeld=>?_)
     ·(try dsimp only);exact HSK.out _ ((bnew HB6.out (.cells #[] 3)))
     clear hK K;try simp only[Act.put,List.setIfInBounds_toArray,List.set_cons_zero,List.set_cons_succ]
     refine wpAnyH_ready (rs:=[10]) (by kernel_rfl) (by simp) ?_;refine AllReadyH.cons rfl (fun K hK=>?_) (AllReadyH.nil);refine zg5 (base:=b0) _ (by rfl) (.tmp 34) (.tmp 36) _ (by rfl) zf3 _ 0 [] (by rfl) (zc1 (base:=b0) w6 3 1 rfl (by omega)) (by rfl) (HSF.out.below (bnew HB6.out (.cells #[] 3))) HNF.out (zlk x.d.free) (by unfold maxLen;omega) (by omega) (by first|omega|(simp;omega)) ?_;intro v10 w10 ho10 hg10 hor10
     rw[Nat.zero_add,List.nil_append]at ho10;obtain⟨A10,c10,rfl,_⟩:=za1 ho10;have HB10:Hid (Below W1.heap.size W1 w10):=Below.grown (bnew HB6.out (.cells #[] 3)) hg10 (Below.size (bnew HB6.out (.cells #[] 3))) (fun r hr=>by injection hr with hr;simp at hr;omega);have hb10:=HB10.out.size;have HO10:=Lib.hid ho10;have HOA:Hid (w10.ownsRow b0 76 3 (.slice A6 ma c6) ma (zaa x.d.arcs)):=World.ownsRow.kept (za2 HO6.out (bnew (za0 w6) (.cells #[] 3))) hg10 (za4 (zc1 (base:=b0) w6 3 1 rfl (by omega)) (za2 HO6.out (bnew (za0 w6) (.cells #[] 3))) (by decide));clear ho10 hor10 hg10;refine hK.out _ _ ?_ (fun hHeld=>?_)
     ·(try dsimp only);exact HSK.out _ (HB10.out)
     clear hK K;try simp only[Act.put,List.setIfInBounds_toArray]
     refine wpAnyH_take (i:=11) (v:=?_) rfl (by kernel_rfl) (by kernel_rfl) (by kernel_rfl) (fun c _ w h=>hQ0 c _ _ w (by rfl) h) (Or.inl ⟨by rfl,?_⟩) (by assumption) ?_;rotate_left
     ·intro w hSw;(try dsimp only at hSw);go_simp;(try with_reducible rfl)
     try simp only[Act.put]
     refine wpAnyH_ready (rs:=[12]) (by kernel_rfl) (by simp) ?_;refine AllReadyH.cons rfl (fun K hK=>?_) (AllReadyH.nil);go_simp
     refine hK.out _ _ ?_ (fun hHeld=>?_)
     ·(try dsimp only);exact HSK.out _ (bnew HB10.out (.cells #[.bool x.d.fin,.slice A6 ma c6,.slice A10 mf c10] 134))
     clear hK K;try simp only[Act.put,List.setIfInBounds_toArray,List.set_cons_zero,List.set_cons_succ]
     refine wpAnyH_ready (rs:=[13]) (by kernel_rfl) (by simp) ?_;refine AllReadyH.cons rfl (fun K hK=>?_) (AllReadyH.nil);have hb0w:=hb10;have HOW:=Lib.hid (za2 HR.out.out (Below.trans HBW.out ((Below.mono (bnew HB10.out (.cells #[.bool x.d.fin,.slice A6 ma c6,.slice A10 mf c10] 134)) hW1))));have HBB:=Lib.hid (Below.trans HR.out.bel ((Below.mono (Below.trans HBW.out (Below.mono (bnew HB10.out (.cells #[.bool x.d.fin,.slice A6 ma c6,.slice A10 mf c10] 134)) hW1)) HR.out.bel.size)));refine zlc w _ _ (by rfl) (.tmp 27) (.tmp 39) _ (by rfl) znb _ _ _ (by rfl) HOW.out (m:=1) (by rfl) (heap_alloc_new _ _) (by rfl) (by simp[Value.oneCell']) (by omega) (by unfold maxLen;omega) (by omega) HBB.out.size HBB.out ?_;intro g9 c9 w9 hown9 hb9 hg9
     have HG9:=Lib.hid hg9;have HOW9:=Lib.hid hown9;clear hown9 hb9 hg9;refine hK.out _ _ ?_ (fun hHeld=>?_)
     ·(try dsimp only);exact HSG.out _ (bnew HB10.out (.cells #[.bool x.d.fin,.slice A6 ma c6,.slice A10 mf c10] 134)) _ HG9.out
     clear hK K;try simp only[Act.put,List.setIfInBounds_toArray]
     refine wpAnyH_take (i:=14) (v:=?_) rfl (by kernel_rfl) (by kernel_rfl) (by kernel_rfl) (fun c _ w h=>hQ0 c _ _ w (by rfl) h) (Or.inl ⟨by rfl,?_⟩) (by assumption) ?_;rotate_left
     ·intro w hSw;(try dsimp only at hSw);go_simp;(try with_reducible rfl)
     try simp only[Act.put]
     refine wpAnyH_done (by kernel_rfl) ?_ _;have HFIN:Hid (LoR w w9 (.slice (some ⟨g9,0,none⟩) (i+1) c9) (i+1) (hs++[⟨x.d,A6,c6,A10,c10⟩])):=by
      refine HR.out.push (x:=⟨x.d,A6,c6,A10,c10⟩) (HBW.out.trans ((bnew HB10.out (.cells #[.bool x.d.fin,.slice A6 ma c6,.slice A10 mf c10] 134)).mono hW1)) ?_ ?_ HG9.out ?_
      ·show World.ownsRow _ _ _ _ (.slice A6 x.d.arcs.length c6) x.d.arcs.length _;rw[HMM.out.1,hb0];exact za2 HOA.out (bnew (za0 _) _)
      ·show World.ownsRow _ _ _ _ (.slice A10 x.d.free.length c10) x.d.free.length _;rw[HMM.out.2,hb0];exact za2 HO10.out (bnew (za0 _) _)
      ·have e:(⟨x.d,A6,c6,A10,c10⟩:Lsh).hdr=[.bool x.d.fin,.slice A6 ma c6,.slice A10 mf c10]:=by unfold Lsh.hdr;rw[HMM.out.1,HMM.out.2]
       rw[e];exact HOW9.out
     have HDN:Hid ((hs++[(⟨x.d,A6,c6,A10,c10⟩:Lsh)]).map (·.d)=(H.map (·.d)).take (i+1)):=by
      show _=_;rw[List.map_append,HD.out,List.take_add_one,List.getElem?_map,HX.out];rfl
     clear HG9 HOW9 HOW HBB HOA HO10 HO6 HB10 HB6 HR HD;go_wp2_with fail;go_roundw;case rel=>exact⟨i+1,_,by omega,by go_num,HFIN,HDN⟩
     case measure=>simp[intOf];omega
    ·skip
     go_simp
     refine hK.out _ _ ?_ (fun hHeld=>?_)
     ·(try dsimp only);exact HSK.out _ ((bnew (bnew (Below.drew (za0 W1)) (.cells #[] 76)) (.cells #[] 3)))
     clear hK K;try simp only[Act.put,List.setIfInBounds_toArray,List.set_cons_zero,List.set_cons_succ]
     refine wpAnyH_ready (rs:=[6]) (by kernel_rfl) (by simp) ?_;refine AllReadyH.cons rfl (fun K hK=>?_) (AllReadyH.nil);refine zg5 (base:=b0) _ (by rfl) (.tmp 30) (.tmp 32) _ (by rfl) zhi _ 0 [] (by rfl) (za2 (zc1 (base:=b0) W1.drew 76 3 rfl (by show b0≤W1.heap.size;omega)) (bnew (za0 _) (.cells #[] 3))) (by rfl) (HSA.out.below (bnew (bnew (Below.drew (za0 W1)) (.cells #[] 76)) (.cells #[] 3))) HNA.out (zm6 x.d.arcs) (by unfold maxLen;omega) (by omega) (by first|omega|(simp;omega)) ?_;intro v6 w6 ho6 hg6 hor6
     rw[Nat.zero_add,List.nil_append]at ho6;obtain⟨A6,c6,rfl,_⟩:=za1 ho6;have HB6:Hid (Below W1.heap.size W1 w6):=Below.grown (bnew (bnew (Below.drew (za0 W1)) (.cells #[] 76)) (.cells #[] 3)) hg6 (Below.size (bnew (bnew (Below.drew (za0 W1)) (.cells #[] 76)) (.cells #[] 3))) (fun r hr=>by injection hr with hr;simp at hr;omega);have hb6:=HB6.out.size;have HO6:=Lib.hid ho6;have HOI:Hid (w6.ownsRow b0 3 1 (.slice (some ⟨W1.heap.size+1,0,none⟩) 0 0) 0 []):=World.ownsRow.kept (zc1 (base:=b0) (W1.drew.alloc (.cells #[] 76)) 3 1 (by simp) (by simp;omega)) hg6 (za4 (za2 (zc1 (base:=b0) W1.drew 76 3 rfl (by show b0≤W1.heap.size;omega)) (bnew (za0 _) (.cells #[] 3))) (zc1 (base:=b0) (W1.drew.alloc (.cells #[] 76)) 3 1 (by simp) (by simp;omega)) (by decide));clear ho6 hor6;clear hg6;refine hK.out _ _ ?_ (fun hHeld=>?_)
     ·(try dsimp only);exact HSK.out _ (HB6.out)
     clear hK K;try simp only[Act.put,List.setIfInBounds_toArray]
     refine wpAnyH_ready (rs:=[10]) (by kernel_rfl) (by simp) ?_;refine AllReadyH.cons rfl (fun K hK=>?_) (AllReadyH.nil);refine zg5 (base:=b0) _ (by rfl) (.tmp 34) (.tmp 36) _ (by rfl) zf3 _ 0 [] (by rfl) (HOI.out) (by rfl) (HSF.out.below HB6.out) HNF.out (zlk x.d.free) (by unfold maxLen;omega) (by omega) (by first|omega|(simp;omega)) ?_;intro v10 w10 ho10 hg10 hor10
     rw[Nat.zero_add,List.nil_append]at ho10;obtain⟨A10,c10,rfl,_⟩:=za1 ho10;have HB10:Hid (Below W1.heap.size W1 w10):=Below.grown HB6.out hg10 (Below.size HB6.out) (fun r hr=>by injection hr with hr;simp at hr;omega);have hb10:=HB10.out.size;have HO10:=Lib.hid ho10;have HOA:Hid (w10.ownsRow b0 76 3 (.slice A6 ma c6) ma (zaa x.d.arcs)):=World.ownsRow.kept (HO6.out) hg10 (za4 (HOI.out) (HO6.out) (by decide));clear ho10 hor10 hg10;refine hK.out _ _ ?_ (fun hHeld=>?_)
     ·(try dsimp only);exact HSK.out _ (HB10.out)
     clear hK K;try simp only[Act.put]
     refine wpAnyH_take (i:=11) (v:=?_) rfl (by kernel_rfl) (by kernel_rfl) (by kernel_rfl) (fun c _ w h=>hQ0 c _ _ w (by rfl) h) (Or.inl ⟨by rfl,?_⟩) (by assumption) ?_;rotate_left
     ·intro w hSw;(try dsimp only at hSw);go_simp;(try with_reducible rfl)
     try simp only[Act.put]
     refine wpAnyH_ready (rs:=[12]) (by kernel_rfl) (by simp) ?_;refine AllReadyH.cons rfl (fun K hK=>?_) (AllReadyH.nil);go_simp
     refine hK.out _ _ ?_ (fun hHeld=>?_)
     ·(try dsimp only);exact HSK.out _ (bnew HB10.out (.cells #[.bool x.d.fin,.slice A6 ma c6,.slice A10 mf c10] 134))
     clear hK K;try simp only[Act.put,List.setIfInBounds_toArray,List.set_cons_zero,List.set_cons_succ]
     refine wpAnyH_ready (rs:=[13]) (by kernel_rfl) (by simp) ?_;refine AllReadyH.cons rfl (fun K hK=>?_) (AllReadyH.nil);have hb0w:=hb10;have HOW:=Lib.hid (za2 HR.out.out (Below.trans HBW.out ((Below.mono (bnew HB10.out (.cells #[.bool x.d.fin,.slice A6 ma c6,.slice A10 mf c10] 134)) hW1))));have HBB:=Lib.hid (Below.trans HR.out.bel ((Below.mono (Below.trans HBW.out (Below.mono (bnew HB10.out (.cells #[.bool x.d.fin,.slice A6 ma c6,.slice A10 mf c10] 134)) hW1)) HR.out.bel.size)));refine zlc w _ _ (by rfl) (.tmp 27) (.tmp 39) _ (by rfl) znb _ _ _ (by rfl) HOW.out (m:=1) (by rfl) (heap_alloc_new _ _) (by rfl) (by simp[Value.oneCell']) (by omega) (by unfold maxLen;omega) (by omega) HBB.out.size HBB.out ?_;intro g9 c9 w9 hown9 hb9 hg9
     have HG9:=Lib.hid hg9;have HOW9:=Lib.hid hown9;clear hown9 hb9 hg9;refine hK.out _ _ ?_ (fun hHeld=>?_)
     ·(try dsimp only);exact HSG.out _ (bnew HB10.out (.cells #[.bool x.d.fin,.slice A6 ma c6,.slice A10 mf c10] 134)) _ HG9.out
     clear hK K;try simp only[Act.put,List.setIfInBounds_toArray]
     refine wpAnyH_take (i:=14) (v:=?_) rfl (by kernel_rfl) (by kernel_rfl) (by kernel_rfl) (fun c _ w h=>hQ0 c _ _ w (by rfl) h) (Or.inl ⟨by rfl,?_⟩) (by assumption) ?_;rotate_left
     ·intro w hSw;(try dsimp only at hSw);go_simp;(try with_reducible rfl)
     try simp only[Act.put]
     refine wpAnyH_done (by kernel_rfl) ?_ _;have HFIN:Hid (LoR w w9 (.slice (some ⟨g9,0,none⟩) (i+1) c9) (i+1) (hs++[⟨x.d,A6,c6,A10,c10⟩])):=by
      refine HR.out.push (x:=⟨x.d,A6,c6,A10,c10⟩) (HBW.out.trans ((bnew HB10.out (.cells #[.bool x.d.fin,.slice A6 ma c6,.slice A10 mf c10] 134)).mono hW1)) ?_ ?_ HG9.out ?_
      ·show World.ownsRow _ _ _ _ (.slice A6 x.d.arcs.length c6) x.d.arcs.length _;rw[HMM.out.1,hb0];exact za2 HOA.out (bnew (za0 _) _)
      ·show World.ownsRow _ _ _ _ (.slice A10 x.d.free.length c10) x.d.free.length _;rw[HMM.out.2,hb0];exact za2 HO10.out (bnew (za0 _) _)
      ·have e:(⟨x.d,A6,c6,A10,c10⟩:Lsh).hdr=[.bool x.d.fin,.slice A6 ma c6,.slice A10 mf c10]:=by unfold Lsh.hdr;rw[HMM.out.1,HMM.out.2]
       rw[e];exact HOW9.out
     have HDN:Hid ((hs++[(⟨x.d,A6,c6,A10,c10⟩:Lsh)]).map (·.d)=(H.map (·.d)).take (i+1)):=by
      show _=_;rw[List.map_append,HD.out,List.take_add_one,List.getElem?_map,HX.out];rfl
     clear HG9 HOW9 HOW HBB HOA HO10 HO6 HB10 HB6 HR HD;go_wp2_with fail;go_roundw;case rel=>exact⟨i+1,_,by omega,by go_num,HFIN,HDN⟩
     case measure=>simp[intOf];omega
   ·skip
    go_simp
    refine hK.out _ _ ?_ (fun hHeld=>?_)
    ·(try dsimp only);exact HSK.out _ ((bnew (Below.drew (za0 W1)) (.cells #[] 3)))
    clear hK K;try simp only[Act.put,List.setIfInBounds_toArray,List.set_cons_zero,List.set_cons_succ]
    refine wpAnyH_ready (rs:=[3]) (by kernel_rfl) (by simp) ?_;refine AllReadyH.cons rfl (fun K hK=>?_) (AllReadyH.nil);go_simp
    refine hK.out _ _ ?_ (fun hHeld=>?_)
    ·(try dsimp only);exact HSK.out _ ((bnew (bnew (Below.drew (za0 W1)) (.cells #[] 3)) (.cells #[] 76)))
    clear hK K;try simp only[Act.put,List.setIfInBounds_toArray,List.set_cons_zero,List.set_cons_succ]
    refine wpAnyH_ready (rs:=[6]) (by kernel_rfl) (by simp) ?_;refine AllReadyH.cons rfl (fun K hK=>?_) (AllReadyH.nil);refine zg5 (base:=b0) _ (by rfl) (.tmp 30) (.tmp 32) _ (by rfl) zhi _ 0 [] (by rfl) (zc1 (base:=b0) (W1.drew.alloc (.cells #[] 3)) 76 3 (by simp) (by simp;omega)) (by rfl) (HSA.out.below (bnew (bnew (Below.drew (za0 W1)) (.cells #[] 3)) (.cells #[] 76))) HNA.out (zm6 x.d.arcs) (by unfold maxLen;omega) (by omega) (by first|omega|(simp;omega)) ?_;intro v6 w6 ho6 hg6 hor6
    rw[Nat.zero_add,List.nil_append]at ho6;obtain⟨A6,c6,rfl,_⟩:=za1 ho6;have HB6:Hid (Below W1.heap.size W1 w6):=Below.grown (bnew (bnew (Below.drew (za0 W1)) (.cells #[] 3)) (.cells #[] 76)) hg6 (Below.size (bnew (bnew (Below.drew (za0 W1)) (.cells #[] 3)) (.cells #[] 76))) (fun r hr=>by injection hr with hr;simp at hr;omega);have hb6:=HB6.out.size;have HO6:=Lib.hid ho6;have HOI:Hid (w6.ownsRow b0 3 1 (.slice (some ⟨W1.heap.size,0,none⟩) 0 0) 0 []):=World.ownsRow.kept (za2 (zc1 (base:=b0) W1.drew 3 1 rfl (by show b0≤W1.heap.size;omega)) (bnew (za0 _) (.cells #[] 76))) hg6 (za4 (zc1 (base:=b0) (W1.drew.alloc (.cells #[] 3)) 76 3 (by simp) (by simp;omega)) (za2 (zc1 (base:=b0) W1.drew 3 1 rfl (by show b0≤W1.heap.size;omega)) (bnew (za0 _) (.cells #[] 76))) (by decide));clear ho6 hor6;clear hg6;refine hK.out _ _ ?_ (fun hHeld=>?_)
    ·(try dsimp only);exact HSK.out _ (HB6.out)
    clear hK K;try simp only[Act.put,List.setIfInBounds_toArray]
    refine wpAnyH_ready (rs:=[10]) (by kernel_rfl) (by simp) ?_;refine AllReadyH.cons rfl (fun K hK=>?_) (AllReadyH.nil);refine zg5 (base:=b0) _ (by rfl) (.tmp 34) (.tmp 36) _ (by rfl) zf3 _ 0 [] (by rfl) (HOI.out) (by rfl) (HSF.out.below HB6.out) HNF.out (zlk x.d.free) (by unfold maxLen;omega) (by omega) (by first|omega|(simp;omega)) ?_;intro v10 w10 ho10 hg10 hor10
    rw[Nat.zero_add,List.nil_append]at ho10;obtain⟨A10,c10,rfl,_⟩:=za1 ho10;have HB10:Hid (Below W1.heap.size W1 w10):=Below.grown HB6.out hg10 (Below.size HB6.out) (fun r hr=>by injection hr with hr;simp at hr;omega);have hb10:=HB10.out.size;have HO10:=Lib.hid ho10;have HOA:Hid (w10.ownsRow b0 76 3 (.slice A6 ma c6) ma (zaa x.d.arcs)):=World.ownsRow.kept (HO6.out) hg10 (za4 (HOI.out) (HO6.out) (by decide));clear ho10 hor10 hg10;refine hK.out _ _ ?_ (fun hHeld=>?_)
    ·(try dsimp only);exact HSK.out _ (HB10.out)
    clear hK K;try simp only[Act.put]
    refine wpAnyH_take (i:=11) (v:=?_) rfl (by kernel_rfl) (by kernel_rfl) (by kernel_rfl) (fun c _ w h=>hQ0 c _ _ w (by rfl) h) (Or.inl ⟨by rfl,?_⟩) (by assumption) ?_;rotate_left
    ·intro w hSw;(try dsimp only at hSw);go_simp;(try with_reducible rfl)
    try simp only[Act.put]
    refine wpAnyH_ready (rs:=[12]) (by kernel_rfl) (by simp) ?_;refine AllReadyH.cons rfl (fun K hK=>?_) (AllReadyH.nil);go_simp
    refine hK.out _ _ ?_ (fun hHeld=>?_)
    ·(try dsimp only);exact HSK.out _ (bnew HB10.out (.cells #[.bool x.d.fin,.slice A6 ma c6,.slice A10 mf c10] 134))
    clear hK K;try simp only[Act.put,List.setIfInBounds_toArray,List.set_cons_zero,List.set_cons_succ]
    refine wpAnyH_ready (rs:=[13]) (by kernel_rfl) (by simp) ?_;refine AllReadyH.cons rfl (fun K hK=>?_) (AllReadyH.nil);have hb0w:=hb10;have HOW:=Lib.hid (za2 HR.out.out (Below.trans HBW.out ((Below.mono (bnew HB10.out (.cells #[.bool x.d.fin,.slice A6 ma c6,.slice A10 mf c10] 134)) hW1))));have HBB:=Lib.hid (Below.trans HR.out.bel ((Below.mono (Below.trans HBW.out (Below.mono (bnew HB10.out (.cells #[.bool x.d.fin,.slice A6 ma c6,.slice A10 mf c10] 134)) hW1)) HR.out.bel.size)));refine zlc w _ _ (by rfl) (.tmp 27) (.tmp 39) _ (by rfl) znb _ _ _ (by rfl) HOW.out (m:=1) (by rfl) (heap_alloc_new _ _) (by rfl) (by simp[Value.oneCell']) (by omega) (by unfold maxLen;omega) (by omega) HBB.out.size HBB.out ?_;intro g9 c9 w9 hown9 hb9 hg9
    have HG9:=Lib.hid hg9;have HOW9:=Lib.hid hown9;clear hown9 hb9 hg9;refine hK.out _ _ ?_ (fun hHeld=>?_)
    ·(try dsimp only);exact HSG.out _ (bnew HB10.out (.cells #[.bool x.d.fin,.slice A6 ma c6,.slice A10 mf c10] 134)) _ HG9.out
    clear hK K;try simp only[Act.put,List.setIfInBounds_toArray]
    refine wpAnyH_take (i:=14) (v:=?_) rfl (by kernel_rfl) (by kernel_rfl) (by kernel_rfl) (fun c _ w h=>hQ0 c _ _ w (by rfl) h) (Or.inl ⟨by rfl,?_⟩) (by assumption) ?_;rotate_left
    ·intro w hSw;(try dsimp only at hSw);go_simp;(try with_reducible rfl)
    try simp only[Act.put]
    refine wpAnyH_done (by kernel_rfl) ?_ _;have HFIN:Hid (LoR w w9 (.slice (some ⟨g9,0,none⟩) (i+1) c9) (i+1) (hs++[⟨x.d,A6,c6,A10,c10⟩])):=by
     refine HR.out.push (x:=⟨x.d,A6,c6,A10,c10⟩) (HBW.out.trans ((bnew HB10.out (.cells #[.bool x.d.fin,.slice A6 ma c6,.slice A10 mf c10] 134)).mono hW1)) ?_ ?_ HG9.out ?_
     ·show World.ownsRow _ _ _ _ (.slice A6 x.d.arcs.length c6) x.d.arcs.length _;rw[HMM.out.1,hb0];exact za2 HOA.out (bnew (za0 _) _)
     ·show World.ownsRow _ _ _ _ (.slice A10 x.d.free.length c10) x.d.free.length _;rw[HMM.out.2,hb0];exact za2 HO10.out (bnew (za0 _) _)
     ·have e:(⟨x.d,A6,c6,A10,c10⟩:Lsh).hdr=[.bool x.d.fin,.slice A6 ma c6,.slice A10 mf c10]:=by unfold Lsh.hdr;rw[HMM.out.1,HMM.out.2]
      rw[e];exact HOW9.out
    have HDN:Hid ((hs++[(⟨x.d,A6,c6,A10,c10⟩:Lsh)]).map (·.d)=(H.map (·.d)).take (i+1)):=by
     show _=_;rw[List.map_append,HD.out,List.take_add_one,List.getElem?_map,HX.out];rfl
    clear HG9 HOW9 HOW HBB HOA HO10 HO6 HB10 HB6 HR HD;go_wp2_with fail;go_roundw;case rel=>exact⟨i+1,_,by omega,by go_num,HFIN,HDN⟩
    case measure=>simp[intOf];omega
  ·obtain rfl:i=n:=by omega
   have HDE:Hid (hs.map (·.d)=H.map (·.d)):=by
    have h1:=HD.out;rw[List.take_of_length_le (by rw[List.length_map,hlen];exact Nat.le_refl _)]at h1;exact h1
   go_wp2_with fail;exact hexit _ hs wr _ _ _ _ _ _ _ _ _ _ _ _ _ _ _ _ _ _ _ _ HR HDE
end
end Go.Proofs.YtaociahafamncaaGreatDoor
