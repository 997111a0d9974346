/- Folded. -/
import Derived.Test.YtaociahafamncaaGreatDoorHW17
set_option maxRecDepth 100000
set_option maxHeartbeats 40000000
set_option linter.unusedVariables false
namespace Go.Proofs.YtaociahafamncaaGreatDoor
section
open Go.RowKit Go.Maps
open F (Ent Nd Nh gath gath_s Fine byteAt DictAt waysC wayC allE)
theorem fr_all{ds:List Nd}(hf:Fine ds)(s:List UInt8)(base:Int)(hn:ds≠[]):frE ds s ds.length (ds.length-1) [] base true=(allE ds base).filter fun e=> !decide (e.1<s):=by
 rw[frE_tight hf s _ _ [] base s rfl];unfold F.allE;rw[if_neg hn]
def FromPost(k:List Ent→Bool)(I:List Ent→World→(Nat→Prop)→Prop)(W:World)(S:Nat→Prop)(R:List Ent×Bool):Ending→World→Prop:=fun e W'=>e=.returned (.tuple #[])∧∃S',I R.1 W' S'∧But S W W'∧∀b,S' b→S b∨W.heap.size≤b
theorem wfrom_nil(w:World)(t:ByteArray)(v:Value):Calls Tryz.prog 10 #[.pointer none,.string t,v] w fun e w'=>e=.returned (.tuple #[])∧Below w.heap.size w w':=by
 go_enter Tryz.func10,Tryz.ntmps10
 go_wp2_with fail;refine(F.root_nil _).mono ?_;rintro e w1 ⟨rfl,rfl⟩;go_wp2_with fail;go_end0
 exact⟨rfl,brefl _⟩
theorem func_neq(d:Nat)(fn:FuncId)(c:Array Value)(w:World):(Op.equalIn (d+1) 30 (.func (.func fn) #[] c) .nilFunc).run Tryz.prog w=.ok false w:=by
 simp[Op.equalIn,run_underlying Tryz.underlying30]
theorem func_there(fn:FuncId)(c:Array Value)(w:World):(binOp .neq 30 (.func (.func fn) #[] c) .nilFunc).run Tryz.prog w=.ok (.bool true) w:=by
 simp only[binOp];simp[Op.equal,Op.maxDepth,func_neq 9999]
theorem wfrom_any(w0:World)(p B n c:Nat)(A:Option Addr)(base cnt:Int)(hs:List Nh)(hd:DictAt w0 p B A n c base cnt hs)(hf:Fine (hs.map (·.d)))(hwl:∀x∈hs,x.d.ways.length≤65536)(N:Nat)(hN:w0.heap.size=N)(fn:FuncId)(P1 P2:Addr)(k:List Ent→Bool)(I:List Ent→World→(Nat→Prop)→Prop)(hY:Yield N fn P1 P2 k I)(hE:∀(args:Array Value) (w:World),(callFunc fn args).run Tryz.prog w=.ok (.enter fn args) w)(s:List UInt8)(hsl:s.length≤1125899906842624)(W:World)(S:Nat→Prop)(h:List Ent)(hI:I h W S)(hb:Below N w0 W)(hn:n≤1125899906842624)(L:List Ent)(hL:L=(allE (hs.map (·.d)) base).filter fun e=> !decide (e.1<s))(hl:(h++L).length≤1048576):
  Calls Tryz.prog 10 #[.pointer (some ⟨p,0,none⟩),.string ⟨s.toArray⟩,.func (.func fn) #[] #[.pointer (some P1),.pointer (some P2)]] W (FromPost k I W S (runY k h L)):=by
 have HR:=Lib.hid (F.root_any W p B n c A base cnt hs (hd.keep (by rw[hN];exact hb)));have hlen:=hd.len;have HY:=Lib.hid hY;have HI:=Lib.hid hI;have HB:=Lib.hid hb;have hNW:N≤W.heap.size:=by rw[←hN];exact hb.size
 by_cases h0:n=0
 ·subst h0;have hLe:L=[]:=by
   rw[hL];have:hs=[]:=List.eq_nil_of_length_eq_zero hlen;rw[this];rfl
  subst hLe;rw[if_pos rfl,if_pos rfl]at HR;clear hd hf hwl hN hE hL hl hlen hY hI hb;go_enter Tryz.func10,Tryz.ntmps10
  go_wp2_with fail;refine HR.out.mono ?_;rintro e w1 ⟨rfl,hb1⟩;have HB1:=Lib.hid hb1;clear hb1;go_wp2_with fail;go_end0
  exact⟨rfl,S,HY.out.keep _ _ _ _ HI.out HB1.out,But.of HB1.out,fun b hb=>.inl hb⟩
 ·rw[if_neg h0,if_neg h0]at HR;obtain⟨i,hi⟩:∃i:Nat,n=i+1:=⟨n-1,by omega⟩;have hLe:L=frE (hs.map (·.d)) s (i+1) i [] base true:=by
   have hne:hs.map (·.d)≠[]:=by
    intro e
    rw[List.map_eq_nil_iff]at e;rw[e]at hlen;exact h0 hlen.symm
   have:=fr_all hf s base hne;rw[List.length_map,hlen,hi]at this;rw[hL,←this];rfl
  rw[show(n:Int)-1=(i:Int) by omega]at HR;rw[hLe]at hl;have HF:=Lib.hid (fun W1 (hb1:Below W.heap.size W W1)=>from_any w0 p B n c A base cnt hs hd hf hwl N hN fn P1 P2 k I hY hE s hsl (i+1) i (by omega) (by omega) W1 S h [] base true (hY.keep _ _ _ _ hI hb1) (hb.trans (hb1.mono hNW)) (by simp;omega) hl);rw[←hLe]at HF;clear hd hf hwl hN hE hL hl hlen hY hI hb h0 hi hLe;have hfn:=func_there fn #[.pointer (some P1),.pointer (some P2)];go_enter Tryz.func10,Tryz.ntmps10
  go_wp2_with fail;refine HR.out.mono ?_;rintro e w1 ⟨rfl,hb1⟩;have HB1:=Lib.hid hb1;have HC:=Lib.hid (HF.out w1 hb1);clear hb1 HF;go_wp2_with fail;refine HC.out.mono ?_;rintro e w2 ⟨rfl,S2,hI2,hb2,hs2⟩;have HP:Hid (∃S',I (runY k h L).1 w2 S'∧But S W w2∧∀b,S' b→S b∨W.heap.size≤b):=⟨S2,hI2,(But.of HB1.out).trans hb2 fun _ hi=>.inl hi,fun b hb=>(hs2 b hb).elim .inl fun h=>.inr (Nat.le_trans HB1.out.size h)⟩;clear hI2 hb2 hs2 HC;go_wp2_with fail;go_end0
  exact⟨rfl,HP.out⟩
end
section
open Go.RowKit Go.Maps
open F (Ent Nd Nh gath gath_s Fine byteAt DictAt waysC wayC allE free_at)
def lastE(h:List Ent):Ent:=h.getLast?.getD ([],0)
def CeilI(N fb ob:Nat)(h:List Ent)(W:World)(S:Nat→Prop):Prop:=(∀b,S b↔b=fb∨b=ob)∧N≤fb∧N≤ob∧fb≠ob∧W.heap[fb]? =some (.cells #[.string ⟨(lastE h).1.toArray⟩,.int .i64 (lastE h).2] 29 (0,0))∧W.heap[ob]? =some (.cells #[.bool (!h.isEmpty)] 4 (0,0))
theorem lastE_snoc(h:List Ent)(e:Ent):lastE (h++[e])=e:=by simp[lastE]
theorem ceil_cl(W:World)(fb ob:Nat)(hne:fb≠ob)(f0 f1 o0:Value)(h1:W.heap[fb]? =some (.cells #[f0,f1] 29 (0,0)))(h2:W.heap[ob]? =some (.cells #[o0] 4 (0,0)))(e:Ent):
  Calls Tryz.prog 25 #[.agg #[.string ⟨e.1.toArray⟩,.int .i64 e.2],.pointer (some ⟨fb,0,none⟩),.pointer (some ⟨ob,0,none⟩)] W fun r W'=>r=.returned (.bool false)∧W'=(((W.setCell ⟨fb,0,none⟩ (.string ⟨e.1.toArray⟩)).setCell ⟨fb,1,none⟩ (.int .i64 e.2)).setCell ⟨ob,0,none⟩ (.bool true)).alloc (.cells #[.string ⟨e.1.toArray⟩,.int .i64 e.2] 29):=by
 obtain⟨t,z⟩:=e;have c0:=cell_of_row W fb 0 _ _ (0,0) h1;have c1:=cell_of_row W fb 1 _ _ (0,0) h1;have d0:=cell_of_row W ob 0 _ _ (0,0) h2;simp at c0 c1 d0
 have z0:=free_at h1 0;have z1:=free_at h1 1;have z2:=free_at h2 0;have l1:=(Array.getElem?_eq_some_iff.1 h1).1;have l2:=(Array.getElem?_eq_some_iff.1 h2).1;clear h1 h2;go_enter Tryz.func25,Tryz.ntmps25
 go_wp2_with fail;go_ret;exact⟨rfl,rfl⟩
theorem ceil_yield(N fb ob:Nat):Yield N 25 ⟨fb,0,none⟩ ⟨ob,0,none⟩ (fun _=>false) (CeilI N fb ob) where
 low:=by
  rintro h W S ⟨hS,h1,h2,_,h4,h5⟩ b hb;have l1:=(Array.getElem?_eq_some_iff.1 h4).1;have l2:=(Array.getElem?_eq_some_iff.1 h5).1;rcases(hS b).1 hb with rfl|rfl
  ·exact⟨h1,l1⟩
  ·exact⟨h2,l2⟩
 keep:=by
  rintro h W W' S ⟨hS,h1,h2,h3,h4,h5⟩ hb;exact⟨hS,h1,h2,h3,(hb.block _ (Array.getElem?_eq_some_iff.1 h4).1).trans h4,(hb.block _ (Array.getElem?_eq_some_iff.1 h5).1).trans h5⟩
 call:=by
  rintro h W S e ⟨hS,h1,h2,h3,h4,h5⟩ _;have l1:=(Array.getElem?_eq_some_iff.1 h4).1;have l2:=(Array.getElem?_eq_some_iff.1 h5).1;refine(ceil_cl W fb ob h3 _ _ _ h4 h5 e).mono ?_;rintro r W' ⟨rfl,rfl⟩;refine⟨rfl,S,⟨hS,h1,h2,h3,?_,?_⟩,⟨rfl,rfl,rfl,by simp,fun b hb hn=>?_⟩,fun b hb=>.inl hb⟩
  ·rw[Below.heap_alloc _ _ _ (by simpa using l1),Below.heap_setCell _ _ _ _ (by exact h3),lastE_snoc];have:=F.blk_set (j:=1) (F.blk_set (j:=0) h4 (.string ⟨e.1.toArray⟩)) (.int .i64 e.2);simpa using this
  ·rw[Below.heap_alloc _ _ _ (by simpa using l2)];have h6:((W.setCell ⟨fb,0,none⟩ (.string ⟨e.1.toArray⟩)).setCell ⟨fb,1,none⟩ (.int .i64 e.2)).heap[ob]? =some (.cells #[.bool (!h.isEmpty)] 4 (0,0)):=by
    rw[Below.heap_setCell _ _ _ _ (by exact h3.symm),Below.heap_setCell _ _ _ _ (by exact h3.symm)];exact h5
   have h7:=F.blk_set (j:=0) h6 (.bool true);have e1:(h++[e]).isEmpty=false:=by simp
   rw[e1];simpa using h7
  ·have hb1:b≠fb:=fun h=>hn ((hS b).2 (.inl h))
   have hb2:b≠ob:=fun h=>hn ((hS b).2 (.inr h))
   rw[Below.heap_alloc _ _ _ (by simpa using hb),Below.heap_setCell _ _ _ _ (by exact hb2),Below.heap_setCell _ _ _ _ (by exact hb1),Below.heap_setCell _ _ _ _ (by exact hb1)]
theorem runY_no(L:List Ent):(runY (fun _=>false) [] L).1=L.head?.toList:=by
 cases L<;>rfl
theorem wceil_any(w:World)(p B n c:Nat)(A:Option Addr)(base cnt:Int)(hs:List Nh)(hd:DictAt w p B A n c base cnt hs)(hf:Fine (hs.map (·.d)))(hwl:∀x∈hs,x.d.ways.length≤65536)(s:List UInt8)(hsl:s.length≤1125899906842624)(hn:n≤1125899906842624)(L:List Ent)(hL:L=(allE (hs.map (·.d)) base).filter fun e=> !decide (e.1<s))(hl:L.length≤1048576):
  Calls Tryz.prog 12 #[.pointer (some ⟨p,0,none⟩),.string ⟨s.toArray⟩] w fun e w'=>e=.returned (.tuple #[.agg #[.string ⟨(lastE L.head?.toList).1.toArray⟩,.int .i64 (lastE L.head?.toList).2],.bool (!L.isEmpty)])∧Below w.heap.size w w':=by
 have HE:∀(args:Array Value) (w:World),(callFunc 25 args).run Tryz.prog w=.ok (.enter 25 args) w:=enters_of Tryz.func25 (by kernel_rfl) rfl;obtain⟨fb,hfb⟩:∃k,w.heap.size+1=k:=⟨_,rfl⟩;have HF:=Lib.hid (fun W S hI hb=>wfrom_any w p B n c A base cnt hs hd hf hwl w.heap.size rfl 25 ⟨w.heap.size+1,0,none⟩ ⟨w.heap.size+1+1,0,none⟩ (fun _=>false) (CeilI w.heap.size (w.heap.size+1) (w.heap.size+1+1)) (ceil_yield _ _ _) HE s hsl W S [] hI hb hn L hL (by simpa using hl));obtain⟨⟨lt,lz⟩,hle⟩:∃x,lastE L.head?.toList=x:=⟨_,rfl⟩;obtain⟨ok,hok⟩:∃x,(!L.isEmpty)=x:=⟨_,rfl⟩;have hem:(!L.head?.toList.isEmpty)=ok:=by rw[←hok];cases L<;>rfl
 rw[hle,hok];have HLE:=Lib.hid hle;have HEM:=Lib.hid hem;clear HE hfb hd hf hwl hL hl hle hok hem;go_enter Tryz.func12,Tryz.ntmps12
 have HI:Hid (CeilI w.heap.size (w.heap.size+1) (w.heap.size+1+1) [] (((w.alloc (.cells #[.string ⟨#[]⟩,.int .i64 0] 29)).alloc (.cells #[.string ⟨#[]⟩,.int .i64 0] 29)).alloc (.cells #[.bool false] 4)) (fun b=>b=w.heap.size+1∨b=w.heap.size+1+1)):=by
  refine⟨fun _=>Iff.rfl,by omega,by omega,by omega,?_,?_⟩
  ·rw[Below.heap_alloc _ _ _ (by simp)];have:=heap_alloc_new (w.alloc (.cells #[.string ⟨#[]⟩,.int .i64 0] 29)) (.cells #[.string ⟨#[]⟩,.int .i64 0] 29);simpa[lastE]using this
  ·have:=heap_alloc_new ((w.alloc (.cells #[.string ⟨#[]⟩,.int .i64 0] 29)).alloc (.cells #[.string ⟨#[]⟩,.int .i64 0] 29)) (.cells #[.bool false] 4);simpa using this
 have HB:Hid (Below w.heap.size w (((w.alloc (.cells #[.string ⟨#[]⟩,.int .i64 0] 29)).alloc (.cells #[.string ⟨#[]⟩,.int .i64 0] 29)).alloc (.cells #[.bool false] 4))):=bnew (bnew (bnew (brefl w) _) _) _;have HR:Hid ((((w.alloc (.cells #[.string ⟨#[]⟩,.int .i64 0] 29)).alloc (.cells #[.string ⟨#[]⟩,.int .i64 0] 29)).alloc (.cells #[.bool false] 4)).heap[w.heap.size]? =some (.cells #[.string ⟨#[]⟩,.int .i64 0] 29 (0,0))):=by
  show _=_;rw[Below.heap_alloc _ _ _ (by simp;omega),Below.heap_alloc _ _ _ (by simp)];exact heap_alloc_new w _
 go_wp2_with fail;generalize((w.alloc (.cells #[.string ⟨#[]⟩,.int .i64 0] 29)).alloc (.cells #[.string ⟨#[]⟩,.int .i64 0] 29)).alloc (.cells #[.bool false] 4)=W3 at*;refine(HF.out W3 _ HI.out HB.out).mono ?_;rintro e W4 ⟨rfl,S4,hI4,hbut,_⟩;rw[runY_no]at hI4;obtain⟨_,_,_,_,h4,h5⟩:=hI4;have h6:=hbut.at_ HR.out (by simp;omega);have hb4:=HB.out.trans (hbut.below HB.out.size (by rintro i (rfl|rfl)<;>omega));have HB4:=Lib.hid hb4;have H6:=Lib.hid h6;rw[HEM.out]at h5;rw[HLE.out]at h4;have a0:=cell_of_row W4 _ 0 _ _ (0,0) h4;have a1:=cell_of_row W4 _ 1 _ _ (0,0) h4;have b0:=cell_of_row W4 _ 0 _ _ (0,0) h5;have r0:=cell_of_row W4 _ 0 _ _ (0,0) h6;have r1:=cell_of_row W4 _ 1 _ _ (0,0) h6;have z0:=free_at h6 0;have z1:=free_at h6 1;simp at a0 a1 b0 r0 r1
 clear h4 h5 h6 hbut hb4 HR HI HF HB;go_wp2_with fail;have hlt:w.heap.size<W4.heap.size:=(Array.getElem?_eq_some_iff.1 H6.out).1;have hB:Below w.heap.size w ((W4.setCell ⟨w.heap.size,0,none⟩ (.string ⟨lt.toArray⟩)).setCell ⟨w.heap.size,1,none⟩ (.int .i64 lz)):=F.below_set (F.below_set HB4.out (Nat.le_refl _) (Nat.le_refl _)) (Nat.le_refl _) (Nat.le_refl _);have k4:=F.blk_set (j:=1) (F.blk_set (j:=0) H6.out (.string ⟨lt.toArray⟩)) (.int .i64 lz);have d0:=cell_of_row _ _ 0 _ _ (0,0) k4;have d1:=cell_of_row _ _ 1 _ _ (0,0) k4;simp at d0 d1
 have HBB:=Lib.hid hB;have HD:=Lib.hid (And.intro d0 d1);clear hB k4 d0 d1;go_region
 all_goals
  go_wp2_with fail;obtain⟨d0,d1⟩:=HD.out;generalize(W4.setCell ⟨w.heap.size,0,none⟩ (.string ⟨lt.toArray⟩)).setCell ⟨w.heap.size,1,none⟩ (.int .i64 lz)=W5 at*;exact bodyPost_ret (v:=.tuple #[.agg #[.string ⟨lt.toArray⟩,.int .i64 lz],.bool ok]) (by simp[results,Tryz.results12,go_sem,d0,d1]) rfl ⟨rfl,HBB.out.drew⟩
theorem wceil_nil(w:World)(t:ByteArray):Calls Tryz.prog 12 #[.pointer none,.string t] w fun e w'=>e=.returned (.tuple #[.agg #[.string ⟨#[]⟩,.int .i64 0],.bool false])∧Below w.heap.size w w':=by
 go_enter Tryz.func12,Tryz.ntmps12
 go_wp2_with fail;have hB3:Below w.heap.size w (((w.alloc (.cells #[.string ⟨#[]⟩,.int .i64 0] 29)).alloc (.cells #[.string ⟨#[]⟩,.int .i64 0] 29)).alloc (.cells #[.bool false] 4)):=bnew (bnew (bnew (brefl w) _) _) _;have h3:(((w.alloc (.cells #[.string ⟨#[]⟩,.int .i64 0] 29)).alloc (.cells #[.string ⟨#[]⟩,.int .i64 0] 29)).alloc (.cells #[.bool false] 4)).heap[w.heap.size]? =some (.cells #[.string ⟨#[]⟩,.int .i64 0] 29 (0,0))∧(((w.alloc (.cells #[.string ⟨#[]⟩,.int .i64 0] 29)).alloc (.cells #[.string ⟨#[]⟩,.int .i64 0] 29)).alloc (.cells #[.bool false] 4)).heap[w.heap.size+1]? =some (.cells #[.string ⟨#[]⟩,.int .i64 0] 29 (0,0))∧(((w.alloc (.cells #[.string ⟨#[]⟩,.int .i64 0] 29)).alloc (.cells #[.string ⟨#[]⟩,.int .i64 0] 29)).alloc (.cells #[.bool false] 4)).heap[w.heap.size+1+1]? =some (.cells #[.bool false] 4 (0,0)):=by
  refine⟨?_,?_,?_⟩
  ·rw[Below.heap_alloc _ _ _ (by simp;omega),Below.heap_alloc _ _ _ (by simp)];exact heap_alloc_new w _
  ·rw[Below.heap_alloc _ _ _ (by simp)];have:=heap_alloc_new (w.alloc (.cells #[.string ⟨#[]⟩,.int .i64 0] 29)) (.cells #[.string ⟨#[]⟩,.int .i64 0] 29);simpa using this
  ·have:=heap_alloc_new ((w.alloc (.cells #[.string ⟨#[]⟩,.int .i64 0] 29)).alloc (.cells #[.string ⟨#[]⟩,.int .i64 0] 29)) (.cells #[.bool false] 4);simpa using this
 generalize((w.alloc (.cells #[.string ⟨#[]⟩,.int .i64 0] 29)).alloc (.cells #[.string ⟨#[]⟩,.int .i64 0] 29)).alloc (.cells #[.bool false] 4)=W3 at*;refine(wfrom_nil W3 _ _).mono ?_;rintro e W4 ⟨rfl,hb4⟩;obtain⟨h6,h4,h5⟩:=h3;have h6:=(hb4.block _ (Array.getElem?_eq_some_iff.1 h6).1).trans h6;have h4:=(hb4.block _ (Array.getElem?_eq_some_iff.1 h4).1).trans h4;have h5:=(hb4.block _ (Array.getElem?_eq_some_iff.1 h5).1).trans h5;have HB4:=Lib.hid (bcall hB3 hb4);have a0:=cell_of_row W4 _ 0 _ _ (0,0) h4;have a1:=cell_of_row W4 _ 1 _ _ (0,0) h4;have b0:=cell_of_row W4 _ 0 _ _ (0,0) h5;have r0:=cell_of_row W4 _ 0 _ _ (0,0) h6;have r1:=cell_of_row W4 _ 1 _ _ (0,0) h6;have z0:=free_at h6 0;have z1:=free_at h6 1;have hlt:w.heap.size<W4.heap.size:=(Array.getElem?_eq_some_iff.1 h6).1;have hB:Below w.heap.size w ((W4.setCell ⟨w.heap.size,0,none⟩ (.string ⟨#[]⟩)).setCell ⟨w.heap.size,1,none⟩ (.int .i64 0)):=F.below_set (F.below_set HB4.out (Nat.le_refl _) (Nat.le_refl _)) (Nat.le_refl _) (Nat.le_refl _);have k4:=F.blk_set (j:=1) (F.blk_set (j:=0) h6 (.string ⟨#[]⟩)) (.int .i64 0);have d0:=cell_of_row _ _ 0 _ _ (0,0) k4;have d1:=cell_of_row _ _ 1 _ _ (0,0) k4;simp at a0 a1 b0 r0 r1 d0 d1
 have HBB:=Lib.hid hB;have HD:=Lib.hid (And.intro d0 d1);clear hB k4 d0 d1 h4 h5 h6 hb4 hB3 HB4;go_wp2_with fail;go_region
 all_goals
  go_wp2_with fail;obtain⟨d0,d1⟩:=HD.out;generalize(W4.setCell ⟨w.heap.size,0,none⟩ (.string ⟨#[]⟩)).setCell ⟨w.heap.size,1,none⟩ (.int .i64 0)=W5 at*;exact bodyPost_ret (v:=.tuple #[.agg #[.string ⟨#[]⟩,.int .i64 0],.bool false]) (by simp[results,Tryz.results12,go_sem,d0,d1]) rfl ⟨rfl,HBB.out.drew⟩
end
section
open Go.RowKit
def Lead(d:List St)(y t:Nat):Prop:=∃s,d[y]? =some s∧∃a∈s.2,a.2.2=(t:Int)
theorem lookA_mem{l:List Arc3}(h:l.Pairwise fun a b=>a.2.1<b.1)(ho:∀a∈l,a.1≤a.2.1){a:Arc3}(ha:a∈l):lookA l a.1=some a.2.2:=by
 induction l with
 |nil=>cases ha
 |
  cons b r ih=>
  obtain⟨h1,h2⟩:=List.pairwise_cons.1 h;rw[lookA_cons];rcases List.mem_cons.1 ha with rfl|ha
  ·rw[if_pos ⟨Int.le_refl _,ho a (List.mem_cons_self ..)⟩]
  ·rw[if_neg (by have:=h1 a ha;have:=ho b (List.mem_cons_self ..);omega)];exact ih h2 (fun x hx=>ho x (List.mem_cons_of_mem _ hx)) ha
theorem lookA_some{l:List Arc3}{c k:Int}(h:lookA l c=some k):∃a∈l,a.2.2=k∧a.1≤c∧c≤a.2.1:=by
 unfold lookA at h;obtain⟨a,ha,rfl⟩:=Option.map_eq_some_iff.1 h;have hp:=List.find?_some ha;have hp:=of_decide_eq_true hp;exact⟨a,List.mem_of_find?_eq_some ha,rfl,hp.1,hp.2⟩
section
variable {d:List St}{y t:Nat}
theorem lead_step(h:Good d)(hl:Lead d y t):∃c,c<256∧(auOf d).step y c=some t:=by
 obtain⟨s,hs,a,ha,hat⟩:=hl;have hA:=h.asc s (List.mem_of_getElem? hs);have hok:=hA.ok a ha;refine⟨a.1.toNat,by omega,?_⟩;show(d[y]?).bind (fun s=>(lookA s.2 _).map Int.toNat)=_;rw[hs];show(lookA s.2 _).map Int.toNat=_;rw[show((a.1.toNat:Nat):Int)=a.1 by omega,lookA_mem hA.lt (fun x hx=>(hA.ok x hx).2.1) ha,hat];rfl
theorem step_lead(h:Good d){c:Nat}(hs:(auOf d).step y c=some t):Lead d y t:=by
 have hs:(d[y]?).bind (fun s=>(lookA s.2 c).map Int.toNat)=some t:=hs;obtain⟨s,h1,h2⟩:=Option.bind_eq_some_iff.1 hs;obtain⟨k,h3,rfl⟩:=Option.map_eq_some_iff.1 h2;obtain⟨a,ha,hk,_⟩:=lookA_some h3;have:=h.to_ s (List.mem_of_getElem? h1) a ha;exact⟨s,h1,a,ha,by omega⟩
theorem live_fin{s:St}(hs:d[y]? =some s)(hf:s.1=true):(auOf d).live y:=by
 refine⟨[],?_⟩;show((d[y]?).map (·.1)).getD false=true;rw[hs];exact hf
theorem live_lead(h:Good d)(hl:Lead d y t)(ht:(auOf d).live t):(auOf d).live y:=by
 obtain⟨c,hc,hst⟩:=lead_step h hl;obtain⟨r,hr⟩:=ht;refine⟨c::r,?_⟩;rw[Au.acc,if_pos hc,hst];exact hr
theorem live_closed(h:Good d)(P:Nat→Prop)(hf:∀i s,d[i]? =some s→s.1=true→P i)(hc:∀y t,Lead d y t→P t→P y):∀(r:List Nat) (x:Nat),(auOf d).acc x r=true→P x
 |
  [],x,hr=>by
  have hr:((d[x]?).map (·.1)).getD false=true:=hr;cases hx:d[x]? with
  |none=>rw[hx]at hr;cases hr
  |some s=>rw[hx]at hr;exact hf x s hx hr
 |
  c::r,x,hr=>by
  rw[Au.acc]at hr;split at hr
  ·cases hs:(auOf d).step x c with
   |none=>rw[hs]at hr;cases hr
   |
    some z=>
    rw[hs]at hr;exact hc x z (step_lead h hs) (live_closed h P hf hc r z hr)
  ·cases hr
end
def offs(L:List Bool):Nat:=(L.filter (!·)).length
theorem offs_set{L:List Bool}{i:Nat}(h:L[i]? =some false):offs (L.set i true)+1=offs L:=by
 unfold offs;induction L generalizing i with
 |nil=>cases h
 |
  cons x r ih=>
  cases i with
  |
   zero=>
   simp at h
   subst h;simp
  |
   succ i=>
   have:=ih (i:=i) (by simpa using h);simp only[List.set_cons_succ,List.filter_cons];cases x
   ·simp only[Bool.not_false,if_true,List.length_cons];omega
   ·simpa using this
theorem offs_le(L:List Bool):offs L≤L.length:=List.length_filter_le _ _
structure BackP(d:List St)(i j:Nat)(F:List (List Int)):Prop where
 len:F.length=d.length
 snd:∀(t:Nat) f,F[t]? =some f→∀y∈f,∃k:Nat,y=(k:Int)∧k<d.length∧Lead d k t
 cpl:∀(t:Nat) f,F[t]? =some f→∀(y:Nat) s,d[y]? =some s→(∃(q:Nat) (a:Arc3),s.2[q]? =some a∧a.2.2=(t:Int)∧(y<i∨y=i∧q<j))→((y:Nat):Int)∈f
 bnd:∀f∈F,f.length≤i*256+j
theorem BackP.start(d:List St):BackP d 0 0 (List.replicate d.length []):=by
 refine⟨by simp,fun t f hf y hy=>?_,fun t f _ y s _ ⟨q,a,_,_,h⟩=>by omega,fun f hf=>?_⟩
 ·rw[List.getElem?_replicate]at hf;split at hf
  ·injection hf with hf;subst hf;cases hy
  ·cases hf
 ·rw[(List.mem_replicate.1 hf).2];exact Nat.zero_le _
theorem BackP.arc{d:List St}{i j:Nat}{F:List (List Int)}(h:BackP d i j F){s:St}(hs:d[i]? =some s){a:Arc3}(ha:s.2[j]? =some a){t:Nat}(hat:a.2.2=(t:Int)){f:List Int}(hf:F[t]? =some f):BackP d i (j+1) (F.set t (f++[(i:Int)])):=by
 have htl:=(List.getElem?_eq_some_iff.1 hf).1;have hil:=(List.getElem?_eq_some_iff.1 hs).1;refine⟨by rw[List.length_set];exact h.len,fun u g hg y hy=>?_,fun u g hg y s' hs' hq=>?_,fun g hg=>?_⟩
 ·rw[List.getElem?_set]at hg;split at hg
  ·rename_i e
   subst e;injection hg with hg
   subst hg;rcases List.mem_append.1 hy with hy|hy
   ·exact h.snd t f hf y hy
   ·rw[List.mem_singleton.1 hy];exact⟨i,rfl,hil,s,hs,a,List.mem_of_getElem? ha,hat⟩
  ·exact h.snd u g hg y hy
 ·obtain⟨q,a',ha',hau,hqq⟩:=hq;rw[List.getElem?_set]at hg;split at hg
  ·rename_i e
   subst e;injection hg with hg
   subst hg;by_cases hold:y<i∨y=i∧q<j
   ·exact List.mem_append_left _ (h.cpl t f hf y s' hs' ⟨q,a',ha',hau,hold⟩)
   ·have:y=i:=by omega
    rw[this];exact List.mem_append_right _ (List.mem_singleton.2 rfl)
  ·rename_i e
   have hold:y<i∨y=i∧q<j:=by
    apply Classical.byContradiction
    intro hn
    have hy:y=i:=by omega
    have hq:q=j:=by omega
    subst hy hq;rw[hs]at hs';injection hs' with hs'
    subst hs';rw[ha]at ha';injection ha' with ha'
    subst ha';exact e (by omega)
   exact h.cpl u g hg y s' hs' ⟨q,a',ha',hau,hold⟩
 ·rcases List.mem_or_eq_of_mem_set hg with hg|rfl
  ·have:=h.bnd g hg;omega
  ·have:=h.bnd f (List.mem_of_getElem? hf);rw[List.length_append,List.length_singleton];omega
theorem BackP.next{d:List St}{i:Nat}{F:List (List Int)}{s:St}(hs:d[i]? =some s)(hm:s.2.length≤256)(h:BackP d i s.2.length F):BackP d (i+1) 0 F:=by
 refine⟨h.len,h.snd,fun t f hf y s' hs' ⟨q,a,ha,hat,hq⟩=>?_,fun f hf=>Nat.le_trans (h.bnd f hf) ?_⟩;rotate_left
 ·rw[Nat.add_mul];exact Nat.add_le_add_left hm _
 refine h.cpl t f hf y s' hs' ⟨q,a,ha,hat,?_⟩;by_cases hy:y=i
 ·subst hy;rw[hs]at hs';injection hs' with hs'
  subst hs';exact .inr ⟨rfl,(List.getElem?_eq_some_iff.1 ha).1⟩
 ·exact .inl (by omega)
theorem BackP.all{d:List St}{F:List (List Int)}(h:BackP d d.length 0 F){t:Nat}{f:List Int}(hf:F[t]? =some f){y:Nat}:((y:Nat):Int)∈f↔Lead d y t:=by
 constructor
 ·intro hy
  obtain⟨k,hk,_,hl⟩:=h.snd t f hf _ hy;have:y=k:=by omega
  rw[this];exact hl
 ·rintro⟨s,hs,a,ha,hat⟩;obtain⟨q,hq⟩:=List.mem_iff_getElem?.1 ha;exact h.cpl t f hf y s hs ⟨q,a,hq,hat,.inl (List.getElem?_eq_some_iff.1 hs).1⟩
structure TodoP(d:List St)(i:Nat)(L:List Bool)(T:List Int)(ex:Nat→Int→Prop):Prop where
 len:L.length=d.length
 snd:∀x:Nat,L[x]? =some true→(auOf d).live x
 tin:∀y∈T,∃k:Nat,y=(k:Int)∧k<d.length∧L[k]? =some true
 fin:∀(x:Nat) s,x<i→d[x]? =some s→s.1=true→L[x]? =some true
 cls:∀x y:Nat,L[x]? =some true→Lead d y x→L[y]? =some true∨((x:Nat):Int)∈T∨ex x y
 few:T.length+offs L≤d.length
theorem TodoP.start(d:List St):TodoP d 0 (List.replicate d.length false) [] (fun _ _=>False):=by
 have hf:∀x,(List.replicate d.length false)[x]? ≠some true:=fun x=>by
  rw[List.getElem?_replicate];split<;>simp
 refine⟨by simp,fun x hx=>absurd hx (hf x),fun y hy=>(by cases hy),fun x s hx=>absurd hx (Nat.not_lt_zero _),fun x y hx=>absurd hx (hf x),?_⟩;have:=offs_le (List.replicate d.length false);simpa using this
theorem TodoP.off{d:List St}{i:Nat}{L:List Bool}{T:List Int}{ex:Nat→Int→Prop}(h:TodoP d i L T ex){s:St}(hs:d[i]? =some s)(hf:s.1=false):TodoP d (i+1) L T ex:=by
 refine⟨h.len,h.snd,h.tin,fun x s' hx hs' hf'=>?_,h.cls,h.few⟩;by_cases hxi:x=i
 ·subst hxi;rw[hs]at hs';injection hs' with hs'
  subst hs';rw[hf]at hf';cases hf'
 ·exact h.fin x s' (by omega) hs' hf'
theorem TodoP.put{d:List St}{i i':Nat}{L:List Bool}{T:List Int}{ex:Nat→Int→Prop}(h:TodoP d i L T ex){k:Nat}(hk:L[k]? =some false)(hl:(auOf d).live k)(hfin:∀x s,x<i'→x≠k→d[x]? =some s→s.1=true→L[x]? =some true):TodoP d i' (L.set k true) (T++[(k:Int)]) ex:=by
 have hkl:=(List.getElem?_eq_some_iff.1 hk).1;have hset:∀x,(L.set k true)[x]? =if x=k then some true else L[x]? :=fun x=>by
  rw[List.getElem?_set];by_cases e:k=x
  ·rw[if_pos e,if_pos hkl,if_pos e.symm]
  ·rw[if_neg e,if_neg fun e'=>e e'.symm]
 refine⟨by rw[List.length_set];exact h.len,fun x hx=>?_,fun y hy=>?_,fun x s hx hs hf=>?_,fun x y hx hl'=>?_,?_⟩
 ·rw[hset]at hx;split at hx
  ·rename_i e;rw[e];exact hl
  ·exact h.snd x hx
 ·rcases List.mem_append.1 hy with hy|hy
  ·obtain⟨q,h1,h2,h3⟩:=h.tin y hy;exact⟨q,h1,h2,by rw[hset];split;rfl;exact h3⟩
  ·exact⟨k,List.mem_singleton.1 hy,by rw[←h.len];exact hkl,by rw[hset,if_pos rfl]⟩
 ·rw[hset];split
  ·rfl
  ·rename_i e;exact hfin x s hx e hs hf
 ·rw[hset]at hx;by_cases e:x=k
  ·exact .inr (.inl (List.mem_append_right _ (by rw[e];exact List.mem_singleton.2 rfl)))
  ·rw[if_neg e]at hx;rcases h.cls x y hx hl' with h1|h1|h1
   ·refine .inl ?_;rw[hset];split
    ·rfl
    ·exact h1
   ·exact .inr (.inl (List.mem_append_left _ h1))
   ·exact .inr (.inr h1)
 ·have:=offs_set hk;have:=h.few;rw[List.length_append,List.length_singleton];omega
theorem TodoP.pop{d:List St}{L:List Bool}{T:List Int}{x:Nat}(h:TodoP d d.length L (T++[(x:Int)]) (fun _ _=>False))(f:List Int)(hf:∀y:Nat,((y:Nat):Int)∈f↔Lead d y x):TodoP d d.length L T (fun z y=>z=x∧y∈f):=by
 refine⟨h.len,h.snd,fun y hy=>h.tin y (List.mem_append_left _ hy),h.fin,fun z y hz hl=>?_,?_⟩
 ·rcases h.cls z y hz hl with h1|h1|h1
  ·exact .inl h1
  ·rcases List.mem_append.1 h1 with h1|h1
   ·exact .inr (.inl h1)
   ·have e:z=x:=by have:=List.mem_singleton.1 h1;omega
    subst e;exact .inr (.inr ⟨rfl,(hf y).2 hl⟩)
  ·exact h1.elim
 ·have:=h.few;rw[List.length_append,List.length_singleton]at this;omega
theorem TodoP.drop{d:List St}{i:Nat}{L:List Bool}{T:List Int}{x k:Nat}{r:List Int}(h:TodoP d i L T (fun z y=>z=x∧y∈(k:Int)::r))(hk:L[k]? =some true):TodoP d i L T (fun z y=>z=x∧y∈r):=by
 refine⟨h.len,h.snd,h.tin,h.fin,fun z y hz hl=>?_,h.few⟩;rcases h.cls z y hz hl with h1|h1|⟨h1,h2⟩
 ·exact .inl h1
 ·exact .inr (.inl h1)
 ·rcases List.mem_cons.1 h2 with h2|h2
  ·have:y=k:=by omega
   rw[this];exact .inl hk
  ·exact .inr (.inr ⟨h1,h2⟩)
theorem TodoP.done{d:List St}{i:Nat}{L:List Bool}{T:List Int}{x:Nat}(h:TodoP d i L T (fun z y=>z=x∧y∈([]:List Int))):TodoP d i L T (fun _ _=>False):=
 ⟨h.len,h.snd,h.tin,h.fin,fun z y hz hl=>by
  rcases h.cls z y hz hl with h1|h1|h1
  ·exact .inl h1
  ·exact .inr (.inl h1)
  ·exact absurd h1.2 (List.not_mem_nil),h.few⟩
theorem todo_end{d:List St}(hg:Good d){L:List Bool}(h:TodoP d d.length L [] (fun _ _=>False)){x:Nat}{b:Bool}(hx:L[x]? =some b):b=true↔(auOf d).live x:=by
 constructor
 ·intro e
  rw[e]at hx;exact h.snd x hx
 ·rintro⟨r,hr⟩;have:=live_closed hg (fun x=>L[x]? =some true) (fun i s hs hf=>h.fin i s (List.getElem?_eq_some_iff.1 hs).1 hs hf) (fun y t hl ht=>by
   rcases h.cls t y ht hl with h1|h1|h1
   ·exact h1
   ·cases h1
   ·exact h1.elim) r x hr
  rw[hx]at this;injection this
end
end Go.Proofs.YtaociahafamncaaGreatDoor
