/- Folded. -/
import Derived.Test.YtaociahafamncaaGreatDoorHM17
set_option maxRecDepth 100000
set_option maxHeartbeats 40000000
set_option linter.unusedVariables false
namespace Go.Proofs.YtaociahafamncaaGreatDoor
section
open Go.RowKit Go.Maps
open F (Ent Nd Nh gath gath_s Fine byteAt DictAt waysC wayC allE)
theorem zKf{ds:List Nd}(hf:Fine ds)(s:List UInt8)(base:Int)(hn:ds≠[]):frE ds s ds.length (ds.length-1) [] base true=(allE ds base).filter fun e=> !decide (e.1<s):=by
 rw[zw9 hf s _ _ [] base s rfl];unfold F.allE;rw[if_neg hn]
def zFe(k:List Ent→Bool)(I:List Ent→World→(Nat→Prop)→Prop)(W:World)(S:Nat→Prop)(R:List Ent×Bool):Ending→World→Prop:=fun e W'=>e=.returned (.tuple #[])∧∃S',I R.1 W' S'∧But S W W'∧∀b,S' b→S b∨W.heap.size≤b
theorem zDb(d:Nat)(fn:FuncId)(c:Array Value)(w:World):(Op.equalIn (d+1) 30 (.func (.func fn) #[] c) .nilFunc).run Tryz.prog w=.ok false w:=by
 simp[Op.equalIn,run_underlying Tryz.underlying30]
theorem z4d(fn:FuncId)(c:Array Value)(w:World):(binOp .neq 30 (.func (.func fn) #[] c) .nilFunc).run Tryz.prog w=.ok (.bool true) w:=by
 simp only[binOp];simp[Op.equal,Op.maxDepth,zDb 9999]
theorem z5j(w0:World)(p B n c:Nat)(A:Option Addr)(base cnt:Int)(hs:List Nh)(hd:DictAt w0 p B A n c base cnt hs)(hf:Fine (hs.map (·.d)))(hwl:∀x∈hs,x.d.ways.length≤65536)(N:Nat)(hN:w0.heap.size=N)(fn:FuncId)(P1 P2:Addr)(k:List Ent→Bool)(I:List Ent→World→(Nat→Prop)→Prop)(hY:Yield N fn P1 P2 k I)(hE:∀(args:Array Value) (w:World),(callFunc fn args).run Tryz.prog w=.ok (.enter fn args) w)(s:List UInt8)(hsl:s.length≤1125899906842624)(W:World)(S:Nat→Prop)(h:List Ent)(hI:I h W S)(hb:Below N w0 W)(hn:n≤1125899906842624)(L:List Ent)(hL:L=(allE (hs.map (·.d)) base).filter fun e=> !decide (e.1<s))(hl:(h++L).length≤1048576):
  Calls Tryz.prog 10 #[.pointer (some ⟨p,0,none⟩),.string ⟨s.toArray⟩,.func (.func fn) #[] #[.pointer (some P1),.pointer (some P2)]] W (zFe k I W S (runY k h L)):=by
 have HR:=Lib.hid (F.root_any W p B n c A base cnt hs (hd.keep (by rw[hN];exact hb)));have hlen:=hd.len;have HY:=Lib.hid hY;have HI:=Lib.hid hI;have HB:=Lib.hid hb;have hNW:N≤W.heap.size:=by rw[←hN];exact hb.size
 by_cases h0:n=0
 ·subst h0;have hLe:L=[]:=by
   rw[hL];have:hs=[]:=List.eq_nil_of_length_eq_zero hlen;rw[this];rfl
  subst hLe;rw[if_pos rfl,if_pos rfl]at HR;clear hd hf hwl hN hE hL hl hlen hY hI hb;go_enter Tryz.func10,Tryz.ntmps10
  go_wp2_with fail;refine HR.out.mono ?_;rintro e w1 ⟨rfl,hb1⟩;have HB1:=Lib.hid hb1;clear hb1;go_wp2_with fail;go_end0
  exact⟨rfl,S,HY.out.keep _ _ _ _ HI.out HB1.out,But.of HB1.out,fun b hb=>.inl hb⟩
 ·rw[if_neg h0,if_neg h0]at HR;obtain⟨i,hi⟩:∃i:Nat,n=i+1:=⟨n-1,by omega⟩;have hLe:L=frE (hs.map (·.d)) s (i+1) i [] base true:=by
   have hne:hs.map (·.d)≠[]:=by
    intro e
    rw[List.map_eq_nil_iff]at e;rw[e]at hlen;exact h0 hlen.symm
   have:=zKf hf s base hne;rw[List.length_map,hlen,hi]at this;rw[hL,←this];rfl
  rw[show(n:Int)-1=(i:Int) by omega]at HR;rw[hLe]at hl;have HF:=Lib.hid (fun W1 (hb1:Below W.heap.size W W1)=>z1d w0 p B n c A base cnt hs hd hf hwl N hN fn P1 P2 k I hY hE s hsl (i+1) i (by omega) (by omega) W1 S h [] base true (hY.keep _ _ _ _ hI hb1) (hb.trans (hb1.mono hNW)) (by simp;omega) hl);rw[←hLe]at HF;clear hd hf hwl hN hE hL hl hlen hY hI hb h0 hi hLe;have hfn:=z4d fn #[.pointer (some P1),.pointer (some P2)];go_enter Tryz.func10,Tryz.ntmps10
  go_wp2_with fail;refine HR.out.mono ?_;rintro e w1 ⟨rfl,hb1⟩;have HB1:=Lib.hid hb1;have HC:=Lib.hid (HF.out w1 hb1);clear hb1 HF;go_wp2_with fail;refine HC.out.mono ?_;rintro e w2 ⟨rfl,S2,hI2,hb2,hs2⟩;have HP:Hid (∃S',I (runY k h L).1 w2 S'∧But S W w2∧∀b,S' b→S b∨W.heap.size≤b):=⟨S2,hI2,(But.of HB1.out).trans hb2 fun _ hi=>.inl hi,fun b hb=>(hs2 b hb).elim .inl fun h=>.inr (Nat.le_trans HB1.out.size h)⟩;clear hI2 hb2 hs2 HC;go_wp2_with fail;go_end0
  exact⟨rfl,HP.out⟩
end
section
open Go.RowKit Go.Maps
open F (Ent Nd Nh gath gath_s Fine byteAt DictAt waysC wayC allE free_at)
def zu6(h:List Ent):Ent:=h.getLast?.getD ([],0)
def zJg(N fb ob:Nat)(h:List Ent)(W:World)(S:Nat→Prop):Prop:=(∀b,S b↔b=fb∨b=ob)∧N≤fb∧N≤ob∧fb≠ob∧W.heap[fb]? =some (.cells #[.string ⟨(zu6 h).1.toArray⟩,.int .i64 (zu6 h).2] 29 (0,0))∧W.heap[ob]? =some (.cells #[.bool (!h.isEmpty)] 4 (0,0))
theorem z4a(h:List Ent)(e:Ent):zu6 (h++[e])=e:=by simp[zu6]
theorem zJ9(W:World)(fb ob:Nat)(hne:fb≠ob)(f0 f1 o0:Value)(h1:W.heap[fb]? =some (.cells #[f0,f1] 29 (0,0)))(h2:W.heap[ob]? =some (.cells #[o0] 4 (0,0)))(e:Ent):
  Calls Tryz.prog 25 #[.agg #[.string ⟨e.1.toArray⟩,.int .i64 e.2],.pointer (some ⟨fb,0,none⟩),.pointer (some ⟨ob,0,none⟩)] W fun r W'=>r=.returned (.bool false)∧W'=(((W.setCell ⟨fb,0,none⟩ (.string ⟨e.1.toArray⟩)).setCell ⟨fb,1,none⟩ (.int .i64 e.2)).setCell ⟨ob,0,none⟩ (.bool true)).alloc (.cells #[.string ⟨e.1.toArray⟩,.int .i64 e.2] 29):=by
 obtain⟨t,z⟩:=e;have c0:=cell_of_row W fb 0 _ _ (0,0) h1;have c1:=cell_of_row W fb 1 _ _ (0,0) h1;have d0:=cell_of_row W ob 0 _ _ (0,0) h2;simp at c0 c1 d0
 have z0:=free_at h1 0;have z1:=free_at h1 1;have z2:=free_at h2 0;have l1:=(Array.getElem?_eq_some_iff.1 h1).1;have l2:=(Array.getElem?_eq_some_iff.1 h2).1;clear h1 h2;go_enter Tryz.func25,Tryz.ntmps25
 go_wp2_with fail;go_ret;exact⟨rfl,rfl⟩
theorem z55(N fb ob:Nat):Yield N 25 ⟨fb,0,none⟩ ⟨ob,0,none⟩ (fun _=>false) (zJg N fb ob) where
 low:=by
  rintro h W S ⟨hS,h1,h2,_,h4,h5⟩ b hb;have l1:=(Array.getElem?_eq_some_iff.1 h4).1;have l2:=(Array.getElem?_eq_some_iff.1 h5).1;rcases(hS b).1 hb with rfl|rfl
  ·exact⟨h1,l1⟩
  ·exact⟨h2,l2⟩
 keep:=by
  rintro h W W' S ⟨hS,h1,h2,h3,h4,h5⟩ hb;exact⟨hS,h1,h2,h3,(hb.block _ (Array.getElem?_eq_some_iff.1 h4).1).trans h4,(hb.block _ (Array.getElem?_eq_some_iff.1 h5).1).trans h5⟩
 call:=by
  rintro h W S e ⟨hS,h1,h2,h3,h4,h5⟩ _;have l1:=(Array.getElem?_eq_some_iff.1 h4).1;have l2:=(Array.getElem?_eq_some_iff.1 h5).1;refine(zJ9 W fb ob h3 _ _ _ h4 h5 e).mono ?_;rintro r W' ⟨rfl,rfl⟩;refine⟨rfl,S,⟨hS,h1,h2,h3,?_,?_⟩,⟨rfl,rfl,rfl,by simp,fun b hb hn=>?_⟩,fun b hb=>.inl hb⟩
  ·rw[Below.heap_alloc _ _ _ (by simpa using l1),Below.heap_setCell _ _ _ _ (by exact h3),z4a];have:=F.blk_set (j:=1) (F.blk_set (j:=0) h4 (.string ⟨e.1.toArray⟩)) (.int .i64 e.2);simpa using this
  ·rw[Below.heap_alloc _ _ _ (by simpa using l2)];have h6:((W.setCell ⟨fb,0,none⟩ (.string ⟨e.1.toArray⟩)).setCell ⟨fb,1,none⟩ (.int .i64 e.2)).heap[ob]? =some (.cells #[.bool (!h.isEmpty)] 4 (0,0)):=by
    rw[Below.heap_setCell _ _ _ _ (by exact h3.symm),Below.heap_setCell _ _ _ _ (by exact h3.symm)];exact h5
   have h7:=F.blk_set (j:=0) h6 (.bool true);have e1:(h++[e]).isEmpty=false:=by simp
   rw[e1];simpa using h7
  ·have hb1:b≠fb:=fun h=>hn ((hS b).2 (.inl h))
   have hb2:b≠ob:=fun h=>hn ((hS b).2 (.inr h))
   rw[Below.heap_alloc _ _ _ (by simpa using hb),Below.heap_setCell _ _ _ _ (by exact hb2),Below.heap_setCell _ _ _ _ (by exact hb1),Below.heap_setCell _ _ _ _ (by exact hb1)]
theorem zH8(L:List Ent):(runY (fun _=>false) [] L).1=L.head?.toList:=by
 cases L<;>rfl
theorem z60(w:World)(p B n c:Nat)(A:Option Addr)(base cnt:Int)(hs:List Nh)(hd:DictAt w p B A n c base cnt hs)(hf:Fine (hs.map (·.d)))(hwl:∀x∈hs,x.d.ways.length≤65536)(s:List UInt8)(hsl:s.length≤1125899906842624)(hn:n≤1125899906842624)(L:List Ent)(hL:L=(allE (hs.map (·.d)) base).filter fun e=> !decide (e.1<s))(hl:L.length≤1048576):
  Calls Tryz.prog 12 #[.pointer (some ⟨p,0,none⟩),.string ⟨s.toArray⟩] w fun e w'=>e=.returned (.tuple #[.agg #[.string ⟨(zu6 L.head?.toList).1.toArray⟩,.int .i64 (zu6 L.head?.toList).2],.bool (!L.isEmpty)])∧Below w.heap.size w w':=by
 have HE:∀(args:Array Value) (w:World),(callFunc 25 args).run Tryz.prog w=.ok (.enter 25 args) w:=enters_of Tryz.func25 (by kernel_rfl) rfl;obtain⟨fb,hfb⟩:∃k,w.heap.size+1=k:=⟨_,rfl⟩;have HF:=Lib.hid (fun W S hI hb=>z5j w p B n c A base cnt hs hd hf hwl w.heap.size rfl 25 ⟨w.heap.size+1,0,none⟩ ⟨w.heap.size+1+1,0,none⟩ (fun _=>false) (zJg w.heap.size (w.heap.size+1) (w.heap.size+1+1)) (z55 _ _ _) HE s hsl W S [] hI hb hn L hL (by simpa using hl));obtain⟨⟨lt,lz⟩,hle⟩:∃x,zu6 L.head?.toList=x:=⟨_,rfl⟩;obtain⟨ok,hok⟩:∃x,(!L.isEmpty)=x:=⟨_,rfl⟩;have hem:(!L.head?.toList.isEmpty)=ok:=by rw[←hok];cases L<;>rfl
 rw[hle,hok];have HLE:=Lib.hid hle;have HEM:=Lib.hid hem;clear HE hfb hd hf hwl hL hl hle hok hem;go_enter Tryz.func12,Tryz.ntmps12
 have HI:Hid (zJg w.heap.size (w.heap.size+1) (w.heap.size+1+1) [] (((w.alloc (.cells #[.string ⟨#[]⟩,.int .i64 0] 29)).alloc (.cells #[.string ⟨#[]⟩,.int .i64 0] 29)).alloc (.cells #[.bool false] 4)) (fun b=>b=w.heap.size+1∨b=w.heap.size+1+1)):=by
  refine⟨fun _=>Iff.rfl,by omega,by omega,by omega,?_,?_⟩
  ·rw[Below.heap_alloc _ _ _ (by simp)];have:=heap_alloc_new (w.alloc (.cells #[.string ⟨#[]⟩,.int .i64 0] 29)) (.cells #[.string ⟨#[]⟩,.int .i64 0] 29);simpa[zu6]using this
  ·have:=heap_alloc_new ((w.alloc (.cells #[.string ⟨#[]⟩,.int .i64 0] 29)).alloc (.cells #[.string ⟨#[]⟩,.int .i64 0] 29)) (.cells #[.bool false] 4);simpa using this
 have HB:Hid (Below w.heap.size w (((w.alloc (.cells #[.string ⟨#[]⟩,.int .i64 0] 29)).alloc (.cells #[.string ⟨#[]⟩,.int .i64 0] 29)).alloc (.cells #[.bool false] 4))):=bnew (bnew (bnew (za0 w) _) _) _;have HR:Hid ((((w.alloc (.cells #[.string ⟨#[]⟩,.int .i64 0] 29)).alloc (.cells #[.string ⟨#[]⟩,.int .i64 0] 29)).alloc (.cells #[.bool false] 4)).heap[w.heap.size]? =some (.cells #[.string ⟨#[]⟩,.int .i64 0] 29 (0,0))):=by
  show _=_;rw[Below.heap_alloc _ _ _ (by simp;omega),Below.heap_alloc _ _ _ (by simp)];exact heap_alloc_new w _
 go_wp2_with fail;generalize((w.alloc (.cells #[.string ⟨#[]⟩,.int .i64 0] 29)).alloc (.cells #[.string ⟨#[]⟩,.int .i64 0] 29)).alloc (.cells #[.bool false] 4)=W3 at*;refine(HF.out W3 _ HI.out HB.out).mono ?_;rintro e W4 ⟨rfl,S4,hI4,hbut,_⟩;rw[zH8]at hI4;obtain⟨_,_,_,_,h4,h5⟩:=hI4;have h6:=hbut.at_ HR.out (by simp;omega);have hb4:=HB.out.trans (hbut.below HB.out.size (by rintro i (rfl|rfl)<;>omega));have HB4:=Lib.hid hb4;have H6:=Lib.hid h6;rw[HEM.out]at h5;rw[HLE.out]at h4;have a0:=cell_of_row W4 _ 0 _ _ (0,0) h4;have a1:=cell_of_row W4 _ 1 _ _ (0,0) h4;have b0:=cell_of_row W4 _ 0 _ _ (0,0) h5;have r0:=cell_of_row W4 _ 0 _ _ (0,0) h6;have r1:=cell_of_row W4 _ 1 _ _ (0,0) h6;have z0:=free_at h6 0;have z1:=free_at h6 1;simp at a0 a1 b0 r0 r1
 clear h4 h5 h6 hbut hb4 HR HI HF HB;go_wp2_with fail;have hlt:w.heap.size<W4.heap.size:=(Array.getElem?_eq_some_iff.1 H6.out).1;have hB:Below w.heap.size w ((W4.setCell ⟨w.heap.size,0,none⟩ (.string ⟨lt.toArray⟩)).setCell ⟨w.heap.size,1,none⟩ (.int .i64 lz)):=F.below_set (F.below_set HB4.out (Nat.le_refl _) (Nat.le_refl _)) (Nat.le_refl _) (Nat.le_refl _);have k4:=F.blk_set (j:=1) (F.blk_set (j:=0) H6.out (.string ⟨lt.toArray⟩)) (.int .i64 lz);have d0:=cell_of_row _ _ 0 _ _ (0,0) k4;have d1:=cell_of_row _ _ 1 _ _ (0,0) k4;simp at d0 d1
 have HBB:=Lib.hid hB;have HD:=Lib.hid (And.intro d0 d1);clear hB k4 d0 d1;go_region
 all_goals
  go_wp2_with fail;obtain⟨d0,d1⟩:=HD.out;generalize(W4.setCell ⟨w.heap.size,0,none⟩ (.string ⟨lt.toArray⟩)).setCell ⟨w.heap.size,1,none⟩ (.int .i64 lz)=W5 at*;exact bodyPost_ret (v:=.tuple #[.agg #[.string ⟨lt.toArray⟩,.int .i64 lz],.bool ok]) (by simp[results,Tryz.results12,go_sem,d0,d1]) rfl ⟨rfl,HBB.out.drew⟩
end
section
open Go.RowKit
def Lead(d:List St)(y t:Nat):Prop:=∃s,d[y]? =some s∧∃a∈s.2,a.2.2=(t:Int)
theorem z8h{l:List Arc3}(h:l.Pairwise fun a b=>a.2.1<b.1)(ho:∀a∈l,a.1≤a.2.1){a:Arc3}(ha:a∈l):lookA l a.1=some a.2.2:=by
 induction l with
 |nil=>cases ha
 |
  cons b r ih=>
  obtain⟨h1,h2⟩:=List.pairwise_cons.1 h;rw[zli];rcases List.mem_cons.1 ha with rfl|ha
  ·rw[if_pos ⟨Int.le_refl _,ho a (List.mem_cons_self ..)⟩]
  ·rw[if_neg (by have:=h1 a ha;have:=ho b (List.mem_cons_self ..);omega)];exact ih h2 (fun x hx=>ho x (List.mem_cons_of_mem _ hx)) ha
theorem zig{l:List Arc3}{c k:Int}(h:lookA l c=some k):∃a∈l,a.2.2=k∧a.1≤c∧c≤a.2.1:=by
 unfold lookA at h;obtain⟨a,ha,rfl⟩:=Option.map_eq_some_iff.1 h;have hp:=List.find?_some ha;have hp:=of_decide_eq_true hp;exact⟨a,List.mem_of_find?_eq_some ha,rfl,hp.1,hp.2⟩
section
variable {d:List St}{y t:Nat}
theorem z94(h:Good d)(hl:Lead d y t):∃c,c<256∧(auOf d).step y c=some t:=by
 obtain⟨s,hs,a,ha,hat⟩:=hl;have hA:=h.asc s (List.mem_of_getElem? hs);have hok:=hA.ok a ha;refine⟨a.1.toNat,by omega,?_⟩;show(d[y]?).bind (fun s=>(lookA s.2 _).map Int.toNat)=_;rw[hs];show(lookA s.2 _).map Int.toNat=_;rw[show((a.1.toNat:Nat):Int)=a.1 by omega,z8h hA.lt (fun x hx=>(hA.ok x hx).2.1) ha,hat];rfl
theorem z6e(h:Good d){c:Nat}(hs:(auOf d).step y c=some t):Lead d y t:=by
 have hs:(d[y]?).bind (fun s=>(lookA s.2 c).map Int.toNat)=some t:=hs;obtain⟨s,h1,h2⟩:=Option.bind_eq_some_iff.1 hs;obtain⟨k,h3,rfl⟩:=Option.map_eq_some_iff.1 h2;obtain⟨a,ha,hk,_⟩:=zig h3;have:=h.to_ s (List.mem_of_getElem? h1) a ha;exact⟨s,h1,a,ha,by omega⟩
theorem zD6{s:St}(hs:d[y]? =some s)(hf:s.1=true):(auOf d).live y:=by
 refine⟨[],?_⟩;show((d[y]?).map (·.1)).getD false=true;rw[hs];exact hf
theorem z8i(h:Good d)(hl:Lead d y t)(ht:(auOf d).live t):(auOf d).live y:=by
 obtain⟨c,hc,hst⟩:=z94 h hl;obtain⟨r,hr⟩:=ht;refine⟨c::r,?_⟩;rw[Au.acc,if_pos hc,hst];exact hr
theorem zod(h:Good d)(P:Nat→Prop)(hf:∀i s,d[i]? =some s→s.1=true→P i)(hc:∀y t,Lead d y t→P t→P y):∀(r:List Nat) (x:Nat),(auOf d).acc x r=true→P x
 |
  [],x,hr=>by
  have hr:((d[x]?).map (·.1)).getD false=true:=hr;cases hx:d[x]? with
  |none=>rw[hx]at hr;cases hr
  |some s=>rw[hx]at hr;exact hf x s hx hr
 |
  c::r,x,hr=>by
  rw[Au.acc]at hr;split at hr
  ·cases hs:(auOf d).step x c with
   |none=>rw[hs]at hr;cases hr
   |
    some z=>
    rw[hs]at hr;exact hc x z (z6e h hs) (zod h P hf hc r z hr)
  ·cases hr
end
def offs(L:List Bool):Nat:=(L.filter (!·)).length
theorem z0d{L:List Bool}{i:Nat}(h:L[i]? =some false):offs (L.set i true)+1=offs L:=by
 unfold offs;induction L generalizing i with
 |nil=>cases h
 |
  cons x r ih=>
  cases i with
  |
   zero=>
   simp at h
   subst h;simp
  |
   succ i=>
   have:=ih (i:=i) (by simpa using h);simp only[List.set_cons_succ,List.filter_cons];cases x
   ·simp only[Bool.not_false,if_true,List.length_cons];omega
   ·simpa using this
theorem zI1(L:List Bool):offs L≤L.length:=List.length_filter_le _ _
structure BackP(d:List St)(i j:Nat)(F:List (List Int)):Prop where
 len:F.length=d.length
 snd:∀(t:Nat) f,F[t]? =some f→∀y∈f,∃k:Nat,y=(k:Int)∧k<d.length∧Lead d k t
 cpl:∀(t:Nat) f,F[t]? =some f→∀(y:Nat) s,d[y]? =some s→(∃(q:Nat) (a:Arc3),s.2[q]? =some a∧a.2.2=(t:Int)∧(y<i∨y=i∧q<j))→((y:Nat):Int)∈f
 bnd:∀f∈F,f.length≤i*256+j
theorem BackP.start(d:List St):BackP d 0 0 (List.replicate d.length []):=by
 refine⟨by simp,fun t f hf y hy=>?_,fun t f _ y s _ ⟨q,a,_,_,h⟩=>by omega,fun f hf=>?_⟩
 ·rw[List.getElem?_replicate]at hf;split at hf
  ·injection hf with hf;subst hf;cases hy
  ·cases hf
 ·rw[(List.mem_replicate.1 hf).2];exact Nat.zero_le _
theorem BackP.arc{d:List St}{i j:Nat}{F:List (List Int)}(h:BackP d i j F){s:St}(hs:d[i]? =some s){a:Arc3}(ha:s.2[j]? =some a){t:Nat}(hat:a.2.2=(t:Int)){f:List Int}(hf:F[t]? =some f):BackP d i (j+1) (F.set t (f++[(i:Int)])):=by
 have htl:=(List.getElem?_eq_some_iff.1 hf).1;have hil:=(List.getElem?_eq_some_iff.1 hs).1;refine⟨by rw[List.length_set];exact h.len,fun u g hg y hy=>?_,fun u g hg y s' hs' hq=>?_,fun g hg=>?_⟩
 ·rw[List.getElem?_set]at hg;split at hg
  ·rename_i e
   subst e;injection hg with hg
   subst hg;rcases List.mem_append.1 hy with hy|hy
   ·exact h.snd t f hf y hy
   ·rw[List.mem_singleton.1 hy];exact⟨i,rfl,hil,s,hs,a,List.mem_of_getElem? ha,hat⟩
  ·exact h.snd u g hg y hy
 ·obtain⟨q,a',ha',hau,hqq⟩:=hq;rw[List.getElem?_set]at hg;split at hg
  ·rename_i e
   subst e;injection hg with hg
   subst hg;by_cases hold:y<i∨y=i∧q<j
   ·exact List.mem_append_left _ (h.cpl t f hf y s' hs' ⟨q,a',ha',hau,hold⟩)
   ·have:y=i:=by omega
    rw[this];exact List.mem_append_right _ (List.mem_singleton.2 rfl)
  ·rename_i e
   have hold:y<i∨y=i∧q<j:=by
    apply Classical.byContradiction
    intro hn
    have hy:y=i:=by omega
    have hq:q=j:=by omega
    subst hy hq;rw[hs]at hs';injection hs' with hs'
    subst hs';rw[ha]at ha';injection ha' with ha'
    subst ha';exact e (by omega)
   exact h.cpl u g hg y s' hs' ⟨q,a',ha',hau,hold⟩
 ·rcases List.mem_or_eq_of_mem_set hg with hg|rfl
  ·have:=h.bnd g hg;omega
  ·have:=h.bnd f (List.mem_of_getElem? hf);rw[List.length_append,List.length_singleton];omega
theorem BackP.next{d:List St}{i:Nat}{F:List (List Int)}{s:St}(hs:d[i]? =some s)(hm:s.2.length≤256)(h:BackP d i s.2.length F):BackP d (i+1) 0 F:=by
 refine⟨h.len,h.snd,fun t f hf y s' hs' ⟨q,a,ha,hat,hq⟩=>?_,fun f hf=>Nat.le_trans (h.bnd f hf) ?_⟩;rotate_left
 ·rw[Nat.add_mul];exact Nat.add_le_add_left hm _
 refine h.cpl t f hf y s' hs' ⟨q,a,ha,hat,?_⟩;by_cases hy:y=i
 ·subst hy;rw[hs]at hs';injection hs' with hs'
  subst hs';exact .inr ⟨rfl,(List.getElem?_eq_some_iff.1 ha).1⟩
 ·exact .inl (by omega)
theorem BackP.all{d:List St}{F:List (List Int)}(h:BackP d d.length 0 F){t:Nat}{f:List Int}(hf:F[t]? =some f){y:Nat}:((y:Nat):Int)∈f↔Lead d y t:=by
 constructor
 ·intro hy
  obtain⟨k,hk,_,hl⟩:=h.snd t f hf _ hy;have:y=k:=by omega
  rw[this];exact hl
 ·rintro⟨s,hs,a,ha,hat⟩;obtain⟨q,hq⟩:=List.mem_iff_getElem?.1 ha;exact h.cpl t f hf y s hs ⟨q,a,hq,hat,.inl (List.getElem?_eq_some_iff.1 hs).1⟩
structure TodoP(d:List St)(i:Nat)(L:List Bool)(T:List Int)(ex:Nat→Int→Prop):Prop where
 len:L.length=d.length
 snd:∀x:Nat,L[x]? =some true→(auOf d).live x
 tin:∀y∈T,∃k:Nat,y=(k:Int)∧k<d.length∧L[k]? =some true
 fin:∀(x:Nat) s,x<i→d[x]? =some s→s.1=true→L[x]? =some true
 cls:∀x y:Nat,L[x]? =some true→Lead d y x→L[y]? =some true∨((x:Nat):Int)∈T∨ex x y
 few:T.length+offs L≤d.length
theorem TodoP.start(d:List St):TodoP d 0 (List.replicate d.length false) [] (fun _ _=>False):=by
 have hf:∀x,(List.replicate d.length false)[x]? ≠some true:=fun x=>by
  rw[List.getElem?_replicate];split<;>simp
 refine⟨by simp,fun x hx=>absurd hx (hf x),fun y hy=>(by cases hy),fun x s hx=>absurd hx (Nat.not_lt_zero _),fun x y hx=>absurd hx (hf x),?_⟩;have:=zI1 (List.replicate d.length false);simpa using this
theorem TodoP.off{d:List St}{i:Nat}{L:List Bool}{T:List Int}{ex:Nat→Int→Prop}(h:TodoP d i L T ex){s:St}(hs:d[i]? =some s)(hf:s.1=false):TodoP d (i+1) L T ex:=by
 refine⟨h.len,h.snd,h.tin,fun x s' hx hs' hf'=>?_,h.cls,h.few⟩;by_cases hxi:x=i
 ·subst hxi;rw[hs]at hs';injection hs' with hs'
  subst hs';rw[hf]at hf';cases hf'
 ·exact h.fin x s' (by omega) hs' hf'
theorem TodoP.put{d:List St}{i i':Nat}{L:List Bool}{T:List Int}{ex:Nat→Int→Prop}(h:TodoP d i L T ex){k:Nat}(hk:L[k]? =some false)(hl:(auOf d).live k)(hfin:∀x s,x<i'→x≠k→d[x]? =some s→s.1=true→L[x]? =some true):TodoP d i' (L.set k true) (T++[(k:Int)]) ex:=by
 have hkl:=(List.getElem?_eq_some_iff.1 hk).1;have hset:∀x,(L.set k true)[x]? =if x=k then some true else L[x]? :=fun x=>by
  rw[List.getElem?_set];by_cases e:k=x
  ·rw[if_pos e,if_pos hkl,if_pos e.symm]
  ·rw[if_neg e,if_neg fun e'=>e e'.symm]
 refine⟨by rw[List.length_set];exact h.len,fun x hx=>?_,fun y hy=>?_,fun x s hx hs hf=>?_,fun x y hx hl'=>?_,?_⟩
 ·rw[hset]at hx;split at hx
  ·rename_i e;rw[e];exact hl
  ·exact h.snd x hx
 ·rcases List.mem_append.1 hy with hy|hy
  ·obtain⟨q,h1,h2,h3⟩:=h.tin y hy;exact⟨q,h1,h2,by rw[hset];split;rfl;exact h3⟩
  ·exact⟨k,List.mem_singleton.1 hy,by rw[←h.len];exact hkl,by rw[hset,if_pos rfl]⟩
 ·rw[hset];split
  ·rfl
  ·rename_i e;exact hfin x s hx e hs hf
 ·rw[hset]at hx;by_cases e:x=k
  ·exact .inr (.inl (List.mem_append_right _ (by rw[e];exact List.mem_singleton.2 rfl)))
  ·rw[if_neg e]at hx;rcases h.cls x y hx hl' with h1|h1|h1
   ·refine .inl ?_;rw[hset];split
    ·rfl
    ·exact h1
   ·exact .inr (.inl (List.mem_append_left _ h1))
   ·exact .inr (.inr h1)
 ·have:=z0d hk;have:=h.few;rw[List.length_append,List.length_singleton];omega
theorem TodoP.pop{d:List St}{L:List Bool}{T:List Int}{x:Nat}(h:TodoP d d.length L (T++[(x:Int)]) (fun _ _=>False))(f:List Int)(hf:∀y:Nat,((y:Nat):Int)∈f↔Lead d y x):TodoP d d.length L T (fun z y=>z=x∧y∈f):=by
 refine⟨h.len,h.snd,fun y hy=>h.tin y (List.mem_append_left _ hy),h.fin,fun z y hz hl=>?_,?_⟩
 ·rcases h.cls z y hz hl with h1|h1|h1
  ·exact .inl h1
  ·rcases List.mem_append.1 h1 with h1|h1
   ·exact .inr (.inl h1)
   ·have e:z=x:=by have:=List.mem_singleton.1 h1;omega
    subst e;exact .inr (.inr ⟨rfl,(hf y).2 hl⟩)
  ·exact h1.elim
 ·have:=h.few;rw[List.length_append,List.length_singleton]at this;omega
theorem TodoP.drop{d:List St}{i:Nat}{L:List Bool}{T:List Int}{x k:Nat}{r:List Int}(h:TodoP d i L T (fun z y=>z=x∧y∈(k:Int)::r))(hk:L[k]? =some true):TodoP d i L T (fun z y=>z=x∧y∈r):=by
 refine⟨h.len,h.snd,h.tin,h.fin,fun z y hz hl=>?_,h.few⟩;rcases h.cls z y hz hl with h1|h1|⟨h1,h2⟩
 ·exact .inl h1
 ·exact .inr (.inl h1)
 ·rcases List.mem_cons.1 h2 with h2|h2
  ·have:y=k:=by omega
   rw[this];exact .inl hk
  ·exact .inr (.inr ⟨h1,h2⟩)
theorem TodoP.done{d:List St}{i:Nat}{L:List Bool}{T:List Int}{x:Nat}(h:TodoP d i L T (fun z y=>z=x∧y∈([]:List Int))):TodoP d i L T (fun _ _=>False):=
 ⟨h.len,h.snd,h.tin,h.fin,fun z y hz hl=>by
  rcases h.cls z y hz hl with h1|h1|h1
  ·exact .inl h1
  ·exact .inr (.inl h1)
  ·exact absurd h1.2 (List.not_mem_nil),h.few⟩
theorem zBd{d:List St}(hg:Good d){L:List Bool}(h:TodoP d d.length L [] (fun _ _=>False)){x:Nat}{b:Bool}(hx:L[x]? =some b):b=true↔(auOf d).live x:=by
 constructor
 ·intro e
  rw[e]at hx;exact h.snd x hx
 ·rintro⟨r,hr⟩;have:=zod hg (fun x=>L[x]? =some true) (fun i s hs hf=>h.fin i s (List.getElem?_eq_some_iff.1 hs).1 hs hf) (fun y t hl ht=>by
   rcases h.cls t y ht hl with h1|h1|h1
   ·exact h1
   ·cases h1
   ·exact h1.elim) r x hr
  rw[hx]at this;injection this
end
section
open Go.RowKit
structure Cls(d:List St)(cls:Nat→Nat)(rep:Nat→Nat):Prop where
 good:Good d
 iff:∀x,x<d.length→∀y,y<d.length→(cls x=cls y↔Leq (auOf d) x (auOf d) y)
 rep_:∀x,x<d.length→(auOf d).live x→rep (cls x)<d.length∧cls (rep (cls x))=cls x
def addC(cls rep:Nat→Nat)(met:List Nat)(k:Nat):List Nat:=if(zai (fun z=>decide (cls z=k)) met).isSome then met else met++[rep k]
def numK(cls:Nat→Nat)(met:List Nat)(k:Nat):Nat:=(zai (fun z=>decide (cls z=k)) met).getD 0
noncomputable def gOf(d:List St)(cls:Nat→Nat)(x:Nat)(c:Nat):Option Nat:=((auOf d).stepL x c).map cls
def metA(cls rep:Nat→Nat)(met:List Nat)(A:List Arc3):List Nat:=A.foldl (fun m a=>addC cls rep m a.2.2.toNat) met
theorem ze0(cls rep:Nat→Nat)(met:List Nat)(A:List Arc3)(a:Arc3):metA cls rep met (A++[a])=addC cls rep (metA cls rep met A) a.2.2.toNat:=by
 unfold metA;rw[List.foldl_append];rfl
section
variable {d:List St}{cls rep:Nat→Nat}
theorem z2h(met:List Nat)(k:Nat):∃more,addC cls rep met k=met++more:=by
 unfold addC;split
 ·exact⟨[],by simp⟩
 ·exact⟨_,rfl⟩
theorem zD1(met:List Nat)(A:List Arc3):∃more,metA cls rep met A=met++more:=by
 induction A using zhc with
 |h0=>exact⟨[],by simp[metA]⟩
 |
  h1 l a ih=>
  obtain⟨m1,h1⟩:=ih;rw[ze0];obtain⟨m2,h2⟩:=z2h (cls:=cls) (rep:=rep) (metA cls rep met l) a.2.2.toNat
  exact⟨m1++m2,by rw[h2,h1,List.append_assoc]⟩
theorem zp9{met more:List Nat}{k i:Nat}(h:zai (fun z=>decide (cls z=k)) met=some i):zai (fun z=>decide (cls z=k)) (met++more)=some i:=by
 rw[zba,h]
theorem z2i{met:List Nat}{k:Nat}(hr:cls (rep k)=k):∃i,zai (fun z=>decide (cls z=k)) (addC cls rep met k)=some i:=by
 unfold addC;split
 ·rename_i h
  exact Option.isSome_iff_exists.1 h
 ·rename_i h
  rw[zba];cases hf:zai (fun z=>decide (cls z=k)) met with
  |some i=>rw[hf]at h;exact absurd rfl h
  |none=>exact⟨met.length,by simp[zai,hr]⟩
theorem zse{met:List Nat}{k i:Nat}(h:zai (fun z=>decide (cls z=k)) met=some i):addC cls rep met k=met:=by
 unfold addC;rw[h];rfl
theorem zm0(h:Cls d cls rep){x c k:Nat}(hx:x<d.length)(hg:gOf d cls x c=some k):∃y,(auOf d).stepL x c=some y∧y<d.length∧(auOf d).live y∧cls y=k∧rep k<d.length∧cls (rep k)=k:=by
 obtain⟨y,h1,h2⟩:=Option.map_eq_some_iff.1 hg;obtain⟨h3,h4,_⟩:=zjj h.good.within hx h1;have:=h.rep_ y h3 h4;rw[h2]at this;exact⟨y,h1,h3,h4,h2,this⟩
open Classical in
noncomputable def repL(d:List St)(cls rep:Nat→Nat)(y:Nat):Nat:=if y<d.length∧(auOf d).live y then rep (cls y)else y
theorem zC9(h:Cls d cls rep)(y:Nat):Leq (auOf d) (repL d cls rep y) (auOf d) y:=by
 unfold repL;split
 ·rename_i hy
  have:=h.rep_ y hy.1 hy.2;exact(h.iff _ this.1 y hy.1).1 this.2
 ·exact Leq.refl _ _
theorem zrj{σ:Type}{M:Au σ}{r:σ→σ}{z y:σ}{p:Prop}[hp:Decidable p](h:Leq M z M y↔p):(zb6 M r).eqv z y=decide p:=by
 have e:(zb6 M r).eqv z y= @decide (Leq M z M y) (Classical.propDecidable _):=rfl;rw[e];exact decide_eq_decide.2 h
theorem zw1(h:Cls d cls rep){x:Nat}(hx:x<d.length){met:List Nat}(hm:∀z∈met,z<d.length):∀n,n≤256→metA cls rep met (runs (gOf d cls x) n)=(zb6 (auOf d) (repL d cls rep)).row x met n∧∀z∈metA cls rep met (runs (gOf d cls x) n),z<d.length
 |0,_=>⟨rfl,hm⟩
 |
  n+1,hn=>by
  obtain⟨ih,ih2⟩:=zw1 h hx hm n (by omega);have hstep:(zb6 (auOf d) (repL d cls rep)).step x n=(auOf d).stepL x n:=rfl;rw[runs,Bfs.row,hstep];cases hg:gOf d cls x n with
  |
   none=>
   have hs:(auOf d).stepL x n=none:=Option.map_eq_none_iff.1 hg;rw[hs];exact⟨ih,ih2⟩
  |
   some k=>
   obtain⟨y,h1,h2,h3,h4,h5,h6⟩:=zm0 h hx hg;rw[h1];simp only
   have hgrow:metA cls rep met (zeh (runs (gOf d cls x) n) n k)=addC cls rep (metA cls rep met (runs (gOf d cls x) n)) k:=by
    unfold zeh;split
    ·rename_i a ha
     by_cases hj:a.2.1+1=(n:Int)∧a.2.2=(k:Int)
     ·rw[if_pos hj,ze0];obtain⟨l,hl⟩:=List.getLast?_eq_some_iff.1 ha;rw[hl,List.dropLast_concat,ze0,hj.2,Int.toNat_natCast];obtain⟨i,hi⟩:=z2i (met:=metA cls rep met l) h6;rw[zse hi]
     ·rw[if_neg hj,ze0,Int.toNat_natCast]
    ·rename_i hn
     rw[List.getLast?_eq_none_iff.1 hn];show addC cls rep met _=_;rw[Int.toNat_natCast];rfl
   have hfind:zai (fun z=>(zb6 (auOf d) (repL d cls rep)).eqv z y) ((zb6 (auOf d) (repL d cls rep)).row x met n)=zai (fun z=>decide (cls z=k)) (metA cls rep met (runs (gOf d cls x) n)):=by
    rw[←ih];have:∀l:List Nat,(∀z∈l,z<d.length)→zai (fun z=>(zb6 (auOf d) (repL d cls rep)).eqv z y) l=zai (fun z=>decide (cls z=k)) l:=by
     intro l
     induction l with
     |nil=>intro _;rfl
     |
      cons z r ihl=>
      intro hl
      rw[zai,zai,ihl fun u hu=>hl u (List.mem_cons_of_mem _ hu)];have e:(zb6 (auOf d) (repL d cls rep)).eqv z y=decide (cls z=k):=by
       rw[←h4];exact zrj ((h.iff z (hl z (List.mem_cons_self ..)) y h2).symm)
      rw[e]
    exact this _ ih2
   rw[hgrow,hfind];unfold addC;cases hf:zai (fun z=>decide (cls z=k)) (metA cls rep met (runs (gOf d cls x) n))with
   |
    some i=>
    simp only[Option.isSome_some,if_true];exact⟨ih,ih2⟩
   |
    none=>
    simp only[Option.isSome_none,Bool.false_eq_true,if_false];refine⟨?_,fun z hz=>?_⟩
    ·have:(zb6 (auOf d) (repL d cls rep)).rep y=rep k:=by
      show repL d cls rep y=_;unfold repL;rw[if_pos ⟨h2,h3⟩,h4]
     rw[this,ih]
    ·rcases List.mem_append.1 hz with hz|hz
     ·exact ih2 z hz
     ·rw[List.mem_singleton.1 hz];exact h5
def Apart(cls:Nat→Nat)(met:List Nat):Prop:=met.Pairwise fun x y=>cls x≠cls y
theorem z5e{met:List Nat}{k:Nat}(h:Apart cls met)(hr:cls (rep k)=k):Apart cls (addC cls rep met k):=by
 unfold addC;split
 ·exact h
 ·rename_i hn
  refine List.pairwise_append.2 ⟨h,List.pairwise_singleton _ _,fun x hx y hy=>?_⟩;rw[List.mem_singleton.1 hy,hr];have hf:zai (fun z=>decide (cls z=k)) met=none:=by
   cases hf:zai (fun z=>decide (cls z=k)) met with
   |none=>rfl
   |some i=>rw[hf]at hn;exact absurd rfl hn
  have:=ze8.1 hf x hx;exact of_decide_eq_false this
theorem zq4{met:List Nat}{cnt:Nat}(h:Apart cls met)(hc:∀z∈met,cls z<cnt):met.length≤cnt:=by
 have hn:(met.map cls).Nodup:=by
  unfold List.Nodup;rw[List.pairwise_map];exact h
 have:∀(m:Nat) (l:List Nat),l.Nodup→(∀z∈l,z<m)→l.length≤m:=by
  intro m
  induction m with
  |zero=>intro l _ hl;cases l with
   |nil=>exact Nat.le_refl _
   |cons a r=>exact absurd (hl a (List.mem_cons_self ..)) (Nat.not_lt_zero _)
  |
   succ m ih=>
   intro l hnd hl
   have h1:=ih (l.erase m) (hnd.erase _) fun z hz=>by
    have:=(List.Nodup.mem_erase_iff hnd).1 hz;have:=hl z this.2;omega
   rw[List.length_erase]at h1;split at h1<;>omega
 have:=this cnt (met.map cls) hn fun z hz=>by
  obtain⟨y,hy,rfl⟩:=List.mem_map.1 hz;exact hc y hy
 rwa[List.length_map]at this
theorem z84{met more:List Nat}{k i:Nat}(h:zai (fun z=>decide (cls z=k)) met=some i):numK cls (met++more) k=numK cls met k:=by
 unfold numK;rw[zp9 h,h]
theorem z0k(h:Cls d cls rep){x:Nat}(hx:x<d.length){met:List Nat}:∀(A:List Arc3),(∀a∈A,∃c k,gOf d cls x c=some k∧a.2.2=(k:Int))→∀a∈A,∃i,zai (fun z=>decide (cls z=a.2.2.toNat)) (metA cls rep met A)=some i:=by
 intro A
 induction A using zhc with
 |h0=>intro _ a ha;cases ha
 |
  h1 l b ih=>
  intro hA a ha
  rw[ze0];rcases List.mem_append.1 ha with ha|ha
  ·obtain⟨i,hi⟩:=ih (fun u hu=>hA u (List.mem_append_left _ hu)) a ha;obtain⟨m,hm⟩:=z2h (cls:=cls) (rep:=rep) (metA cls rep met l) b.2.2.toNat
   rw[hm];exact⟨i,zp9 hi⟩
  ·rw[List.mem_singleton.1 ha];obtain⟨c,k,hg,hk⟩:=hA b (by simp);obtain⟨y,_,_,_,_,_,h6⟩:=zm0 h hx hg;rw[hk,Int.toNat_natCast];exact z2i h6
def numA(cls:Nat→Nat)(met:List Nat)(A:List Arc3):List Arc3:=A.map fun a=>(a.1,a.2.1,(numK cls met a.2.2.toNat:Int))
theorem zw0{met more:List Nat}{A:List Arc3}(h:∀a∈A,∃i,zai (fun z=>decide (cls z=a.2.2.toNat)) met=some i):numA cls (met++more) A=numA cls met A:=by
 unfold numA;refine List.map_congr_left fun a ha=>?_
 obtain⟨i,hi⟩:=h a ha;rw[z84 hi]
theorem z85(h:Cls d cls rep){x:Nat}(hx:x<d.length){met:List Nat}(hm:∀z∈met,z<d.length)(hall:∀c k,c<256→gOf d cls x c=some k→∃i,zai (fun z=>decide (cls z=k)) met=some i):
  numA cls met (runs (gOf d cls x) 256)=runs ((zb6 (auOf d) (repL d cls rep)).num met x) 256:=by
 have hnum:∀c,c<256→(gOf d cls x c).map (numK cls met)=(zb6 (auOf d) (repL d cls rep)).num met x c:=by
  intro c hc
  have e:(zb6 (auOf d) (repL d cls rep)).num met x c=((auOf d).stepL x c).bind fun y=>zai (fun z=>(zb6 (auOf d) (repL d cls rep)).eqv z y) met:=rfl
  rw[e];cases hg:gOf d cls x c with
  |
   none=>
   have hs:(auOf d).stepL x c=none:=Option.map_eq_none_iff.1 hg;rw[hs];rfl
  |
   some k=>
   obtain⟨y,h1,h2,h3,h4,h5,h6⟩:=zm0 h hx hg;rw[h1];show some (numK cls met k)=zai (fun z=>(zb6 (auOf d) (repL d cls rep)).eqv z y) met;have:∀l:List Nat,(∀z∈l,z<d.length)→zai (fun z=>(zb6 (auOf d) (repL d cls rep)).eqv z y) l=zai (fun z=>decide (cls z=k)) l:=by
    intro l
    induction l with
    |nil=>intro _;rfl
    |
     cons z r ihl=>
     intro hl
     rw[zai,zai,ihl fun u hu=>hl u (List.mem_cons_of_mem _ hu)];have e:(zb6 (auOf d) (repL d cls rep)).eqv z y=decide (cls z=k):=by
      rw[←h4];exact zrj ((h.iff z (hl z (List.mem_cons_self ..)) y h2).symm)
     rw[e]
   rw[this met hm];obtain⟨i,hi⟩:=hall c k hc hg;unfold numK;rw[hi];rfl
 rw[←zcc 256 hnum];have hmap:=zzi (gOf d cls x) (numK cls met) 256 fun c hc c' hc' k k' hk hk' e=>by
  obtain⟨i,hi⟩:=hall c k hc hk;obtain⟨j,hj⟩:=hall c' k' hc' hk';unfold numK at e;rw[hi,hj]at e;have e:i=j:=e;subst e;obtain⟨z,h1,h2⟩:=ze7 hi;obtain⟨z',h1',h2'⟩:=ze7 hj;rw[h1]at h1';injection h1' with h1'
  subst h1';have h2:=of_decide_eq_true h2;have h2':=of_decide_eq_true h2';rw[←h2,h2']
 rw[hmap];rfl
end
def zcg{σ:Type}(M:Au σ)(x:σ)(out:List St):Prop:=
 (M.live x∧∃r:σ→σ,(∀y,Leq M (r y) M y)∧∃f,((zb6 M r).run f 0 [x])[f]? =none∧out=leastOf M r f x)∨(¬M.live x∧out=[(false,[])])
theorem zoh{σ:Type}(M:Au σ)(r:σ→σ){f:Nat}{x:σ}(h:((zb6 M r).run f 0 [x])[f]? =none)(k:Nat):leastOf M r (f+k) x=leastOf M r f x:=by
 unfold leastOf;rw[Bfs.run_end _ (by rw[Nat.zero_add];exact h)]
theorem zcg.eq{σ τ:Type}{M:Au σ}{N:Au τ}{x:σ}{y:τ}{a b:List St}(ha:zcg M x a)(hb:zcg N y b)(h:Leq M x N y):a=b:=by
 rcases ha with⟨hl,r,hr,f,hf,rfl⟩|⟨hl,rfl⟩
 ·rcases hb with⟨hl',q,hq,g,hg,rfl⟩|⟨hl',_⟩
  ·rw[←zoh M r hf g,←zoh N q hg f,Nat.add_comm g f];exact z49 hr hq _ h
  ·exact absurd (h.live.1 hl) hl'
 ·rcases hb with⟨hl',_⟩|⟨_,rfl⟩
  ·exact absurd (h.live.2 hl') hl
  ·rfl
structure NumP(d:List St)(cls rep:Nat→Nat)(i:Nat)(met:List Nat)(out:List St):Prop where
 run:met=(zb6 (auOf d) (repL d cls rep)).run i 0 [0]
 lt:∀z∈met,z<d.length
 ap:Apart cls met
 has:∀(j x:Nat),j<i→met[j]? =some x→∀c k,c<256→gOf d cls x c=some k→∃q,zai (fun z=>decide (cls z=k)) met=some q
 out_:out=(met.take i).map fun x=>((auOf d).fin x,numA cls met (runs (gOf d cls x) 256))
 le:i≤met.length
theorem NumP.start{d:List St}{cls rep:Nat→Nat}(h:Cls d cls rep):NumP d cls rep 0 [0] []:=by
 refine⟨rfl,fun z hz=>?_,List.pairwise_singleton _ _,fun j x hj=>absurd hj (Nat.not_lt_zero _),rfl,Nat.zero_le _⟩;rw[List.mem_singleton.1 hz];exact List.length_pos_iff.2 h.good.ne
theorem zic{d:List St}{cls:Nat→Nat}{x:Nat}:∀a∈runs (gOf d cls x) 256,∃c k,gOf d cls x c=some k∧a.2.2=(k:Int):=fun a ha=>by
 obtain⟨c,k,_,h1,h2⟩:=zgi _ 256 a ha;exact⟨c,k,h1,h2⟩
theorem z8f{g:Nat→Option Nat}{c k:Nat}(hc:c<256)(hg:g c=some k):∃a∈runs g 256,a.2.2=(k:Int):=by
 have h:=(zf4 g 256).2 c;rw[if_pos hc,hg]at h;obtain⟨a,ha,hk,_⟩:=zig h;exact⟨a,ha,hk⟩
theorem zrf{d:List St}{cls rep:Nat→Nat}(h:Cls d cls rep){x:Nat}(hx:x<d.length){met:List Nat}(ha:Apart cls met):∀A:List Arc3,(∀a∈A,∃c k,gOf d cls x c=some k∧a.2.2=(k:Int))→Apart cls (metA cls rep met A):=by
 intro A
 induction A using zhc with
 |h0=>intro _;exact ha
 |
  h1 l b ih=>
  intro hA
  rw[ze0];obtain⟨c,k,h1,h2⟩:=hA b (by simp);obtain⟨_,_,_,_,_,_,h6⟩:=zm0 h hx h1;refine z5e (ih fun a ha=>hA a (List.mem_append_left _ ha)) ?_;rw[h2,Int.toNat_natCast];exact h6
theorem zI8{d:List St}{cls rep:Nat→Nat}(h:Cls d cls rep){x:Nat}(hx:x<d.length){met:List Nat}(hm:∀z∈met,z<d.length):∀A:List Arc3,(∀a∈A,∃c k,gOf d cls x c=some k∧a.2.2=(k:Int))→∀z∈metA cls rep met A,z<d.length:=by
 intro A
 induction A using zhc with
 |h0=>intro _;exact hm
 |
  h1 l b ih=>
  intro hA z hz
  rw[ze0]at hz;obtain⟨c,k,h1,h2⟩:=hA b (by simp);obtain⟨_,_,_,_,_,h5,_⟩:=zm0 h hx h1;unfold addC at hz;split at hz
  ·exact ih (fun a ha=>hA a (List.mem_append_left _ ha)) z hz
  ·rcases List.mem_append.1 hz with hz|hz
   ·exact ih (fun a ha=>hA a (List.mem_append_left _ ha)) z hz
   ·rw[List.mem_singleton.1 hz,h2,Int.toNat_natCast];exact h5
theorem NumP.step{d:List St}{cls rep:Nat→Nat}(hc:Cls d cls rep){i x:Nat}{met:List Nat}{out:List St}(h:NumP d cls rep i met out)(hx:met[i]? =some x):NumP d cls rep (i+1) (metA cls rep met (runs (gOf d cls x) 256)) (out++[((auOf d).fin x,numA cls (metA cls rep met (runs (gOf d cls x) 256)) (runs (gOf d cls x) 256))]):=by
 have hxd:=h.lt x (List.mem_of_getElem? hx);obtain⟨hrow,hlt⟩:=zw1 hc hxd h.lt 256 (Nat.le_refl _);obtain⟨more,hmore⟩:=zD1 (cls:=cls) (rep:=rep) met (runs (gOf d cls x) 256);have hil:=(List.getElem?_eq_some_iff.1 hx).1;have hgot:=z0k hc hxd (met:=met) (runs (gOf d cls x) 256) zic;refine⟨?_,hlt,zrf hc hxd h.ap _ zic,fun j y hj hy c k hck hg=>?_,?_,by rw[hmore,List.length_append];omega⟩
 ·rw[Bfs.run_succ,Nat.zero_add,←h.run,hx];exact hrow
 ·by_cases hji:j<i
  ·rw[hmore,List.getElem?_append_left (by omega)]at hy;obtain⟨q,hq⟩:=h.has j y hji hy c k hck hg;rw[hmore];exact⟨q,zp9 hq⟩
  ·obtain rfl:j=i:=by omega
   rw[hmore,List.getElem?_append_left (by omega),hx]at hy;injection hy with hy
   subst hy;obtain⟨a,ha,hak⟩:=z8f hck hg;obtain⟨q,hq⟩:=hgot a ha;rw[hak,Int.toNat_natCast]at hq;exact⟨q,hq⟩
 ·have htake:(metA cls rep met (runs (gOf d cls x) 256)).take (i+1)=met.take i++[x]:=by
   rw[hmore,List.take_append_of_le_length (by omega),List.take_add_one,hx];rfl
  rw[htake,List.map_append,h.out_];congr 1
  refine List.map_congr_left fun y hy=>?_
  obtain⟨j,hj⟩:=List.mem_iff_getElem?.1 hy;rw[List.getElem?_take]at hj;split at hj
  ·rename_i hji
   rw[hmore];rw[zw0 fun a ha=>by
    obtain⟨c,k,hg,hk⟩:=zic a ha;have hc256:c<256:=by
     obtain⟨c',k',h1,h2,h3⟩:=zgi _ 256 a ha;have hl:=(zf4 (gOf d cls y) 256).2 c;apply Classical.byContradiction
     intro hn
     obtain⟨u,hu,_⟩:=Option.map_eq_some_iff.1 hg;unfold Au.stepL at hu;cases hs:(auOf d).step y c with
     |none=>rw[hs]at hu;cases hu
     |
      some v=>
      have hs2:(d[y]?).bind (fun s=>(lookA s.2 c).map Int.toNat)=some v:=hs;obtain⟨s,h4,h5⟩:=Option.bind_eq_some_iff.1 hs2;obtain⟨t,h6,_⟩:=Option.map_eq_some_iff.1 h5;obtain⟨b,hb,_,hb1,hb2⟩:=zig h6;have:=(hc.good.asc s (List.mem_of_getElem? h4)).ok b hb;omega
    obtain⟨q,hq⟩:=h.has j y hji hj c k hc256 hg;rw[hk,Int.toNat_natCast];exact⟨q,hq⟩]
  ·cases hj
theorem NumP.last{d:List St}{cls rep:Nat→Nat}(hc:Cls d cls rep){i:Nat}{met:List Nat}{out:List St}(h:NumP d cls rep i met out)(hi:i=met.length)(hl:(auOf d).live 0):zcg (auOf d) 0 out:=by
 refine .inl ⟨hl,repL d cls rep,zC9 hc,i,?_,?_⟩
 ·rw[←h.run,List.getElem?_eq_none_iff];omega
 ·rw[h.out_,List.take_of_length_le (by omega)];unfold leastOf Bfs.out;rw[←h.run];refine List.map_congr_left fun x hx=>?_
  have hxd:=h.lt x hx;obtain⟨j,hj⟩:=List.mem_iff_getElem?.1 hx;have hjl:=(List.getElem?_eq_some_iff.1 hj).1;rw[z85 hc hxd h.lt fun c k hck hg=>h.has j x (by omega) hj c k hck hg]
end
end Go.Proofs.YtaociahafamncaaGreatDoor
