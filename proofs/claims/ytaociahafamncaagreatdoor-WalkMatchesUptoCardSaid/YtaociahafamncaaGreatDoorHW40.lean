/- Folded. -/
import Derived.Test.YtaociahafamncaaGreatDoorHW39
import Derived.Test.YtaociahafamncaaGreatDoorRows
set_option maxRecDepth 100000
set_option maxHeartbeats 40000000
set_option linter.unusedVariables false
namespace Go.Proofs.YtaociahafamncaaGreatDoor
section
open Go.RowKit Go.Maps
open F (Ent Nd Nh Fine DictAt entsC entC Ents rightE fits64 buildDs baseOf allE)
theorem a_open:openB [([97],0)]=true:=by decide
theorem a_fits:∀e∈([([97],0)]:List Ent),fits64 e.2:=by
 intro e he
 simp at he
 subst he;constructor<;>decide
theorem sts_none(w:World)(B:Nat):StsIn w B none 0 0 []:=⟨rfl,Sl.empty,Nat.le_refl _,by omega,by simp⟩
theorem take_none(l:List Ent):takeE l (([]:List Sh).map (·.d))=[]:=by
 unfold takeE;refine List.filter_eq_nil_iff.2 fun e _=>?_
 unfold takesB;rw[decide_eq_false (by decide)];simp
theorem wnil_walk(w:World)(s:ByteArray)(A:Option Addr)(na ca:Nat)(z:Int)(hT:Tab w):
  Calls Tryz.prog 5 #[.string s,.slice A na ca,.int .i64 z] w fun e w'=>e=.returned (.bool true)∧Below w.heap.size w w':=by
 have HT:=Lib.hid hT;clear hT;have heq:=fun w=>eql_two w ([],0) ([],0)
 have hgu:=F.gu_ent;simp only[decide_true]at heq;go_enter Tryz.func5,Tryz.ntmps5
 go_wp2_with fail;refine(wceil_nil w s).mono ?_;rintro e w1 ⟨rfl,hb1⟩;have HB1:=Lib.hid (bnew hb1 (.cells #[.string ⟨#[]⟩,.int .i64 0] 29));have HX1:=Lib.hid (heap_alloc_new w1 (.cells #[.string ⟨#[]⟩,.int .i64 0] 29));clear hb1;go_wp2_with fail;obtain⟨xb,hxb⟩:∃k,w1.heap.size=k:=⟨_,rfl⟩;generalize w1.alloc (.cells #[.string ⟨#[]⟩,.int .i64 0] 29)=w2 at*;rw[hxb]at HX1⊢;clear hxb w1;refine(wmatch_nil w2 _ z).mono ?_;rintro e w3 ⟨rfl,hb3⟩;have HX3:Hid (w3.heap[xb]? =some (.cells #[.string ⟨#[]⟩,.int .i64 0] 29 (0,0))):=(hb3.block _ (Array.getElem?_eq_some_iff.1 HX1.out).1).trans HX1.out;have HB3:=Lib.hid (bcall HB1.out hb3);have hb4:=bnew (brefl w3) (.cells #[.string ⟨#[97]⟩,.int .i64 0] 29);have HB4:=Lib.hid (bcall HB3.out hb4);have HX4:Hid ((w3.alloc (.cells #[.string ⟨#[97]⟩,.int .i64 0] 29)).heap[xb]? =some (.cells #[.string ⟨#[]⟩,.int .i64 0] 29 (0,0))):=(hb4.block _ (Array.getElem?_eq_some_iff.1 HX3.out).1).trans HX3.out;have HEN:=Lib.hid (ents_lit w3 [([97],0)] #[.string ⟨#[97]⟩,.int .i64 0] rfl (by simp) w3.heap.size rfl 1 rfl);clear hb3 hb4 HB1 HX1;go_wp2_with fail;refine(open13_any _ _ (Nat.le_refl _) _ 1 1 [([97],0)] HEN.out a_fits (by simp) (HT.out.below HB4.out)).mono ?_;rintro e w5 ⟨hb5,⟨hno,_⟩|⟨_,p,B,dn,k,A3,hs,rfl,hd,hm⟩⟩
 ·rw[a_open]at hno;cases hno
 obtain⟨hf,hwl,hall,hle⟩:=open_facts a_open a_fits hm;have hlen:=hd.len;have HX5:Hid (w5.heap[xb]? =some (.cells #[.string ⟨#[]⟩,.int .i64 0] 29 (0,0))):=(hb5.block _ (Array.getElem?_eq_some_iff.1 HX4.out).1).trans HX4.out;have HB5:=Lib.hid (bcall HB4.out hb5);have HM:=Lib.hid (wmatch_any w5 p B dn k A3 (baseOf [([97],0)]) (([([97],0)]:List Ent).length:Int) hs hd hf hwl (by omega) w5.heap.size (Nat.le_refl _) none 0 0 [] (sts_none w5 w5.heap.size) 5 (by omega) (by rw[hall];simp));rw[hall,take_none]at HM;clear hb5 hd hm hf hwl hall hle hlen HEN HB4 HX4 HB3 HX3;go_wp2_with fail;refine HM.out.mono ?_;rintro e w6 ⟨v6,rfl,hrow,hb6⟩;rw[List.take_nil]at hrow;obtain⟨A6,c6,rfl,_⟩:=own_shape hrow;have HX6:Hid (w6.heap[xb]? =some (.cells #[.string ⟨#[]⟩,.int .i64 0] 29 (0,0))):=(hb6.block _ (Array.getElem?_eq_some_iff.1 HX5.out).1).trans HX5.out;have hb7:=bnew (brefl w6) (.cells #[.int .i64 0] 3);have HB7:=Lib.hid (bcall (bcall HB5.out hb6) hb7);have hx7:=(hb7.block _ (Array.getElem?_eq_some_iff.1 HX6.out).1).trans HX6.out;have hn7:=heap_alloc_new w6 (.cells #[.int .i64 0] 3);clear hb6 hrow hb7 HM HB5 HX5 HX6;have HX7:=Lib.hid hx7;have HN7:=Lib.hid hn7;clear hx7 hn7;go_wp2_with fail;obtain⟨nb,hnb⟩:∃k,w6.heap.size=k:=⟨_,rfl⟩;generalize w6.alloc (.cells #[.int .i64 0] 3)=w7 at*;rw[hnb]at HN7⊢;clear hnb w6;refine(wfrom_nil w7 _ _).mono ?_;rintro e w8 ⟨rfl,hb8⟩;have HX8:Hid (w8.heap[xb]? =some (.cells #[.string ⟨#[]⟩,.int .i64 0] 29 (0,0))):=(hb8.block _ (Array.getElem?_eq_some_iff.1 HX7.out).1).trans HX7.out;have HN8:Hid (w8.heap[nb]? =some (.cells #[.int .i64 0] 3 (0,0))):=(hb8.block _ (Array.getElem?_eq_some_iff.1 HN7.out).1).trans HN7.out;have HB8:=Lib.hid (bcall HB7.out hb8);clear hb8 HX7 HN7 HB7;go_wp2_with fail;refine(awake13_any w8 (HT.out.below HB8.out)).mono ?_;rintro e w9 ⟨rfl,hb9⟩;have hx9:=(hb9.block _ (Array.getElem?_eq_some_iff.1 HX8.out).1).trans HX8.out;have hn9:=(hb9.block _ (Array.getElem?_eq_some_iff.1 HN8.out).1).trans HN8.out;have x0:=cell_of_row w9 _ 0 _ _ (0,0) hx9;have x1:=cell_of_row w9 _ 1 _ _ (0,0) hx9;have n0:=cell_of_row w9 _ 0 _ _ (0,0) hn9;simp at x0 x1 n0
 have HB9:=Lib.hid (bcall HB8.out hb9);clear hb9 hx9 hn9 HX8 HN8 HB8;go_wp2_with fail;go_ret;exact⟨rfl,HB9.out⟩
theorem wnil_walkc(w:World)(s:ByteArray)(_:s.size≤maxLen)(_:s.data.toList.length≤reachBytes)(A:Option Addr)(n c:Nat)(x:Nat→tState.den)(_:StsIn w w.heap.size A n c (shL n x))(z:Int)(_:(Lit.int .i64 z).wf=true)(hT:Tab w):
  Calls Tryz.prog 5 #[.string s,.slice A n c,.int .i64 z] w fun e w'=>e=.returned (.bool true)∧Below w.heap.size w w':=wnil_walk w s A n c z hT
end
section
theorem bulk_one{H:Type}(d:DataW H):1≤Rows.uptoBulk d:=by
 cases d with
 |lit l=>cases l<;>simp[Rows.uptoBulk]
 |nil=>simp[Rows.uptoBulk]
 |ptr d=>simp[Rows.uptoBulk]
 |slice elems spare=>simp[Rows.uptoBulk]
 |agg parts=>simp[Rows.uptoBulk]
 |iface t d=>simp[Rows.uptoBulk]
 |map entries=>simp[Rows.uptoBulk]
 |held h=>simp[Rows.uptoBulk]
theorem bulk_mem{H:Type}{d:DataW H}{l:List (DataW H)}(h:d∈l):Rows.uptoBulk d≤Rows.uptoBulkAll l:=by
 induction l with
 |nil=>cases h
 |
  cons x r ih=>
  simp only[Rows.uptoBulkAll];rcases List.mem_cons.1 h with e|e
  ·subst e;omega
  ·have:=ih e;omega
theorem bulk_len{H:Type}(l:List (DataW H)):l.length≤Rows.uptoBulkAll l:=by
 induction l with
 |nil=>simp[Rows.uptoBulkAll]
 |cons x r ih=>have:=bulk_one x;simp only[Rows.uptoBulkAll,List.length_cons];omega
theorem bulk_law(H:Type):BulkLaw (H:=H) Rows.uptoBulk where
 len:=fun es sp=>by
  have:=bulk_len es;simp only[Rows.uptoBulk];omega
 elem:=fun es sp d hd=>by
  have:=bulk_mem hd;simp only[Rows.uptoBulk];omega
 part:=fun ps d hd=>by
  have:=bulk_mem hd;simp only[Rows.uptoBulk];omega
 str:=fun s=>by simp[Rows.uptoBulk]
theorem bulk_part{H:Type}{l:List (DataW H)}(hk:Rows.uptoSmall H l=true){d:DataW H}(hd:d∈l):Rows.uptoBulk d≤1048576:=by
 have h1:Rows.uptoBulkAll l≤1048576:=of_decide_eq_true hk;exact Nat.le_trans (bulk_mem hd) h1
end
section
open Go.RowKit Go.Maps
open F (Ent entsC entC)
def GotI(N gb sb:Nat)(stop:Int)(h:List Ent)(W:World)(S:Nat→Prop):Prop:=∃v,(∀b,S b↔b=gb∨some b=v.ownBlock)∧N≤gb∧sb<gb∧W.heap[gb]? =some (.cells #[v] 22 (0,0))∧W.heap[sb]? =some (.cells #[.int .i64 stop] 3 (0,0))∧W.ownsRow (gb+1) 29 2 v h.length (entsC h)
theorem got_cl(N gb sb:Nat)(stop:Int)(h:List Ent)(W:World)(S:Nat→Prop)(e:Ent)(hI:GotI N gb sb stop h W S)(hl:h.length<1048576):
  Calls Tryz.prog 11 #[.agg #[.string ⟨e.1.toArray⟩,.int .i64 e.2],.pointer (some ⟨gb,0,none⟩),.pointer (some ⟨sb,0,none⟩)] W fun r W'=>r=.returned (.bool (((h++[e]).length:Int) !=stop))∧∃S',GotI N gb sb stop (h++[e]) W' S'∧But S W W'∧∀b,S' b→S b∨W.heap.size≤b:=by
 obtain⟨v,hS,hN,hsb,h3,h4,h5⟩:=hI;obtain⟨et,ez⟩:=e;obtain⟨Av,cv,rfl,hcv⟩:=own_shape h5;have c0:=cell_of_row W gb 0 _ _ (0,0) h3;have d0:=cell_of_row W sb 0 _ _ (0,0) h4;simp at c0 d0
 have l1:=(Array.getElem?_eq_some_iff.1 h3).1;have l2:=(Array.getElem?_eq_some_iff.1 h4).1;have HS:=Lib.hid hS;have H3:=Lib.hid h3;have H4:=Lib.hid h4;have H5:=Lib.hid h5;have HO1:=Lib.hid (own_kept h5 (bnew (brefl W) (.cells #[.string ⟨et.toArray⟩,.int .i64 ez] 29)));have HNE:Hid (∀k,k≤gb→some k≠(Value.slice Av h.length cv).ownBlock):=fun k hk e=>by
  have:=(H5.out.lt _ e.symm).1;omega
 have hlen:(h++[((et,ez):Ent)]).length=h.length+1:=by simp
 rw[hlen];clear hS h3 h4 h5 hlen;go_enter Tryz.func11,Tryz.ntmps11
 go_wp2_with (at_builtin;refine wpList_push (W.alloc (.cells #[.string ⟨et.toArray⟩,.int .i64 ez] 29)) _ _ rfl _ _ _ rfl F.el_ent _ _ _ rfl HO1.out rfl (by simp) rfl (by simp[Value.oneCell']) (by unfold maxLen;omega) (by omega) (by simp;omega) (Below.refl _ _) ?_;intro v1 w1 hown1 hb1 hg1 hgm;obtain⟨A1,c1,rfl,_⟩:=own_shape hown1;have hx3:=(hg1.block gb (by simp;omega) (HNE.out gb (Nat.le_refl _))).trans ((Below.heap_alloc _ _ _ l1).trans H3.out);have hx4:=(hg1.block sb (by simp;omega) (HNE.out sb (by omega))).trans ((Below.heap_alloc _ _ _ l2).trans H4.out);have k0:=cell_of_row w1 gb 0 _ _ (0,0) hx3;have k1:=cell_of_row w1 sb 0 _ _ (0,0) hx4;have z0:=F.free_at hx3 0;simp at k0 k1;have HX3:=Lib.hid hx3;have HX4:=Lib.hid hx4;have HG1:=Lib.hid hg1;have HOW:=Lib.hid hown1;have hgl:gb<w1.heap.size:=(Array.getElem?_eq_some_iff.1 hx3).1;clear hx3 hx4)
 have HGM:Hid ((Value.slice A1 (h.length+1) c1).ownBlock=(Value.slice Av h.length cv).ownBlock∨∃g,(Value.slice A1 (h.length+1) c1).ownBlock=some g∧(W.alloc (.cells #[.string ⟨et.toArray⟩,.int .i64 ez] 29)).heap.size≤g):=hgm;clear hgm;go_ret;have hg:=HG1.out;refine⟨rfl,fun b=>b=gb∨some b=(Value.slice A1 (h.length+1) c1).ownBlock,⟨_,fun b=>Iff.rfl,hN,hsb,?_,?_,?_⟩,⟨hg.os,hg.tape,hg.output,?_,fun k hk hn=>?_⟩,fun b hb=>?_⟩
 ·have:=F.blk_set (j:=0) HX3.out (.slice A1 (h.length+1) c1);simpa using this
 ·rw[Below.heap_setCell _ _ _ _ (by show sb≠gb;omega)];exact HX4.out
 ·have e1:entsC (h++[((et,ez):Ent)])=entsC h++(#[Value.string ⟨et.toArray⟩,.int .i64 ez]:Array Value).toList:=by
   unfold F.entsC;rw[List.flatMap_append];rfl
  rw[e1,List.length_append];exact F.own_set HOW.out (Nat.lt_succ_self _)
 ·have:=hg.size;simp at this⊢
  omega
 ·have hk1:k≠gb:=fun e=>hn ((HS.out k).2 (.inl e))
  have hk2:some k≠(Value.slice Av h.length cv).ownBlock:=fun e=>hn ((HS.out k).2 (.inr e))
  rw[Below.heap_setCell _ _ _ _ (by exact hk1),hg.block k (by simp;omega) hk2,Below.heap_alloc _ _ _ hk]
 ·rcases hb with rfl|hb
  ·exact .inl ((HS.out _).2 (.inl rfl))
  ·rcases HGM.out with h1|⟨g,h1,h2⟩
   ·exact .inl ((HS.out _).2 (.inr (hb.trans h1)))
   ·rw[h1]at hb;injection hb with hb
    simp at h2
    exact .inr (by omega)
theorem got_yield(N gb sb:Nat)(stop:Int):Yield N 11 ⟨gb,0,none⟩ ⟨sb,0,none⟩ (fun h=>(h.length:Int) !=stop) (GotI N gb sb stop) where
 low:=by
  rintro h W S ⟨v,hS,h1,h2,h4,h5,h6⟩ b hb;have l1:=(Array.getElem?_eq_some_iff.1 h4).1;rcases(hS b).1 hb with rfl|hb
  ·exact⟨h1,l1⟩
  ·have:=h6.lt b hb.symm;omega
 keep:=by
  rintro h W W' S ⟨v,hS,h1,h2,h4,h5,h6⟩ hb;exact⟨v,hS,h1,h2,(hb.block _ (Array.getElem?_eq_some_iff.1 h4).1).trans h4,(hb.block _ (Array.getElem?_eq_some_iff.1 h5).1).trans h5,own_kept h6 hb⟩
 call:=fun h W S e hI hl=>got_cl N gb sb stop h W S e hI hl
end
section
open F (Ent)
theorem runY_le{stop:Int}(hs:stop≤0):∀(l h:List Ent),(runY (fun h=>(h.length:Int) !=stop) h l).1=h++l
 |[],h=>by rw[List.append_nil];rfl
 |
  e::r,h=>by
  have e1:runY (fun h=>(h.length:Int) !=stop) h (e::r)=if(((h++[e]).length:Int) !=stop)then runY (fun h=>(h.length:Int) !=stop) (h++[e]) r else(h++[e],false):=rfl
  rw[e1,if_pos (by simp;omega),runY_le hs r (h++[e]),List.append_assoc];rfl
theorem runY_gt(stop:Nat):∀(l h:List Ent),h.length<stop→(runY (fun h=>(h.length:Int) !=(stop:Int)) h l).1=(h++l).take stop
 |[],h,hl=>by rw[List.append_nil,List.take_of_length_le (by omega)];rfl
 |
  e::r,h,hl=>by
  have e1:runY (fun h=>(h.length:Int) !=(stop:Int)) h (e::r)=if(((h++[e]).length:Int) !=(stop:Int))then runY (fun h=>(h.length:Int) !=(stop:Int)) (h++[e]) r else(h++[e],false):=rfl
  rw[e1];by_cases hk:h.length+1=stop
  ·rw[if_neg (by simp;omega)];show h++[e]=_;rw[List.take_append,List.take_of_length_le (by omega),show stop-h.length=1 by omega];rfl
  ·rw[if_pos (by simp;omega),runY_gt stop r (h++[e]) (by simp;omega),List.append_assoc];rfl
theorem runY_want(stop:Int)(L:List Ent):(runY (fun h=>(h.length:Int) !=stop) [] L).1=if 0<stop∧stop<(L.length:Int)then L.take stop.toNat else L:=by
 by_cases h0:stop≤0
 ·rw[runY_le h0,if_neg (by omega)];rfl
 ·obtain⟨k,rfl⟩:=Int.eq_ofNat_of_zero_le (show 0≤stop by omega);rw[runY_gt k L [] (by simp;omega),List.nil_append,Int.toNat_natCast];by_cases h1:(k:Int)<(L.length:Int)
  ·rw[if_pos ⟨by omega,h1⟩]
  ·rw[if_neg (by omega),List.take_of_length_le (by omega)]
end
section
open Go.RowKit Go.Maps
open F (Ent entsC entC Ents)
theorem filter_snoc{l:List Ent}{p:Ent→Bool}{i:Nat}{e:Ent}(h:l[i]? =some e):(l.take (i+1)).filter p=(l.take i).filter p++if p e then[e]else[]:=by
 rw[List.take_add_one,h,List.filter_append];cases hp:p e<;>simp[hp]
theorem rfrom_any(w:World)(B:Nat)(hB:B≤w.heap.size)(A:Option Addr)(n c:Nat)(l:List Ent)(h:Ents w B A n c l)(hn:n≤1048576)(s:List UInt8):
  Calls Tryz.prog 9 #[.slice A n c,.string ⟨s.toArray⟩] w fun e w'=>∃v,e=.returned v∧w'.ownsRow w.heap.size 29 2 v (l.filter fun e=> !decide (e.1<s)).length (entsC (l.filter fun e=> !decide (e.1<s)))∧Below w.heap.size w w':=by
 have hlen:=h.len;have hcm:=h.cm;have HE:=Lib.hid h;clear h;go_enter Tryz.func9,Tryz.ntmps9
 go_wp2_with fail;go_loopw [5,6] (fun ov iv wr=>∃i:Nat,i≤n∧iv=.int .i64 (i:Int)∧Hid (wr.ownsRow w.heap.size 29 2 ov ((l.take i).filter fun e=> !decide (e.1<s)).length (entsC ((l.take i).filter fun e=> !decide (e.1<s))))∧Hid (Below w.heap.size w wr)) (fun _ iv _=>n-(intOf iv).toNat)
 case atStart=>exact⟨0,Nat.zero_le _,rfl,⟨rfl,.inl ⟨rfl,rfl⟩⟩,brefl w⟩
 case round=>
  obtain⟨i,hi,rfl,HO,HB⟩:=hrel;by_cases hlt:i<n
  ·obtain⟨b,off,rfl,hb,hcell⟩:=(HE.out.keep (HB.out.mono hB) (Nat.le_refl _)).at_ (by omega);obtain⟨⟨et,ez⟩,he⟩:∃e,l[i]? =some e:=⟨l[i]'(by omega),List.getElem?_eq_getElem _⟩;obtain⟨d0,d1⟩:=hcell i _ he;have hbw:b<wr.heap.size:=by have:=HB.out.size;omega
   have hi2:(i:Int)<(n:Int):=by omega
   obtain⟨Av,cv,rfl,hcv⟩:=own_shape HO.out;simp only at d0 d1;have hfs:=filter_snoc (p:=fun e=> !decide (e.1<s)) he;have hfl:((l.take i).filter fun e=> !decide (e.1<s)).length≤n:=Nat.le_trans (List.length_filter_le _ _) (by rw[List.length_take];omega);have HFS:=Lib.hid hfs;clear hfs he hcell;obtain⟨P,hP⟩:∃P,((l.take i).filter fun e=> !decide (e.1<s))=P:=⟨_,rfl⟩;rw[hP]at HFS HO hfl hcv;rw[hP];clear hP;by_cases hless:et<s
   ·have q1:Op.bytesLess et s=true:=by rw[bytesLess_eq];exact decide_eq_true hless
    have HO2:Hid (wr.ownsRow w.heap.size 29 2 (.slice Av P.length cv) ((l.take (i+1)).filter fun e=> !decide (e.1<s)).length (entsC ((l.take (i+1)).filter fun e=> !decide (e.1<s)))):=by
     show wr.ownsRow _ _ _ _ _ _;rw[HFS.out,if_neg (by simpa using hless),List.append_nil];exact HO.out
    clear HO HFS hless;go_wp2_with fail;go_roundw;case rel=>exact⟨i+1,by omega,by go_num,HO2,HB⟩
    case measure=>simp[intOf];omega
   ·have q1:Op.bytesLess et s=false:=by rw[bytesLess_eq];exact decide_eq_false hless
    have HFT:Hid (((l.take (i+1)).filter fun e=> !decide (e.1<s))=P++[(et,ez)]):=by show _=_;rw[HFS.out,if_pos (by simpa using hless)]
    clear HFS hless;go_wp2_with (at_builtin;refine wpList_push wr _ _ rfl _ _ _ rfl F.el_ent _ _ _ rfl HO.out rfl (by simp) rfl (by simp[Value.oneCell']) (by unfold maxLen;omega) (by omega) (by have:=HB.out.size;omega) (Below.refl _ _) ?_;intro v1 w1 hown1 hb1 hg1 _;obtain⟨A1,c1,rfl,_⟩:=own_shape hown1)
    have HO2:Hid (w1.ownsRow w.heap.size 29 2 (.slice A1 (P.length+1) c1) ((l.take (i+1)).filter fun e=> !decide (e.1<s)).length (entsC ((l.take (i+1)).filter fun e=> !decide (e.1<s)))):=by
     show w1.ownsRow _ _ _ _ _ _;rw[HFT.out,List.length_append];have e1:entsC (P++[(et,ez)])=entsC P++(#[Value.string ⟨et.toArray⟩,.int .i64 ez]:Array Value).toList:=by
      unfold F.entsC;rw[List.flatMap_append];rfl
     rw[e1];exact hown1
    have HB1:=Lib.hid (HB.out.grown hg1 HB.out.size (fun k hk=>(HO.out.lt k hk).1));clear hown1 hb1 hg1;go_roundw;case rel=>exact⟨i+1,by omega,by go_num,HO2,HB1⟩
    case measure=>simp[intOf];omega
  ·obtain rfl:i=n:=by omega
   have hall:l.take i=l:=List.take_of_length_le (by omega);rw[hall]at HO;go_wp2_with fail;go_ret;exact⟨_,rfl,HO.out,HB.out⟩
end
section
open Go.RowKit Go.Maps
open F (Ent Nd Nh Fine DictAt entsC entC Ents EntsIn rightE fits64 buildDs baseOf allE)
theorem open_few{l:List Ent}(h:openB l=true):l.length≤120:=by
 unfold openB at h;simp only[Bool.and_eq_true,decide_eq_true_eq]at h;exact h.1.1
theorem wff_nil(w:World)(A:Option Addr)(n c:Nat)(l:List Ent)(h:EntsIn w A n c l)(ho:openB l=false)(s:List UInt8)(stop:Int)(hT:Tab w):
  Calls Tryz.prog 3 #[.slice A n c,.string ⟨s.toArray⟩,.int .i64 stop] w fun e w'=>e=.returned (.bool true)∧Below w.heap.size w w':=by
 have HT:=Lib.hid hT;have HE:=Lib.hid h;have HO:=Lib.hid ho;have HB1:=Lib.hid (bnew (brefl w) (.cells #[.int .i64 stop] 3));have hs1:w.heap.size≤(w.alloc (.cells #[.int .i64 stop] 3)).heap.size:=HB1.out.size;clear hT h ho;go_enter Tryz.func3,Tryz.ntmps3
 go_wp2_with fail;refine(open13_any _ w.heap.size hs1 A n c l (HE.out.ents.keep HB1.out (Nat.le_refl _)) HE.out.fits HE.out.lens (HT.out.below HB1.out)).mono ?_;rintro e w2 ⟨hb2,⟨_,rfl⟩|⟨hyes,_⟩⟩
 ·have HB2:=Lib.hid (bcall HB1.out hb2);clear hb2;go_wp2_with fail;refine(awake13_any w2 (HT.out.below HB2.out)).mono ?_;rintro e w3 ⟨rfl,hb3⟩;have HB3:=Lib.hid (bcall HB2.out hb3);clear hb3;go_wp2_with fail;refine(awake13_any w3 (HT.out.below HB3.out)).mono ?_;rintro e w4 ⟨rfl,hb4⟩;have HB4:=Lib.hid (bcall HB3.out hb4);clear hb4;go_wp2_with fail;go_ret;exact⟨rfl,HB4.out⟩
 ·rw[HO.out]at hyes;cases hyes
theorem wff_good(w:World)(A:Option Addr)(n c:Nat)(l:List Ent)(h:EntsIn w A n c l)(ho:openB l=true)(s:List UInt8)(hs:s.length≤1048576)(stop:Int)(hT:Tab w):
  Calls Tryz.prog 3 #[.slice A n c,.string ⟨s.toArray⟩,.int .i64 stop] w fun e w'=>e=.returned (.bool true)∧Below w.heap.size w w':=by
 have hfew:=open_few ho;have hln:=h.ents.len;have HT:=Lib.hid hT;have HE:=Lib.hid h;have HO:=Lib.hid ho;have HB1:=Lib.hid (bnew (brefl w) (.cells #[.int .i64 stop] 3));have hs1:w.heap.size≤(w.alloc (.cells #[.int .i64 stop] 3)).heap.size:=HB1.out.size;have HS1:=Lib.hid (heap_alloc_new w (.cells #[.int .i64 stop] 3));clear hT h ho;go_enter Tryz.func3,Tryz.ntmps3
 go_wp2_with fail;refine(open13_any _ w.heap.size hs1 A n c l (HE.out.ents.keep HB1.out (Nat.le_refl _)) HE.out.fits HE.out.lens (HT.out.below HB1.out)).mono ?_;rintro e w2 ⟨hb2,⟨hno,_⟩|⟨_,p,B,dn,k,A3,hs',rfl,hd,hm⟩⟩
 ·rw[HO.out]at hno;cases hno
 obtain⟨hf,hwl,hall,hle⟩:=open_facts HO.out HE.out.fits hm;have hdl:=hd.len;have hdn:dn≤4194305:=by omega
 have HB2:=Lib.hid (bcall HB1.out hb2);have HS2:Hid (w2.heap[w.heap.size]? =some (.cells #[.int .i64 stop] 3 (0,0))):=(hb2.block _ (Array.getElem?_eq_some_iff.1 HS1.out).1).trans HS1.out;have HD2:=Lib.hid hd;have HFA:=Lib.hid (And.intro hf (And.intro hwl hall));clear hb2 hd hm hf hwl hall hle hdl HB1 HS1 hs1;go_wp2_with fail;refine(awake13_any w2 (HT.out.below HB2.out)).mono ?_;rintro e w3 ⟨rfl,hb3⟩;have HB3:=Lib.hid (bcall HB2.out hb3);have HS3:Hid (w3.heap[w.heap.size]? =some (.cells #[.int .i64 stop] 3 (0,0))):=(hb3.block _ (Array.getElem?_eq_some_iff.1 HS2.out).1).trans HS2.out;have HD3:=Lib.hid (HD2.out.keep hb3);clear hb3 HB2 HS2 HD2;go_wp2_with fail;refine(rfrom_any w3 w.heap.size HB3.out.size A n c l (HE.out.ents.keep HB3.out (Nat.le_refl _)) (by omega) s).mono ?_;rintro e w4 ⟨v4,rfl,hown4,hb4⟩;obtain⟨R,hR⟩:∃R,(l.filter fun e=> !decide (e.1<s))=R:=⟨_,rfl⟩;have hRl:R.length≤120:=by rw[←hR];exact Nat.le_trans (List.length_filter_le _ _) hfew
 rw[hR]at hown4;have HR:=Lib.hid hR;have HB4:=Lib.hid (bcall HB3.out hb4);have HS4:Hid (w4.heap[w.heap.size]? =some (.cells #[.int .i64 stop] 3 (0,0))):=(hb4.block _ (Array.getElem?_eq_some_iff.1 HS3.out).1).trans HS3.out;have HD4:=Lib.hid (HD3.out.keep hb4);have HO4:=Lib.hid hown4;obtain⟨A4,c4,rfl,hc4⟩:=own_shape hown4;clear hb4 hown4 HB3 HS3 HD3 hR;have HB5:=Lib.hid (bnew (brefl w4) (.cells #[.slice none 0 0] 22));have HI5:Hid (GotI w4.heap.size w4.heap.size w.heap.size stop [] (w4.alloc (.cells #[.slice none 0 0] 22)) (fun b=>b=w4.heap.size∨some b=(Value.slice none 0 0).ownBlock)):=by
  have hlt:=(Array.getElem?_eq_some_iff.1 HS4.out).1;exact⟨_,fun _=>Iff.rfl,Nat.le_refl _,hlt,heap_alloc_new w4 _,(Below.heap_alloc _ _ _ hlt).trans HS4.out,⟨rfl,.inl ⟨rfl,rfl⟩⟩⟩
 have HEN:∀(args:Array Value) (w:World),(callFunc 11 args).run Tryz.prog w=.ok (.enter 11 args) w:=enters_of Tryz.func11 (by kernel_rfl) rfl;have HFR:=Lib.hid (wfrom_any w4 p B dn k A3 (baseOf l) (l.length:Int) hs' HD4.out HFA.out.1 HFA.out.2.1 w4.heap.size rfl 11 ⟨w4.heap.size,0,none⟩ ⟨w.heap.size,0,none⟩ _ _ (got_yield w4.heap.size w4.heap.size w.heap.size stop) HEN s (by omega) _ _ [] HI5.out HB5.out (by omega) R (by rw[HFA.out.2.2];exact HR.out.symm) (by simp;omega));clear HEN;go_wp2_with fail;refine HFR.out.mono ?_;rintro e w6 ⟨rfl,S6,hI6,hbut6,_⟩;rw[runY_want]at hI6;have hb46:Below w4.heap.size w4 w6:=HB5.out.trans (hbut6.below HB5.out.size (fun b hb=>by
  rcases hb with rfl|hb
  ·exact Nat.le_refl _
  ·cases hb))
 have HD6:=Lib.hid (HD4.out.keep hb46);have HO6:=Lib.hid (own_kept HO4.out hb46);have HB6:=Lib.hid (bcall HB4.out hb46);obtain⟨v6,_,_,_,hg6,hs6,hrow6⟩:=hI6;have HCE:=Lib.hid (fun(W:World) (hb:Below w6.heap.size w6 W)=>wceil_any W p B dn k A3 (baseOf l) (l.length:Int) hs' (HD6.out.keep hb) HFA.out.1 HFA.out.2.1 s (by omega) (by omega) R (by rw[HFA.out.2.2];exact HR.out.symm) (by omega));clear HFR HI5 HB5 HS4 HD4 HO4 hbut6 hb46;obtain⟨gb,hgb⟩:∃k,w4.heap.size=k:=⟨_,rfl⟩;rw[hgb]at hg6 hrow6⊢;clear hgb;have g0:=cell_of_row w6 gb 0 _ _ (0,0) hg6;have s0:=cell_of_row w6 _ 0 _ _ (0,0) hs6;simp at g0 s0
 have HG6:=Lib.hid hg6;cases R with
 |
  nil=>
  rw[if_neg (by simp;omega)]at hrow6;obtain⟨A6,c6,rfl,_⟩:=own_shape hrow6;have q0:(decide (0<stop)=true∧decide (stop<0)=false)∨decide (0<stop)=false:=by
   by_cases h:0<stop
   ·exact .inl ⟨decide_eq_true h,decide_eq_false (by omega)⟩
   ·exact .inr (decide_eq_false h)
  have heq:=fun w=>eql_two w ([],0) ([],0)
  have hgu:=F.gu_ent;simp only[decide_true]at heq;clear hrow6 hg6 hs6;rcases q0 with⟨q1,q2⟩|q1
  all_goals
   go_wp2_with fail;refine(HCE.out w6 (brefl _)).mono ?_;rintro e w7 ⟨rfl,hb7⟩;have g7:=(hb7.cell (p:=⟨gb,0,none⟩) (Array.getElem?_eq_some_iff.1 HG6.out).1).trans g0;have hgl:gb<w7.heap.size:=Nat.lt_of_lt_of_le (Array.getElem?_eq_some_iff.1 HG6.out).1 hb7.size;have HB7:=Lib.hid (bcall HB6.out (bcall hb7 (bnew (brefl w7) (.cells #[.string ⟨#[]⟩,.int .i64 0] 29))));clear hb7 HCE;go_wp2_with fail;go_ret;exact⟨rfl,HB7.out⟩
 |
  cons r0 rs=>
  obtain⟨RL,hRL⟩:∃l,r0::rs=l:=⟨_,rfl⟩;have h0:RL[0]? =some r0:=by rw[←hRL];rfl
  have hpos:0<RL.length:=by rw[←hRL];simp
  have hla:lastE RL.head?.toList=r0:=by rw[←hRL];rfl
  have hem:(!RL.isEmpty)=true:=by rw[←hRL];rfl
  rw[hRL]at HCE hrow6 HO6 hRl hc4⊢;rw[hla,hem]at HCE;clear hRL hla hem HR;obtain⟨G,hG⟩:∃G,(if 0<stop∧stop<(RL.length:Int)then RL.take stop.toNat else RL)=G:=⟨_,rfl⟩;rw[hG]at hrow6;obtain⟨A6,c6,rfl,hc6⟩:=own_shape hrow6;have hsl:=Sl.of_own HO6.out;have hcut:∃k:Nat,0<k∧k≤RL.length∧G=RL.take k∧((decide (0<stop)=true∧decide (k<RL.length)=true∧decide (stop<(RL.length:Int))=true∧stop=(k:Int))∨(decide (0<stop)=true∧decide (stop<(RL.length:Int))=false∧k=RL.length)∨(decide (0<stop)=false∧k=RL.length)):=by
   by_cases h1:0<stop
   ·by_cases h2:stop<(RL.length:Int)
    ·rw[if_pos ⟨h1,h2⟩]at hG;exact⟨stop.toNat,by omega,by omega,hG.symm,.inl ⟨decide_eq_true h1,decide_eq_true (by omega),decide_eq_true h2,by omega⟩⟩
    ·rw[if_neg (by omega)]at hG;exact⟨RL.length,hpos,Nat.le_refl _,by rw[←hG,List.take_length],.inr (.inl ⟨decide_eq_true h1,decide_eq_false h2,rfl⟩)⟩
   ·rw[if_neg (by omega)]at hG;exact⟨RL.length,hpos,Nat.le_refl _,by rw[←hG,List.take_length],.inr (.inr ⟨decide_eq_false h1,rfl⟩)⟩
  clear hG;obtain⟨kk,hk0,hk1,hGk,hcase⟩:=hcut;have hGl:G.length=kk:=by rw[hGk,List.length_take];omega
  have hG0:G[0]? =some r0:=by rw[hGk,List.getElem?_take,if_pos hk0];exact h0
  have hw6:Ents w6 w6.heap.size A4 kk c4 G:=by
   refine⟨?_,by omega,by omega⟩;have h1:=hsl.pre hk1;have e1:(entsC RL).take (kk*2)=entsC G:=by
    rw[hGk];conv=>lhs;rw[←List.take_append_drop kk RL]
    unfold F.entsC;rw[List.flatMap_append];have e2:((RL.take kk).flatMap entC).length=kk*2:=by
     have:=F.entsC_len (RL.take kk);unfold F.entsC at this;rw[this,List.length_take];omega
    rw[←e2,List.take_left]
   rw[e1]at h1;exact h1
  rw[hGl]at hrow6 hc6 g0;have hg6e:Ents w6 w6.heap.size A6 kk c6 G:=⟨Sl.of_own hrow6,hc6,by omega⟩;obtain⟨rt,rz⟩:=r0;obtain⟨wb,woff,rfl,hwb,hwc⟩:=hw6.at_ (by omega);obtain⟨y0,y1⟩:=hwc 0 _ hG0;simp only[Nat.zero_mul,Nat.add_zero]at y0 y1;have HWE:=Lib.hid hw6;have HGE:=Lib.hid hg6e;have hl6:=(Array.getElem?_eq_some_iff.1 HG6.out).1;have hkk:(kk==0)=false:=by rw[beq_eq_false_iff_ne];omega
  have hkk2:((kk:Int)==0)=false:=by rw[beq_eq_false_iff_ne];omega
  have heq:=fun w=>eql_two w (rt,rz) (rt,rz)
  have hgu:=F.gu_ent;simp only[decide_true]at heq;have HEQ:=Lib.hid heq;clear hsl hw6 hg6e hwc hG0 hGk hGl hrow6 h0 hg6 hs6 heq HO6;obtain⟨nl,hnl⟩:∃m,RL.length=m:=⟨_,rfl⟩;rw[hnl]at hcase hk1 hc4 hpos hRl⊢;clear hnl;rcases hcase with⟨q1,q4,q2,rfl⟩|⟨q1,q2,rfl⟩|⟨q1,rfl⟩
  all_goals
   go_wp2_with fail;refine(HCE.out w6 (brefl _)).mono ?_;rintro e w7 ⟨rfl,hb7⟩;have hb8:=bcall hb7 (bnew (brefl w7) (.cells #[.string ⟨rt.toArray⟩,.int .i64 rz] 29));have hx8:=heap_alloc_new w7 (.cells #[.string ⟨rt.toArray⟩,.int .i64 rz] 29);clear HCE;go_wp2_with fail;obtain⟨xb,hxb⟩:∃k,w7.heap.size=k:=⟨_,rfl⟩;generalize w7.alloc (.cells #[.string ⟨rt.toArray⟩,.int .i64 rz] 29)=w8 at*;rw[hxb]at hx8⊢;have HB8:=Lib.hid (bcall HB6.out hb8);have HSA:=Lib.hid (fun(W:World) (hb:Below w8.heap.size w8 W)=>F.Same_any W w6.heap.size (Nat.le_trans hb8.size hb.size) A6 (some ⟨wb,woff,none⟩) _ c6 _ c4 G G (HGE.out.keep (hb8.trans (hb.mono hb8.size)) (Nat.le_refl _)) (HWE.out.keep (hb8.trans (hb.mono hb8.size)) (Nat.le_refl _)));simp only[decide_true]at HSA;have x0:=cell_of_row w8 xb 0 _ _ (0,0) hx8;have x1:=cell_of_row w8 xb 1 _ _ (0,0) hx8;have lx:=(Array.getElem?_eq_some_iff.1 hx8).1;have lg:gb<w8.heap.size:=Nat.lt_of_lt_of_le hl6 hb8.size;have lw:wb<w8.heap.size:=Nat.lt_of_lt_of_le hwb hb8.size;have g8:=(hb8.cell (p:=⟨gb,0,none⟩) hl6).trans g0;have z0:=(hb8.cell (p:=⟨wb,woff,none⟩) hwb).trans y0;have z1:=(hb8.cell (p:=⟨wb,woff+1,none⟩) hwb).trans y1;simp at x0 x1
   have HC8:=Lib.hid (And.intro g8 (And.intro x0 (And.intro x1 (And.intro z0 z1))));have HK8:=Lib.hid (fun(W:World) (hb:Below w8.heap.size w8 W)=>And.intro ((hb.cell (p:=⟨gb,0,none⟩) lg).trans HC8.out.1) (And.intro ((hb.cell (p:=⟨xb,0,none⟩) lx).trans HC8.out.2.1) (And.intro ((hb.cell (p:=⟨xb,1,none⟩) lx).trans HC8.out.2.2.1) (And.intro ((hb.cell (p:=⟨wb,woff,none⟩) lw).trans HC8.out.2.2.2.1) ((hb.cell (p:=⟨wb,woff+1,none⟩) lw).trans HC8.out.2.2.2.2)))));have heq:=HEQ.out;clear hxb hb7 hb8 hx8 w7 y0 y1 g0 s0;go_region_held3 (fun w'=>w'.cell? ⟨gb,0,none⟩=some (.slice A6 kk c6)∧w'.cell? ⟨xb,0,none⟩=some (.string ⟨rt.toArray⟩)∧w'.cell? ⟨xb,1,none⟩=some (.int .i64 rz)∧w'.cell? ⟨wb,woff,none⟩=some (.string ⟨rt.toArray⟩)∧w'.cell? ⟨wb,woff+1,none⟩=some (.int .i64 rz))
    (first
     |assumption
     |exact HC8.out
     |exact HC9.out)
    (first|(go_at_call 13;refine(HSA.out _ (by repeat(first|exact brefl _|refine Below.drew ?_))).mono ?_;rintro e w9 ⟨rfl,hb9⟩;have HB9:=Lib.hid ((show Below w8.heap.size w8 _ by repeat(first|exact brefl _|refine Below.drew ?_)).trans (hb9.mono (by exact Nat.le_refl _)));have HC9:=Lib.hid (HK8.out _ HB9.out);clear hb9))
   go_wp2_with fail;go_ret;exact⟨rfl,bcall HB8.out HB9.out⟩
theorem upto_mid{H:Type}{a:List UInt8}{d e:DataW H}(hk:Rows.uptoSmall H ([d,.lit (.string a),e]++[])=true):a.length≤1048576:=by
 have h:=of_decide_eq_true hk;simp only[List.append_nil,Rows.uptoBulkAll,Rows.uptoBulk]at h;omega
theorem wff_walkc(w:World){H:Type}{d e:DataW H}(A:Option Addr)(n c:Nat)(x:Nat→F.tEnt.den)(h:EntsIn w A n c (F.entL n x))(s:ByteArray)(_:s.size≤maxLen)(_:s.data.toList.length≤reachBytes)(z:Int)(_:(Lit.int .i64 z).wf=true)(hk:Rows.uptoSmall H ([d,.lit (.string s.data.toList),e]++[])=true)(hT:Tab w):
  Calls Tryz.prog 3 #[.slice A n c,.string s,.int .i64 z] w fun e w'=>e=.returned (.bool true)∧Below w.heap.size w w':=by
 cases ho:openB (F.entL n x)with
 |false=>exact wff_nil w A n c _ h ho s.data.toList z hT
 |true=>exact wff_good w A n c _ h ho s.data.toList (upto_mid hk) z hT
end
end Go.Proofs.YtaociahafamncaaGreatDoor
