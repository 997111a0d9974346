/- Folded. -/
import Derived.Test.YtaociahafamncaaGreatDoorHW19
import Derived.Sort.OwnSortedInts
import Derived.Lib.OwnBridge
import Derived.Lib.SlicesCompact
import Derived.Lib.RowBridge
set_option maxRecDepth 100000
set_option maxHeartbeats 40000000
namespace Go.Proofs.YtaociahafamncaaGreatDoor
section
open Go.RowKit
structure ArcsIn(w:World)(B:Nat)(A:Option Addr)(m c:Nat)(l:List Arc3):Prop where
 len:l.length=m
 sl:Sl w B 3 A m (arcsC l)
 cm:m≤140737488355328
theorem ArcsIn.keep{w w':World}{B B' m c:Nat}{A:Option Addr}{l:List Arc3}(h:ArcsIn w B A m c l)(hb:Below B w w')(hB:B≤B'):ArcsIn w' B' A m c l:=⟨h.len,(h.sl.below hb).more hB,h.cm⟩
theorem ArcsIn.at_{w:World}{B m c:Nat}{A:Option Addr}{l:List Arc3}(h:ArcsIn w B A m c l)(hn:0<m):∃b off,A=some ⟨b,off,none⟩∧b<B∧∀k a,l[k]? =some a→w.cell? ⟨b,off+k*3,none⟩=some (.int .i64 a.1)∧w.cell? ⟨b,off+k*3+1,none⟩=some (.int .i64 a.2.1)∧w.cell? ⟨b,off+k*3+2,none⟩=some (.int .i64 a.2.2):=by
 obtain⟨b,off,hA,hb,hc⟩:=h.sl.at_ hn;refine⟨b,off,hA,hb,fun k e he=>?_⟩;have g:∀j u,(arcC e)[j]? =some u→j<3→w.cell? ⟨b,off+(k*3+j),none⟩=some u:=fun j u hu hj=>
  hc _ _ (by unfold arcsC;rw[flat_at arcC 3 (fun _=>rfl) l k j e he hj];exact hu)
 exact⟨g 0 _ rfl (by omega),by have:=g 1 _ rfl (by omega);rwa[←Nat.add_assoc]at this,by have:=g 2 _ rfl (by omega);rwa[←Nat.add_assoc]at this⟩
def Bools(w:World)(B:Nat)(A:Option Addr)(n:Nat)(L:List Bool):Prop:=L.length=n∧Sl w B 1 A n (L.map .bool)
def Ints(w:World)(B:Nat)(A:Option Addr)(n:Nat)(L:List Int):Prop:=L.length=n∧Sl w B 1 A n (L.map (.int .i64))
theorem Bools.at_{w:World}{B n:Nat}{A:Option Addr}{L:List Bool}(h:Bools w B A n L)(hn:0<n):∃b off,A=some ⟨b,off,none⟩∧b<B∧∀k x,L[k]? =some x→w.cell? ⟨b,off+k,none⟩=some (.bool x):=by
 obtain⟨b,off,hA,hb,hc⟩:=h.2.at_ hn;exact⟨b,off,hA,hb,fun k x hx=>hc k _ (by rw[List.getElem?_map,hx];rfl)⟩
theorem Ints.at_{w:World}{B n:Nat}{A:Option Addr}{L:List Int}(h:Ints w B A n L)(hn:0<n):∃b off,A=some ⟨b,off,none⟩∧b<B∧∀k x,L[k]? =some x→w.cell? ⟨b,off+k,none⟩=some (.int .i64 x):=by
 obtain⟨b,off,hA,hb,hc⟩:=h.2.at_ hn;exact⟨b,off,hA,hb,fun k x hx=>hc k _ (by rw[List.getElem?_map,hx];rfl)⟩
theorem Bools.keep{w w':World}{B B' n:Nat}{A:Option Addr}{L:List Bool}(h:Bools w B A n L)(hb:Below B w w')(hB:B≤B'):Bools w' B' A n L:=⟨h.1,(h.2.below hb).more hB⟩
theorem Ints.keep{w w':World}{B B' n:Nat}{A:Option Addr}{L:List Int}(h:Ints w B A n L)(hb:Below B w w')(hB:B≤B'):Ints w' B' A n L:=⟨h.1,(h.2.below hb).more hB⟩
def ledF(L:List Bool)(C:List Int)(t:Int):Option Nat:=if L.getD t.toNat false then some (C.getD t.toNat 0).toNat else none
theorem joinA_len(l:List Arc3)(a:Arc3):(joinA l a).length≤l.length+1:=by
 unfold joinA;split
 ·rename_i b hb
  split
  ·rw[List.length_append,List.length_dropLast,List.length_singleton];omega
  ·rw[List.length_append,List.length_singleton];exact Nat.le_refl _
 ·simp
theorem ledA_len(f:Int→Option Nat)(l:List Arc3):(ledA f l).length≤l.length:=by
 induction l using rev_ind with
 |h0=>exact Nat.le_refl _
 |
  h1 l a ih=>
  rw[ledA_snoc,List.length_append,List.length_singleton];split
  ·exact Nat.le_trans (joinA_len _ _) (by omega)
  ·omega
theorem joinA_hi{l:List Arc3}{a:Arc3}{P:Int→Prop}(h:∀b∈l,P b.2.1)(ha:P a.2.1):∀b∈joinA l a,P b.2.1:=by
 intro b hb
 unfold joinA at hb;split at hb
 ·split at hb
  ·rcases List.mem_append.1 hb with hb|hb
   ·exact h b (List.dropLast_subset _ hb)
   ·rw[List.mem_singleton.1 hb];exact ha
  ·rcases List.mem_append.1 hb with hb|hb
   ·exact h b hb
   ·rw[List.mem_singleton.1 hb];exact ha
 ·rw[List.mem_singleton.1 hb];exact ha
theorem ledA_hi{f:Int→Option Nat}{P:Int→Prop}{l:List Arc3}(h:∀b∈l,P b.2.1):∀b∈ledA f l,P b.2.1:=by
 induction l using rev_ind with
 |h0=>intro b hb;cases hb
 |
  h1 l a ih=>
  rw[ledA_snoc];have hl:=ih fun b hb=>h b (List.mem_append_left _ hb)
  split
  ·exact joinA_hi hl (h a (by simp))
  ·exact hl
theorem merged_any(w:World)(B:Nat)(hB:B≤w.heap.size)(A:Option Addr)(m c:Nat)(l:List Arc3)(h:ArcsIn w B A m c l)(hasc:Asc l 256)(hm:m≤1000000)
  (Al:Option Addr) (n cl:Nat) (L:List Bool) (hL:Bools w B Al n L) (Ac:Option Addr) (cc:Nat) (C:List Int) (hC:Ints w B Ac n C) (hto:∀a∈l,0≤a.2.2∧a.2.2<(n:Int)) (hcp:∀x∈C,0≤x):
  Calls Tryz.prog 69 #[.slice A m c,.slice Al n cl,.slice Ac n cc] w fun e w'=>∃v,e=.returned v∧w'.ownsRow w.heap.size 76 3 v (ledA (ledF L C) l).length (arcsC (ledA (ledF L C) l))∧Below w.heap.size w w':=by
 have HA:=Lib.hid h;have HL:=Lib.hid hL;have HC:=Lib.hid hC;have HASC:=Lib.hid hasc;have HTO:=Lib.hid hto;have HCP:=Lib.hid hcp;have hlen:=h.len;clear h hL hC hasc hto hcp;go_enter Tryz.func69,Tryz.ntmps69
 go_wp2_with fail;go_loopw [7,12] (fun ov jv wr=>∃(j:Nat) (Ao:Option Addr) (p co:Nat) (acc:List Arc3),j≤m∧jv=.int .i64 j∧ov=.slice Ao p co∧Hid (acc=ledA (ledF L C) (l.take j)∧acc.length=p∧p≤m)∧Hid (wr.ownsRow w.heap.size 76 3 (.slice Ao p co) p (arcsC acc))∧Hid (Below w.heap.size w wr)) (fun _ jv _=>m-(intOf jv).toNat)
 case atStart=>exact⟨0,none,0,0,[],Nat.zero_le _,rfl,rfl,⟨rfl,rfl,Nat.zero_le _⟩,⟨rfl,.inl ⟨rfl,rfl⟩⟩,brefl w⟩
 case round=>
  obtain⟨j,Ao,p,co,acc,hj,rfl,rfl,HACC,HO,HB⟩:=hrel;by_cases hjm:j<m
  ·have HWJ:=HA.out.keep (HB.out.mono hB) (Nat.le_refl _);obtain⟨ab,aoff,rfl,hab,hac⟩:=HWJ.at_ (by omega);obtain⟨a,ha⟩:∃a,l[j]? =some a:=⟨l[j]'(by omega),List.getElem?_eq_getElem _⟩;obtain⟨a0,a1,a2⟩:=hac j a ha;have habw:ab<wr.heap.size:=Nat.lt_of_lt_of_le hab (Nat.le_trans hB HB.out.size);have htake:l.take (j+1)=l.take j++[a]:=by rw[List.take_add_one,ha];rfl
   have hao:=HASC.out.ok a (List.mem_of_getElem? ha);have hat:=HTO.out a (List.mem_of_getElem? ha);obtain⟨lo,hi,tt⟩:=a;simp only at a0 a1 a2 hao hat
   obtain⟨tk,rfl⟩:=Int.eq_ofNat_of_zero_le hat.1;have htn:tk<n:=by omega
   obtain⟨lb,loff,rfl,hlb,hlc⟩:=(HL.out.keep (HB.out.mono hB) (Nat.le_refl _)).at_ (by omega);obtain⟨cb,coff,rfl,hcb,hcc⟩:=(HC.out.keep (HB.out.mono hB) (Nat.le_refl _)).at_ (by omega);obtain⟨lv,hlv⟩:∃x,L[tk]? =some x:=⟨L[tk]'(by have:=HL.out.1;omega),List.getElem?_eq_getElem _⟩;obtain⟨cv,hcv⟩:∃x,C[tk]? =some x:=⟨C[tk]'(by have:=HC.out.1;omega),List.getElem?_eq_getElem _⟩;have l0:=hlc tk lv hlv;have c0:=hcc tk cv hcv;have hlbw:lb<wr.heap.size:=Nat.lt_of_lt_of_le hlb (Nat.le_trans hB HB.out.size);have hcbw:cb<wr.heap.size:=Nat.lt_of_lt_of_le hcb (Nat.le_trans hB HB.out.size);have hcv0:=HCP.out cv (List.mem_of_getElem? hcv);obtain⟨ck,rfl⟩:=Int.eq_ofNat_of_zero_le hcv0;have hf:ledF L C ((tk:Nat):Int)=if lv then some ck else none:=by
    unfold ledF;rw[Int.toNat_natCast,List.getD_eq_getElem?_getD,List.getD_eq_getElem?_getD,hlv,hcv];rfl
   have HN:Hid (ledA (ledF L C) (l.take (j+1))=if lv then joinA acc (lo,hi,(ck:Int))else acc):=by
    show _=_;rw[htake,ledA_snoc,←HACC.out.1,hf];cases lv<;>rfl
   have i0:(0:Int)≤(tk:Int):=by omega
   have i1:(tk:Int)<(n:Int):=by omega
   have HB1:=Lib.hid (bnew HB.out (.cells #[.int .i64 lo,.int .i64 hi,.int .i64 (tk:Int)] 76));have HO1:=Lib.hid (own_kept HO.out (bnew (brefl wr) (.cells #[.int .i64 lo,.int .i64 hi,.int .i64 (tk:Int)] 76)));obtain⟨hp,hpm⟩:=HACC.out.2;have hhi:∀b∈acc,0≤b.2.1∧b.2.1≤256:=by
    rw[HACC.out.1];exact ledA_hi (P:=fun z=>0≤z∧z≤256) fun b hb=>by
     have:=HASC.out.ok b (List.mem_of_mem_take hb);omega
   have HHI:=Lib.hid hhi;clear hac ha htake hlc hcc hlv hcv hf hcv0 HWJ hhi;cases lv with
   |
    true=>
    have HJN:Hid (joinA acc (lo,hi,(ck:Int))=ledA (ledF L C) (l.take (j+1))∧(joinA acc (lo,hi,(ck:Int))).length≤m):=by
     have h1:joinA acc (lo,hi,(ck:Int))=ledA (ledF L C) (l.take (j+1)):=HN.out.symm;refine⟨h1,?_⟩;rw[h1];exact Nat.le_trans (ledA_len _ _) (by rw[List.length_take];omega)
    go_wp2_with fail;have hxb:=heap_alloc_new wr (.cells #[.int .i64 lo,.int .i64 hi,.int .i64 (tk:Int)] 76);have hxs:(wr.alloc (.cells #[.int .i64 lo,.int .i64 hi,.int .i64 (tk:Int)] 76)).heap.size=wr.heap.size+1:=by simp
    have hlN:∀q,(Value.slice Ao p co).ownBlock=some q→q<wr.heap.size:=fun q hq=>(HO.out.lt q hq).2
    clear a0 a1 a2 l0 habw hlbw;generalize wr.alloc (.cells #[.int .i64 lo,.int .i64 hi,.int .i64 (tk:Int)] 76)=WX at*;generalize wr.heap.size=N at*;have hbx:w.heap.size≤WX.heap.size:=HB1.out.size;have hcbl:cb<w.heap.size:=Nat.lt_of_lt_of_le hcb hB;have hcx:WX.cell? ⟨cb,coff+tk,none⟩=some (.int .i64 (ck:Int)):=by
     have h1:=HB1.out.cell (p:=⟨cb,coff+tk,none⟩) hcbl;have h2:=HB.out.cell (p:=⟨cb,coff+tk,none⟩) hcbl;rw[h1,←h2];exact c0
    have HGX:Hid (∀w',WX.grownBy w' (Value.slice Ao p co).ownBlock→(w'.cell? ⟨N,0,none⟩=some (.int .i64 lo)∧w'.cell? ⟨N,1,none⟩=some (.int .i64 hi)∧w'.cell? ⟨N,2,none⟩=some (.int .i64 (tk:Int))∧w'.cell? ⟨cb,coff+tk,none⟩=some (.int .i64 (ck:Int)))∧Below w.heap.size w w'):=fun w' hg=>by
     have kb:=(hg.block N (by omega) (fun e=>by have:=hlN N e.symm;omega)).trans hxb;have hbb:=HB1.out.grown hg hbx fun q hq=>by have:=(HO1.out.lt q hq).1;omega
     have hc1:=(hbb.cell (p:=⟨cb,coff+tk,none⟩) hcbl);have hc2:=HB1.out.cell (p:=⟨cb,coff+tk,none⟩) hcbl;exact⟨⟨cell_of_row _ N 0 _ _ (0,0) kb,cell_of_row _ N 1 _ _ (0,0) kb,cell_of_row _ N 2 _ _ (0,0) kb,by rw[hc1,←hc2];exact hcx⟩,hbb⟩
    have K3:=Lib.hid (HGX.out WX ⟨rfl,rfl,rfl,Nat.le_refl _,fun _ _ _=>rfl⟩).1;clear hxb hxs hlN c0 hcx;go_region_held3 (fun w'=>w'.cell? ⟨N,0,none⟩=some (.int .i64 lo)∧w'.cell? ⟨N,1,none⟩=some (.int .i64 hi)∧w'.cell? ⟨N,2,none⟩=some (.int .i64 (tk:Int))∧w'.cell? ⟨cb,coff+tk,none⟩=some (.int .i64 (ck:Int)))
     (first
      |assumption
      |exact K3.out
      |exact HS7.out.1)
     (first|(go_at_call 32;refine(join_any _ w.heap.size (by exact hbx) Ao p co acc (by exact HO1.out) (by omega) lo hi (ck:Int) ⟨by omega,by omega⟩ HHI.out).mono ?_;rintro e w7 ⟨v7,rfl,hown7,hg7,_⟩;have HO7:=Lib.hid hown7;have HS7:=Lib.hid (HGX.out w7 (by exact⟨hg7.os,hg7.tape,hg7.output,hg7.size,hg7.block⟩));clear hown7 hg7))
    all_goals
     obtain⟨A7,c7,rfl,_⟩:=own_shape HO7.out;have HN2:Hid (joinA acc (lo,hi,(ck:Int))=ledA (ledF L C) (l.take (j+1))∧(joinA acc (lo,hi,(ck:Int))).length=(joinA acc (lo,hi,(ck:Int))).length∧(joinA acc (lo,hi,(ck:Int))).length≤m):=⟨HJN.out.1,rfl,HJN.out.2⟩;have HB7:=Lib.hid HS7.out.2;go_wp2_with fail;go_roundw;case rel=>exact⟨j+1,A7,_,c7,joinA acc (lo,hi,(ck:Int)),by omega,by go_num,rfl,HN2,HO7,HB7⟩
     case measure=>simp[intOf];omega
   |
    false=>
    have HN2:Hid (acc=ledA (ledF L C) (l.take (j+1))∧acc.length=p∧p≤m):=⟨by rw[HN.out];rfl,hp,hpm⟩;go_wp2_with fail;go_roundw;case rel=>exact⟨j+1,Ao,p,co,acc,by omega,by go_num,rfl,HN2,HO1,HB1⟩
    case measure=>simp[intOf];omega
  ·obtain rfl:j=m:=by omega
   have hall:l.take j=l:=List.take_of_length_le (by omega);have HE:=Lib.hid HACC.out.1;rw[hall]at HE;have HP:=Lib.hid HACC.out.2.1;go_wp2_with fail;go_ret;exact⟨_,rfl,by rw[←HE.out,HP.out];exact HO.out,HB.out⟩
end
section
open Go.RowKit
structure Lst where
 fin:Bool
 arcs:List Arc3
 free:List Int
def okArc(n:Nat)(a:Arc3):Bool:=decide (0≤a.1∧a.1≤a.2.1∧a.2.1≤255∧0≤a.2.2∧a.2.2<(n:Int))
def okTo(n:Nat)(t:Int):Bool:=decide (0≤t∧t<(n:Int))
def looseB(l:List Lst):Bool:= !l.isEmpty&&l.all fun s=>s.arcs.all (okArc l.length)&&s.free.all (okTo l.length)
structure Lsh where
 d:Lst
 A:Option Addr
 c:Nat
 F:Option Addr
 e:Nat
def Lsh.hdr(x:Lsh):List Value:=[.bool x.d.fin,.slice x.A x.d.arcs.length x.c,.slice x.F x.d.free.length x.e]
structure LoIn(w:World)(B:Nat)(A:Option Addr)(n c:Nat)(H:List Lsh):Prop where
 len:H.length=n
 sl:Sl w B 3 A n (H.flatMap Lsh.hdr)
 nc:n≤c
 cm:n≤2097152
 ar:∀x∈H,Sl w B 3 x.A x.d.arcs.length (arcsC x.d.arcs)∧x.d.arcs.length≤x.c∧x.d.arcs.length≤2097152
 fr:∀x∈H,Sl w B 1 x.F x.d.free.length (x.d.free.map (.int .i64))∧x.d.free.length≤x.e∧x.d.free.length≤2097152∧(x.F=none→x.d.free.length=0)
section
variable {w w':World}{B B':Nat}{A:Option Addr}{n c:Nat}{H:List Lsh}
theorem LoIn.keep(h:LoIn w B A n c H)(hb:Below B w w')(hB:B≤B'):LoIn w' B' A n c H:=
 ⟨h.len,(h.sl.below hb).more hB,h.nc,h.cm,fun x hx=>⟨((h.ar x hx).1.below hb).more hB,(h.ar x hx).2⟩,fun x hx=>⟨((h.fr x hx).1.below hb).more hB,(h.fr x hx).2⟩⟩
theorem LoIn.at_(h:LoIn w B A n c H)(hn:0<n):∃b off,A=some ⟨b,off,none⟩∧b<B∧∀k x,H[k]? =some x→w.cell? ⟨b,off+k*3,none⟩=some (.bool x.d.fin)∧w.cell? ⟨b,off+k*3+1,none⟩=some (.slice x.A x.d.arcs.length x.c)∧w.cell? ⟨b,off+k*3+2,none⟩=some (.slice x.F x.d.free.length x.e):=by
 obtain⟨b,off,hA,hb,hc⟩:=h.sl.at_ hn;refine⟨b,off,hA,hb,fun k e he=>?_⟩;have g:∀j u,e.hdr[j]? =some u→j<3→w.cell? ⟨b,off+(k*3+j),none⟩=some u:=fun j u hu hj=>
  hc _ _ (by rw[flat_at Lsh.hdr 3 (fun _=>rfl) H k j e he hj];exact hu)
 exact⟨g 0 _ rfl (by omega),by have:=g 1 _ rfl (by omega);rwa[←Nat.add_assoc]at this,by have:=g 2 _ rfl (by omega);rwa[←Nat.add_assoc]at this⟩
theorem LoIn.arcs(h:LoIn w B A n c H){x:Lsh}(hx:x∈H):ArcsIn w B x.A x.d.arcs.length x.c x.d.arcs:=⟨rfl,(h.ar x hx).1,by have:=(h.ar x hx).2.2;omega⟩
theorem LoIn.frees(h:LoIn w B A n c H){x:Lsh}(hx:x∈H)(hn:0<x.d.free.length):∃b off,x.F=some ⟨b,off,none⟩∧b<B∧∀k z,x.d.free[k]? =some z→w.cell? ⟨b,off+k,none⟩=some (.int .i64 z):=by
 obtain⟨b,off,hA,hb,hc⟩:=(h.fr x hx).1.at_ hn;exact⟨b,off,hA,hb,fun k z hz=>hc k _ (by rw[List.getElem?_map,hz];rfl)⟩
end
theorem loose_any(w:World)(B:Nat)(hB:B≤w.heap.size)(A:Option Addr)(n c:Nat)(H:List Lsh)(h:LoIn w B A n c H):
  Calls Tryz.prog 77 #[.slice A n c] w fun e w'=>e=.returned (.bool (looseB (H.map (·.d))))∧Below w.heap.size w w':=by
 have HS:=Lib.hid h;have hlen:=h.len;have hcm:=h.cm;clear h;go_enter Tryz.func77,Tryz.ntmps77
 go_wp2_with fail;have HBAD:Hid (∀x∈H,(x.d.arcs.all (okArc n)&&x.d.free.all (okTo n))=false→looseB (H.map (·.d))=false):=fun x hx hf=>by
  unfold looseB;have:(H.map (·.d)).all (fun s=>s.arcs.all (okArc (H.map (·.d)).length)&&s.free.all (okTo (H.map (·.d)).length))=false:=by
   rw[List.all_eq_false];refine⟨x.d,List.mem_map_of_mem hx,?_⟩;rw[List.length_map,hlen,hf];simp
  rw[this,Bool.and_false]
 go_loopw [11] (fun iv wr=>∃k:Nat,k≤n∧iv=.int .i64 k∧Hid (∀x∈H.take k,(x.d.arcs.all (okArc n)&&x.d.free.all (okTo n))=true)∧Hid (Below w.heap.size w wr)) (fun iv _=>n-(intOf iv).toNat)
 case atStart=>exact⟨0,Nat.zero_le _,rfl,fun x hx=>by simp at hx,brefl w⟩
 case round=>
  obtain⟨k,hk,rfl,HK,HB⟩:=hrel;by_cases hlt:k<n
  ·have HW:=Lib.hid (HS.out.keep (HB.out.mono hB) (Nat.le_refl _));obtain⟨b,off,rfl,hb,hcell⟩:=HW.out.at_ (by omega);obtain⟨x,hx⟩:∃x,H[k]? =some x:=⟨H[k]'(by omega),List.getElem?_eq_getElem _⟩;obtain⟨k0,k1,k2⟩:=hcell k x hx;have hbw:b<wr.heap.size:=Nat.lt_of_lt_of_le hb (Nat.le_trans hB HB.out.size);have hxm:=List.mem_of_getElem? hx;obtain⟨m,hm⟩:∃m,x.d.arcs.length=m:=⟨_,rfl⟩;obtain⟨q,hq⟩:∃m,x.d.free.length=m:=⟨_,rfl⟩;have hma:=(HS.out.ar x hxm).2;have hmf:=(HS.out.fr x hxm).2;rw[hm]at k1 hma;rw[hq]at k2 hmf;obtain⟨hmc,hm20⟩:=hma;obtain⟨hqc,hq20,_⟩:=hmf;have HM:=Lib.hid hm;have HQ:=Lib.hid hq;have HXM:=Lib.hid hxm;have HXK:=Lib.hid hx;clear hcell hx hxm hm hq;go_wp2_with fail;have HB1:=Lib.hid (bnew HB.out (.cells #[.bool x.d.fin,.slice x.A m x.c,.slice x.F q x.e] 134));have HC1:=Lib.hid (heap_alloc_new wr (.cells #[.bool x.d.fin,.slice x.A m x.c,.slice x.F q x.e] 134));clear k0 k1 k2 hbw HW;generalize wr.heap.size=sp at*;go_loopw [18] (fun jv wj=>∃j:Nat,j≤m∧jv=.int .i64 j∧Hid ((x.d.arcs.take j).all (okArc n)=true)∧Hid (wj.heap[sp]? =some (.cells #[.bool x.d.fin,.slice x.A m x.c,.slice x.F q x.e] 134 (0,0)))∧Hid (Below w.heap.size w wj)) (fun jv _=>m-(intOf jv).toNat)
   case atStart=>exact⟨0,Nat.zero_le _,rfl,rfl,HC1,HB1⟩
   case round=>
    clear HB1 HC1;obtain⟨j,hj,rfl,HO,HC,HBJ⟩:=hrel;by_cases hjm:j<m
    ·have HWJ:=HS.out.keep (HBJ.out.mono hB) (Nat.le_refl _);obtain⟨ab,aoff,hxA,hab,hac⟩:=(HWJ.arcs HXM.out).at_ (by rw[HM.out];omega);obtain⟨a,ha⟩:∃a,x.d.arcs[j]? =some a:=⟨x.d.arcs[j]'(by rw[HM.out];exact hjm),List.getElem?_eq_getElem _⟩;obtain⟨a0,a1,a2⟩:=hac j a ha;have habw:ab<wr.heap.size:=Nat.lt_of_lt_of_le hab (Nat.le_trans hB HBJ.out.size);have HTK:Hid (x.d.arcs.take (j+1)=x.d.arcs.take j++[a]):=by show _=_;rw[List.take_add_one,ha];rfl
     have HBN:=Lib.hid (bnew HBJ.out (.cells #[.int .i64 a.1,.int .i64 a.2.1,.int .i64 a.2.2] 76));have HCN:Hid ((wr.alloc (.cells #[.int .i64 a.1,.int .i64 a.2.1,.int .i64 a.2.2] 76)).heap[sp]? =some (.cells #[.bool x.d.fin,.slice x.A m x.c,.slice x.F q x.e] 134 (0,0))):=((bnew (brefl wr) _).block _ (Array.getElem?_eq_some_iff.1 HC.out).1).trans HC.out;have HFL:Hid (okArc n a=false→looseB (H.map (·.d))=false):=fun hf=>HBAD.out x HXM.out (by
      have:x.d.arcs.all (okArc n)=false:=List.all_eq_false.2 ⟨a,List.mem_of_getElem? ha,by rw[hf];simp⟩;rw[this,Bool.false_and])
     rw[hxA];rw[hxA]at HCN;clear hac HWJ ha;obtain⟨lo,hi,tt⟩:=a;simp only at a0 a1 a2 HBN HCN;by_cases c1:lo<0
     ·have p1:decide (lo<0)=true:=decide_eq_true c1;have HF:=Lib.hid (HFL.out (decide_eq_false (by show¬(0≤lo∧_);omega)));clear c1;go_wp2_with fail;go_ret;exact⟨by rw[HF.out];rfl,HBN.out⟩
     have p1:decide (lo<0)=false:=decide_eq_false c1;by_cases c2:hi<lo
     ·have p2:decide (hi<lo)=true:=decide_eq_true c2;have HF:=Lib.hid (HFL.out (decide_eq_false (by show¬(0≤lo∧lo≤hi∧_);omega)));clear c1 c2;go_wp2_with fail;go_ret;exact⟨by rw[HF.out];rfl,HBN.out⟩
     have p2:decide (hi<lo)=false:=decide_eq_false c2;by_cases c3:255<hi
     ·have p3:decide (hi>255)=true:=decide_eq_true c3;have HF:=Lib.hid (HFL.out (decide_eq_false (by show¬(0≤lo∧lo≤hi∧hi≤255∧_);omega)));clear c1 c2 c3;go_wp2_with fail;go_ret;exact⟨by rw[HF.out];rfl,HBN.out⟩
     have p3:decide (hi>255)=false:=decide_eq_false c3;by_cases c4:tt<0
     ·have p4:decide (tt<0)=true:=decide_eq_true c4;have HF:=Lib.hid (HFL.out (decide_eq_false (by show¬(0≤lo∧lo≤hi∧hi≤255∧0≤tt∧_);omega)));clear c1 c2 c3 c4;go_wp2_with fail;go_ret;exact⟨by rw[HF.out];rfl,HBN.out⟩
     have p4:decide (tt<0)=false:=decide_eq_false c4;by_cases c5:(n:Int)≤tt
     ·have p5:decide (tt≥(n:Int))=true:=decide_eq_true c5;have HF:=Lib.hid (HFL.out (decide_eq_false (by show¬(0≤lo∧lo≤hi∧hi≤255∧0≤tt∧tt<(n:Int));omega)));clear c1 c2 c3 c4 c5;go_wp2_with fail;go_ret;exact⟨by rw[HF.out];rfl,HBN.out⟩
     have p5:decide (tt≥(n:Int))=false:=decide_eq_false c5;have HON:Hid ((x.d.arcs.take (j+1)).all (okArc n)=true):=by
      show _=_;rw[HTK.out,List.all_append,HO.out,Bool.true_and,List.all_cons,List.all_nil,Bool.and_true];exact decide_eq_true (by show 0≤lo∧lo≤hi∧hi≤255∧0≤tt∧tt<(n:Int);omega)
     clear c1 c2 c3 c4 c5;go_wp2_with fail;go_roundw;case rel=>exact⟨j+1,by omega,by go_num,HON,HCN,HBN⟩
     case measure=>simp[intOf];omega
    ·obtain rfl:m=j:=by omega
     have HAR:Hid (x.d.arcs.all (okArc n)=true):=by
      have:=HO.out;rw[List.take_of_length_le (by rw[HM.out];exact Nat.le_refl _)]at this;exact this
     have c2:=cell_of_row _ sp 2 _ _ (0,0) HC.out;have hsl:=(Array.getElem?_eq_some_iff.1 HC.out).1;simp at c2
     clear HO;go_wp2_with fail;go_loopw [53] (fun jv wj=>∃j:Nat,j≤q∧jv=.int .i64 j∧Hid ((x.d.free.take j).all (okTo n)=true)∧Hid (Below w.heap.size w wj)) (fun jv _=>q-(intOf jv).toNat)
     case atStart=>exact⟨0,Nat.zero_le _,rfl,rfl,HBJ⟩
     case round=>
      clear HBJ HC c2 hsl;obtain⟨j,hj,rfl,HO,HBJ⟩:=hrel;by_cases hjm:j<q
      ·have HWJ:=HS.out.keep (HBJ.out.mono hB) (Nat.le_refl _);obtain⟨ab,aoff,hxA,hab,hac⟩:=HWJ.frees HXM.out (by rw[HQ.out];omega);obtain⟨tt,ha⟩:∃a,x.d.free[j]? =some a:=⟨x.d.free[j]'(by rw[HQ.out];exact hjm),List.getElem?_eq_getElem _⟩;have a0:=hac j tt ha;have habw:ab<wr.heap.size:=Nat.lt_of_lt_of_le hab (Nat.le_trans hB HBJ.out.size);have HTK:Hid (x.d.free.take (j+1)=x.d.free.take j++[tt]):=by show _=_;rw[List.take_add_one,ha];rfl
       have HFL:Hid (okTo n tt=false→looseB (H.map (·.d))=false):=fun hf=>HBAD.out x HXM.out (by
        have:x.d.free.all (okTo n)=false:=List.all_eq_false.2 ⟨tt,List.mem_of_getElem? ha,by rw[hf];simp⟩;rw[this,Bool.and_false])
       rw[hxA];clear hac HWJ ha;by_cases c4:tt<0
       ·have p4:decide (tt<0)=true:=decide_eq_true c4;have HF:=Lib.hid (HFL.out (decide_eq_false (by show¬(0≤tt∧_);omega)));clear c4;go_wp2_with fail;go_ret;exact⟨by rw[HF.out];rfl,HBJ.out⟩
       have p4:decide (tt<0)=false:=decide_eq_false c4;by_cases c5:(n:Int)≤tt
       ·have p5:decide (tt≥(n:Int))=true:=decide_eq_true c5;have HF:=Lib.hid (HFL.out (decide_eq_false (by show¬(0≤tt∧tt<(n:Int));omega)));clear c4 c5;go_wp2_with fail;go_ret;exact⟨by rw[HF.out];rfl,HBJ.out⟩
       have p5:decide (tt≥(n:Int))=false:=decide_eq_false c5;have HON:Hid ((x.d.free.take (j+1)).all (okTo n)=true):=by
        show _=_;rw[HTK.out,List.all_append,HO.out,Bool.true_and,List.all_cons,List.all_nil,Bool.and_true];exact decide_eq_true (by show 0≤tt∧tt<(n:Int);omega)
       clear c4 c5;go_wp2_with fail;go_roundw;case rel=>exact⟨j+1,by omega,by go_num,HON,HBJ⟩
       case measure=>simp[intOf];omega
      ·obtain rfl:q=j:=by omega
       have HFR:Hid (x.d.free.all (okTo n)=true):=by
        have:=HO.out;rw[List.take_of_length_le (by rw[HQ.out];exact Nat.le_refl _)]at this;exact this
       have HKN:Hid (∀y∈H.take (k+1),(y.d.arcs.all (okArc n)&&y.d.free.all (okTo n))=true):=fun y hy=>by
        rw[List.take_add_one,HXK.out]at hy;rcases List.mem_append.1 hy with hy|hy
        ·exact HK.out y hy
        ·have:y=x:=by simpa using hy
         rw[this,HAR.out,HFR.out];rfl
       clear HO;go_wp2_with fail;go_roundw;case rel=>exact⟨k+1,by omega,by go_num,HKN,HBJ⟩
       case measure=>simp[intOf];omega
  ·obtain rfl:n=k:=by omega
   have hall:H.take n=H:=List.take_of_length_le (by omega);rw[hall]at HK;have HE:Hid (looseB (H.map (·.d))=decide (0<n)):=by
    show _=_;unfold looseB;have:(H.map (·.d)).all (fun s=>s.arcs.all (okArc (H.map (·.d)).length)&&s.free.all (okTo (H.map (·.d)).length))=true:=by
     rw[List.all_eq_true];intro s hs
     obtain⟨y,hy,rfl⟩:=List.mem_map.1 hs;rw[List.length_map,hlen];exact HK.out y hy
    rw[this,Bool.and_true];cases hH:H with
    |nil=>rw[hH]at hlen;rw[←hlen];rfl
    |cons y r=>rw[hH]at hlen;rw[←hlen];simp
   clear hall;have q1:decide ((n:Int)>0)=decide (0<n):=decide_eq_decide.2 (by omega);go_wp2_with fail;go_ret;exact⟨by rw[HE.out];first|rfl|(simp;done),HB.out⟩
end
section
open Go.RowKit Go.Sort
def sorted(zs:List Int):List Int:=zs.mergeSort fun x y=>decide (x≤y)
theorem sorted_mem(zs:List Int)(x:Int):x∈sorted zs↔x∈zs:=List.mem_mergeSort
theorem sorted_len(zs:List Int):(sorted zs).length=zs.length:=List.length_mergeSort _
theorem sorted_le(zs:List Int):(sorted zs).Pairwise fun x y=>x≤y:=by
 have h:=List.pairwise_mergeSort (le:=fun x y:Int=>decide (x≤y)) (fun a b c h1 h2=>by simp at h1 h2⊢;omega) (fun a b=>by simp;omega) zs;exact h.imp fun h=>by simpa using h
theorem sorted_lt{zs:List Int}(h:zs.Nodup):(sorted zs).Pairwise fun x y=>x<y:=by
 have hn:(sorted zs).Nodup:=(List.mergeSort_perm zs _).nodup_iff.2 h;exact((sorted_le zs).and hn).imp fun⟨h1,h2⟩=>by omega
theorem lt_ext:∀{l m:List Int},l.Pairwise (fun x y=>x<y)→m.Pairwise (fun x y=>x<y)→(∀x,x∈l↔x∈m)→l=m
 |[],[],_,_,_=>rfl
 |[],y::m,_,_,h=>absurd ((h y).2 (List.mem_cons_self ..)) List.not_mem_nil
 |x::l,[],_,_,h=>absurd ((h x).1 (List.mem_cons_self ..)) List.not_mem_nil
 |
  x::l,y::m,h1,h2,h=>by
  obtain⟨a1,a2⟩:=List.pairwise_cons.1 h1;obtain⟨b1,b2⟩:=List.pairwise_cons.1 h2;have hxy:x=y:=by
   have hx:=(h x).1 (List.mem_cons_self ..);have hy:=(h y).2 (List.mem_cons_self ..);rcases List.mem_cons.1 hx with e|hx
   ·exact e
   ·rcases List.mem_cons.1 hy with e|hy
    ·exact e.symm
    ·have:=b1 x hx;have:=a1 y hy;omega
  subst hxy;rw[lt_ext a2 b2 fun z=>?_];constructor
  ·intro hz
   rcases List.mem_cons.1 ((h z).1 (List.mem_cons_of_mem _ hz))with e|hz'
   ·have:=a1 z hz;omega
   ·exact hz'
  ·intro hz
   rcases List.mem_cons.1 ((h z).2 (List.mem_cons_of_mem _ hz))with e|hz'
   ·have:=b1 z hz;omega
   ·exact hz'
theorem compact_upto{d:Array Int}(hs:∀j,j+1<d.size→d[j]! ≤d[j+1]!):∀m,m≤d.size→(Lib.compactUpTo d m).Pairwise (fun x y=>x<y)∧(∀x∈Lib.compactUpTo d m,(∃j,j<m∧d[j]! =x)∧(0<m→x≤d[m-1]!))∧∀j,j<m→d[j]! ∈Lib.compactUpTo d m
 |
  0,_=>by
  have:Lib.compactUpTo d 0=[]:=rfl;rw[this];exact⟨List.Pairwise.nil,fun x hx=>absurd hx List.not_mem_nil,fun j hj=>absurd hj (Nat.not_lt_zero _)⟩
 |
  m+1,hm=>by
  obtain⟨i1,i2,i3⟩:=compact_upto hs m (by omega);rw[Lib.compactUpTo_succ];have hprev:0<m→d[m-1]! ≤d[m]! :=fun h0=>by
   have:=hs (m-1) (by omega);rwa[show m-1+1=m by omega]at this
  have hle:∀x∈Lib.compactUpTo d m,x≤d[m]! :=fun x hx=>by
   obtain⟨⟨j,hj,_⟩,h2⟩:=i2 x hx;have:=h2 (by omega);have:=hprev (by omega);omega
  by_cases hk:Lib.keeps d m=true
  ·rw[if_pos hk];refine⟨List.pairwise_append.2 ⟨i1,List.pairwise_singleton _ _,fun x hx y hy=>?_⟩,fun x hx=>?_,fun j hj=>?_⟩
   ·rw[List.mem_singleton.1 hy];obtain⟨⟨j,hj,_⟩,h2⟩:=i2 x hx;have h3:=h2 (by omega);have h4:=hprev (by omega);have h5:d[m]! ≠d[m-1]! :=by
     intro e
     rw[Lib.keeps_neg (by omega) e]at hk;cases hk
    omega
   ·rw[Nat.add_sub_cancel];rcases List.mem_append.1 hx with hx|hx
    ·obtain⟨⟨j,hj,h1⟩,_⟩:=i2 x hx;exact⟨⟨j,by omega,h1⟩,fun _=>hle x hx⟩
    ·rw[List.mem_singleton.1 hx];exact⟨⟨m,by omega,rfl⟩,fun _=>Int.le_refl _⟩
   ·by_cases e:j=m
    ·rw[e];exact List.mem_append_right _ (List.mem_singleton.2 rfl)
    ·exact List.mem_append_left _ (i3 j (by omega))
  ·rw[if_neg hk,List.append_nil];have hm0:0<m:=by
    rcases Nat.eq_zero_or_pos m with h0|h0
    ·subst h0;exact absurd (Lib.keeps_lt_one d 0 (by omega)) hk
    ·exact h0
   have he:d[m]! =d[m-1]! :=by
    apply Classical.byContradiction
    intro hne
    exact hk (Lib.keeps_pos hne)
   refine⟨i1,fun x hx=>?_,fun j hj=>?_⟩
   ·rw[Nat.add_sub_cancel];obtain⟨⟨j,hj,h1⟩,_⟩:=i2 x hx;exact⟨⟨j,by omega,h1⟩,fun _=>hle x hx⟩
   ·by_cases e:j=m
    ·rw[e,he];exact i3 (m-1) (by omega)
    ·exact i3 j (by omega)
theorem compact_sorted{zs:List Int}(h:zs.Pairwise fun x y=>x≤y):(Lib.compact zs).Pairwise (fun x y=>x<y)∧∀x,x∈Lib.compact zs↔x∈zs:=by
 have hget:∀j,j<zs.length→zs.toArray[j]! =zs[j]?.getD 0:=fun j hj=>by
  rw[getElem!_pos _ j (by simpa using hj),List.getElem?_eq_getElem hj];rfl
 have hs:∀j,j+1<zs.toArray.size→zs.toArray[j]! ≤zs.toArray[j+1]! :=fun j hj=>by
  have hj':j+1<zs.length:=by simpa using hj
  rw[hget j (by omega),hget (j+1) hj',List.getElem?_eq_getElem (by omega),List.getElem?_eq_getElem hj'];exact List.pairwise_iff_getElem.1 h j (j+1) (by omega) hj' (by omega)
 obtain⟨h1,h2,h3⟩:=compact_upto hs zs.length (by simp);refine⟨h1,fun x=>⟨fun hx=>?_,fun hx=>?_⟩⟩
 ·obtain⟨⟨j,hj,e⟩,_⟩:=h2 x hx;rw[hget j hj,List.getElem?_eq_getElem hj]at e;rw[←e];exact List.getElem_mem hj
 ·obtain⟨j,hj⟩:=List.mem_iff_getElem?.1 hx;have hjl:=(List.getElem?_eq_some_iff.1 hj).1;have:=h3 j hjl;rw[hget j hjl,hj]at this;exact this
theorem sort_own{W:World}{base n c:Nat}{A:Option Addr}{zs:List Int}(h:W.ownsRow base 3 1 (.slice A n c) n (zs.map (.int .i64)))(hn:n<4611686018427387904):
  Calls Tryz.prog 86 #[.slice A n c] W fun e w'=>e=.returned (.tuple #[])∧w'.ownsRow base 3 1 (.slice A n c) n ((sorted zs).map (.int .i64))∧W.grownBy w' (Value.slice A n c).ownBlock:=by
 have hl:zs.length=n:=by simpa using h.1
 by_cases h0:n=0
 ·subst h0;have hz:zs=[]:=List.eq_nil_of_length_eq_zero hl;subst hz;refine(Tryz.slices_Sort_int_none A c W).mono ?_;rintro e w' ⟨rfl,rfl⟩;exact⟨rfl,by simpa[sorted]using h,World.grownBy.refl _ _⟩
 ·obtain⟨g,rfl,hb,hg⟩:=own_head h (by omega);obtain⟨g',cap,hv,_,_,_,_,_,hH⟩:=Lib.holds_of_ownsRow h (by simp);injection hv with hv1 _ hv3
  injection hv1 with hv1
  injection hv1 with hv1 _ _
  subst hv1 hv3;have hS:=Tryz.slices_Sort_int g 0 c zs W hH hg (by omega);rw[hl]at hS;refine hS.mono ?_;rintro e w' ⟨rfl,q,os,rfl⟩;obtain⟨cap,cur,hv,h1,h2,h3,h4,h5⟩:∃cap cur,c=cap∧W.heap[g]? =some (.cells cur 3 (0,0))∧n≤cap∧cap≤maxLen∧cur.size=cap*1∧base≤g:=by
   rcases h.2 with⟨hx,_⟩|⟨g2,cap,cur,hx,hb2,hg2,h1,h2,h3,_⟩
   ·cases hx
   ·injection hx with hx1 _ hx3
    injection hx1 with hx1
    injection hx1 with hx1 _ _
    subst hx1;exact⟨cap,cur,hx3,hg2,h1,h2,h3,hb2⟩
  subst hv;have:=ownsRow_sortedI (n:=q) (os:=os) (ss:=zs) (ts:=sorted zs) (sorted_len zs) h5 h1 (by omega) h3 h4;rw[hl]at this;exact⟨rfl,this,grownBy_sortedI _⟩
theorem compact_own{W:World}{base n c:Nat}{A:Option Addr}{zs:List Int}(h:W.ownsRow base 3 1 (.slice A n c) n (zs.map (.int .i64)))(hn:n<4611686018427387904)(h0:0<n):
  Calls Tryz.prog 87 #[.slice A n c] W fun e w'=>e=.returned (.slice A (Lib.compact zs).length c)∧w'.ownsRow base 3 1 (.slice A (Lib.compact zs).length c) (Lib.compact zs).length ((Lib.compact zs).map (.int .i64))∧W.grownBy w' (Value.slice A n c).ownBlock:=by
 have hl:zs.length=n:=by simpa using h.1
 obtain⟨g,rfl,hb,hg⟩:=own_head h (by omega);obtain⟨g',cap,hv,_,_,hnc,_,_,hH⟩:=Lib.holds_of_ownsRow h (by simp);injection hv with hv1 _ hv3
 injection hv1 with hv1
 injection hv1 with hv1 _ _
 subst hv1 hv3;have hS:=Tryz.slices_Compact_int g 0 c zs W hH (by omega) (by omega);rw[hl]at hS;refine hS.mono ?_;rintro e w' ⟨rfl,q,rfl⟩;have hle:=Lib.compact_length_le zs;have:=Lib.ownsRow_putRow (q:=q) (k:=(Lib.compact zs).length) (ys:=Lib.compact zs++List.replicate (n-(Lib.compact zs).length) 0) h (by rw[List.length_append,List.length_replicate];omega) (by omega);rw[List.take_left' rfl]at this;refine⟨rfl,this,?_⟩;have:=grownBy_sortedI (w:=W) (g:=g) (n:=q) (os:= #[]) (Lib.compact zs++List.replicate (n-(Lib.compact zs).length) 0).toArray;rw[grow_empty]at this;exact this
end
section
open Go.RowKit
inductive Clo (l:List Lst) (P:Nat→Prop):Nat→Prop
 |base {x:Nat} (h:P x):Clo l P x
 |step {y x:Nat}{s:Lst} (hy:Clo l P y) (hs:l[y]? =some s) (hx:((x:Nat):Int)∈s.free):Clo l P x
open Classical in
noncomputable def setL(n:Nat)(P:Nat→Prop):List Int:=((List.range n).filter fun x=>decide (P x)).map fun x:Nat=>(x:Int)
open Classical in
theorem setL_mem{n:Nat}{P:Nat→Prop}{z:Int}:z∈setL n P↔∃x:Nat,z=(x:Int)∧x<n∧P x:=by
 unfold setL;rw[List.mem_map];constructor
 ·rintro⟨x,hx,rfl⟩;rw[List.mem_filter,List.mem_range]at hx;exact⟨x,rfl,hx.1,of_decide_eq_true hx.2⟩
 ·rintro⟨x,rfl,h1,h2⟩;exact⟨x,by rw[List.mem_filter,List.mem_range];exact⟨h1,decide_eq_true h2⟩,rfl⟩
open Classical in
theorem setL_lt(n:Nat)(P:Nat→Prop):(setL n P).Pairwise fun x y=>x<y:=by
 unfold setL;rw[List.pairwise_map];refine List.Pairwise.filter _ ?_;refine List.pairwise_lt_range.imp fun h=>?_
 omega
theorem setL_congr{n:Nat}{P Q:Nat→Prop}(h:∀x,x<n→(P x↔Q x)):setL n P=setL n Q:=by
 refine lt_ext (setL_lt n P) (setL_lt n Q) fun z=>?_
 rw[setL_mem,setL_mem];constructor
 ·rintro⟨x,h1,h2,h3⟩;exact⟨x,h1,h2,(h x h2).1 h3⟩
 ·rintro⟨x,h1,h2,h3⟩;exact⟨x,h1,h2,(h x h2).2 h3⟩
theorem setL_len(n:Nat)(P:Nat→Prop):(setL n P).length≤n:=by
 unfold setL;rw[List.length_map];exact Nat.le_trans (List.length_filter_le _ _) (by rw[List.length_range];exact Nat.le_refl _)
structure LGood(l:List Lst):Prop where
 ne:l≠[]
 arc:∀s∈l,∀a∈s.arcs,0≤a.1∧a.1≤a.2.1∧a.2.1≤255∧0≤a.2.2∧a.2.2<(l.length:Int)
 fre:∀s∈l,∀t∈s.free,0≤t∧t<(l.length:Int)
theorem loose_iff(l:List Lst):looseB l=true↔LGood l:=by
 unfold looseB;rw[Bool.and_eq_true,List.all_eq_true];constructor
 ·rintro⟨h1,h2⟩;refine⟨fun e=>(by rw[e]at h1;cases h1),fun s hs a ha=>?_,fun s hs t ht=>?_⟩
  ·have:=h2 s hs;rw[Bool.and_eq_true,List.all_eq_true,List.all_eq_true]at this;exact of_decide_eq_true (this.1 a ha)
  ·have:=h2 s hs;rw[Bool.and_eq_true,List.all_eq_true,List.all_eq_true]at this;exact of_decide_eq_true (this.2 t ht)
 ·intro h
  refine⟨?_,fun s hs=>?_⟩
  ·cases l with
   |nil=>exact absurd rfl h.ne
   |cons a r=>rfl
  ·rw[Bool.and_eq_true,List.all_eq_true,List.all_eq_true];exact⟨fun a ha=>decide_eq_true (h.arc s hs a ha),fun t ht=>decide_eq_true (h.fre s hs t ht)⟩
def mu:List Lst→List Bool→Nat
 |s::r,b::t=>(if b then 0 else s.free.length+1)+mu r t
 |_,_=>0
theorem mu_set:∀{l:List Lst}{L:List Bool}{k:Nat}{s:Lst},l[k]? =some s→L[k]? =some false→mu l (L.set k true)+(s.free.length+1)=mu l L
 |[],_,_,_,h,_=>by cases h
 |_::_,[],_,_,_,h=>by cases h
 |
  s::r,b::t,0,s',h,hb=>by
  simp at h hb
  subst h hb;simp[mu]
  omega
 |
  s::r,b::t,k+1,s',h,hb=>by
  have:=mu_set (l:=r) (L:=t) (k:=k) (s:=s') (by simpa using h) (by simpa using hb);simp only[List.set_cons_succ,mu];omega
theorem mu_le:∀{l:List Lst}{L:List Bool},(∀s∈l,s.free.length≤2097152)→mu l L≤l.length*2097153
 |[],_,_=>Nat.zero_le _
 |_::_,[],_=>Nat.zero_le _
 |
  s::r,b::t,h=>by
  have h1:=mu_le (l:=r) (L:=t) fun x hx=>h x (List.mem_cons_of_mem _ hx)
  have h2:=h s (List.mem_cons_self ..);rw[mu,List.length_cons,Nat.add_mul];split<;>omega
structure FreP(l:List Lst)(F0:List Int)(L:List Bool)(O F:List Int):Prop where
 len:L.length=l.length
 nd:O.Nodup
 iff:∀x:Nat,x<l.length→(L[x]? =some true↔((x:Nat):Int)∈O)
 oin:∀y∈O,∃k:Nat,y=(k:Int)∧k<l.length∧Clo l (fun x=>((x:Nat):Int)∈F0) k
 fin:∀y∈F,∃k:Nat,y=(k:Int)∧k<l.length∧Clo l (fun x=>((x:Nat):Int)∈F0) k
 bas:∀y∈F0,y∈O∨y∈F
 cls:∀(k:Nat) s,((k:Nat):Int)∈O→l[k]? =some s→∀y∈s.free,y∈O∨y∈F
theorem FreP.start{l:List Lst}{F0:List Int}(h:∀y∈F0,∃k:Nat,y=(k:Int)∧k<l.length):FreP l F0 (List.replicate l.length false) [] F0:=by
 refine⟨by simp,List.Pairwise.nil,fun x hx=>?_,fun y hy=>absurd hy List.not_mem_nil,fun y hy=>?_,fun y hy=>.inr hy,fun k s hk=>absurd hk List.not_mem_nil⟩
 ·rw[List.getElem?_replicate,if_pos hx];exact⟨fun h=>(by cases h),fun h=>absurd h List.not_mem_nil⟩
 ·obtain⟨k,rfl,hk⟩:=h y hy;exact⟨k,rfl,hk,.base hy⟩
theorem FreP.skip{l:List Lst}{F0 O F:List Int}{L:List Bool}{x:Nat}(h:FreP l F0 L O (F++[(x:Int)]))(hx:L[x]? =some true):FreP l F0 L O F:=by
 have hxl:x<l.length:=by rw[←h.len];exact(List.getElem?_eq_some_iff.1 hx).1
 have hxO:=(h.iff x hxl).1 hx;have key:∀y,y∈O∨y∈F++[(x:Int)]→y∈O∨y∈F:=fun y hy=>by
  rcases hy with hy|hy
  ·exact .inl hy
  ·rcases List.mem_append.1 hy with hy|hy
   ·exact .inr hy
   ·rw[List.mem_singleton.1 hy];exact .inl hxO
 exact⟨h.len,h.nd,h.iff,h.oin,fun y hy=>h.fin y (List.mem_append_left _ hy),fun y hy=>key y (h.bas y hy),fun k s hk hs y hy=>key y (h.cls k s hk hs y hy)⟩
theorem FreP.take{l:List Lst}{F0 O F:List Int}{L:List Bool}{x:Nat}{s:Lst}(hg:LGood l)(h:FreP l F0 L O (F++[(x:Int)]))(hx:L[x]? =some false)(hs:l[x]? =some s):FreP l F0 (L.set x true) (O++[(x:Int)]) (F++s.free):=by
 have hxl:x<L.length:=(List.getElem?_eq_some_iff.1 hx).1;have hxn:x<l.length:=by rw[←h.len];exact hxl
 have hxO:((x:Nat):Int)∉O:=fun hm=>by
  have:=(h.iff x hxn).2 hm;rw[hx]at this;cases this
 have hclo:Clo l (fun x=>((x:Nat):Int)∈F0) x:=by
  obtain⟨k,hk,_,hc⟩:=h.fin (x:Int) (List.mem_append_right _ (List.mem_singleton.2 rfl));have:x=k:=by omega
  rw[this];exact hc
 have key:∀y,y∈O∨y∈F++[(x:Int)]→y∈O++[(x:Int)]∨y∈F++s.free:=fun y hy=>by
  rcases hy with hy|hy
  ·exact .inl (List.mem_append_left _ hy)
  ·rcases List.mem_append.1 hy with hy|hy
   ·exact .inr (List.mem_append_left _ hy)
   ·exact .inl (List.mem_append_right _ hy)
 refine⟨by rw[List.length_set];exact h.len,?_,fun y hy=>?_,fun y hy=>?_,fun y hy=>?_,fun y hy=>key y (h.bas y hy),fun k s' hk hs' y hy=>?_⟩
 ·refine List.nodup_append.2 ⟨h.nd,List.pairwise_singleton _ _,fun a ha b hb=>?_⟩;rw[List.mem_singleton.1 hb];exact fun e=>hxO (by rw[←e];exact ha)
 ·rw[List.getElem?_set];by_cases e:x=y
  ·subst e;rw[if_pos rfl,if_pos hxl];exact⟨fun _=>List.mem_append_right _ (List.mem_singleton.2 rfl),fun _=>rfl⟩
  ·rw[if_neg e,h.iff y hy];constructor
   ·exact fun hm=>List.mem_append_left _ hm
   ·intro hm
    rcases List.mem_append.1 hm with hm|hm
    ·exact hm
    ·have:=List.mem_singleton.1 hm;omega
 ·rcases List.mem_append.1 hy with hy|hy
  ·exact h.oin y hy
  ·rw[List.mem_singleton.1 hy];exact⟨x,rfl,hxn,hclo⟩
 ·rcases List.mem_append.1 hy with hy|hy
  ·exact h.fin y (List.mem_append_left _ hy)
  ·have hb:=hg.fre s (List.mem_of_getElem? hs) y hy;refine⟨y.toNat,by omega,by omega,.step hclo hs ?_⟩;rw[show((y.toNat:Nat):Int)=y by omega];exact hy
 ·rcases List.mem_append.1 hk with hk|hk
  ·exact key y (h.cls k s' hk hs' y hy)
  ·have:k=x:=by have:=List.mem_singleton.1 hk;omega
   subst this;rw[hs]at hs';injection hs' with hs'
   subst hs';exact .inr (List.mem_append_right _ hy)
theorem FreP.last{l:List Lst}{F0 O:List Int}{L:List Bool}(h:FreP l F0 L O []):sorted O=setL l.length (Clo l fun x=>((x:Nat):Int)∈F0):=by
 refine lt_ext (sorted_lt h.nd) (setL_lt _ _) fun z=>?_
 rw[sorted_mem,setL_mem];constructor
 ·intro hz
  obtain⟨k,h1,h2,h3⟩:=h.oin z hz;exact⟨k,h1,h2,h3⟩
 ·rintro⟨k,rfl,hk,hc⟩;have:∀x,Clo l (fun x=>((x:Nat):Int)∈F0) x→((x:Nat):Int)∈O:=by
   intro x hx
   induction hx with
   |
    base hb=>
    rcases h.bas _ hb with h1|h1
    ·exact h1
    ·exact absurd h1 List.not_mem_nil
   |
    step _ hs hx ih=>
    rcases h.cls _ _ ih hs _ hx with h1|h1
    ·exact h1
    ·exact absurd h1 List.not_mem_nil
  exact this k hc
theorem FreP.few{l:List Lst}{F0 O F:List Int}{L:List Bool}(h:FreP l F0 L O F):O.length≤l.length:=by
 have h1:∀z,z∈sorted O→∃x:Nat,z=(x:Int)∧x<l.length:=fun z hz=>by
  obtain⟨k,h1,h2,_⟩:=h.oin z ((sorted_mem O z).1 hz);exact⟨k,h1,h2⟩
 have h2:sorted O=setL l.length fun x=>((x:Nat):Int)∈O:=by
  refine lt_ext (sorted_lt h.nd) (setL_lt _ _) fun z=>?_
  rw[sorted_mem,setL_mem];constructor
  ·intro hz
   obtain⟨k,e,hk⟩:=h1 z ((sorted_mem O z).2 hz);exact⟨k,e,hk,by rw[←e];exact hz⟩
  ·rintro⟨k,rfl,_,hm⟩;exact hm
 have h3:=setL_len l.length fun x=>((x:Nat):Int)∈O
 rw[←h2,sorted_len]at h3;exact h3
end
end Go.Proofs.YtaociahafamncaaGreatDoor
