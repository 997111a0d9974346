/- Folded. -/
import Derived.Test.YtaociahafamncaaGreatDoorHM19
import Derived.Sort.OwnSortedInts
import Derived.Lib.OwnBridge
import Derived.Lib.SlicesCompact
import Derived.Lib.RowBridge
import Derived.Deep.OwnRows
set_option maxRecDepth 100000
set_option maxHeartbeats 40000000
namespace Go.Proofs.YtaociahafamncaaGreatDoor
section
open Go.RowKit
structure Lst where
 fin:Bool
 arcs:List Arc3
 free:List Int
def zo8(n:Nat)(a:Arc3):Bool:=decide (0≤a.1∧a.1≤a.2.1∧a.2.1≤255∧0≤a.2.2∧a.2.2<(n:Int))
def okTo(n:Nat)(t:Int):Bool:=decide (0≤t∧t<(n:Int))
def zkf(l:List Lst):Bool:= !l.isEmpty&&l.all fun s=>s.arcs.all (zo8 l.length)&&s.free.all (okTo l.length)
structure Lsh where
 d:Lst
 A:Option Addr
 c:Nat
 F:Option Addr
 e:Nat
def Lsh.hdr(x:Lsh):List Value:=[.bool x.d.fin,.slice x.A x.d.arcs.length x.c,.slice x.F x.d.free.length x.e]
structure LoIn(w:World)(B:Nat)(A:Option Addr)(n c:Nat)(H:List Lsh):Prop where
 len:H.length=n
 sl:Sl w B 3 A n (H.flatMap Lsh.hdr)
 nc:n≤c
 cm:n≤2097152
 ar:∀x∈H,Sl w B 3 x.A x.d.arcs.length (zaa x.d.arcs)∧x.d.arcs.length≤x.c∧x.d.arcs.length≤2097152
 fr:∀x∈H,Sl w B 1 x.F x.d.free.length (x.d.free.map (.int .i64))∧x.d.free.length≤x.e∧x.d.free.length≤2097152∧(x.F=none→x.d.free.length=0)
section
variable {w w':World}{B B':Nat}{A:Option Addr}{n c:Nat}{H:List Lsh}
theorem LoIn.keep(h:LoIn w B A n c H)(hb:Below B w w')(hB:B≤B'):LoIn w' B' A n c H:=
 ⟨h.len,(h.sl.below hb).more hB,h.nc,h.cm,fun x hx=>⟨((h.ar x hx).1.below hb).more hB,(h.ar x hx).2⟩,fun x hx=>⟨((h.fr x hx).1.below hb).more hB,(h.fr x hx).2⟩⟩
theorem LoIn.at_(h:LoIn w B A n c H)(hn:0<n):∃b off,A=some ⟨b,off,none⟩∧b<B∧∀k x,H[k]? =some x→w.cell? ⟨b,off+k*3,none⟩=some (.bool x.d.fin)∧w.cell? ⟨b,off+k*3+1,none⟩=some (.slice x.A x.d.arcs.length x.c)∧w.cell? ⟨b,off+k*3+2,none⟩=some (.slice x.F x.d.free.length x.e):=by
 obtain⟨b,off,hA,hb,hc⟩:=h.sl.at_ hn;refine⟨b,off,hA,hb,fun k e he=>?_⟩;have g:∀j u,e.hdr[j]? =some u→j<3→w.cell? ⟨b,off+(k*3+j),none⟩=some u:=fun j u hu hj=>
  hc _ _ (by rw[zc7 Lsh.hdr 3 (fun _=>rfl) H k j e he hj];exact hu)
 exact⟨g 0 _ rfl (by omega),by have:=g 1 _ rfl (by omega);rwa[←Nat.add_assoc]at this,by have:=g 2 _ rfl (by omega);rwa[←Nat.add_assoc]at this⟩
theorem LoIn.arcs(h:LoIn w B A n c H){x:Lsh}(hx:x∈H):ArcsIn w B x.A x.d.arcs.length x.c x.d.arcs:=⟨rfl,(h.ar x hx).1,by have:=(h.ar x hx).2.2;omega⟩
theorem LoIn.frees(h:LoIn w B A n c H){x:Lsh}(hx:x∈H)(hn:0<x.d.free.length):∃b off,x.F=some ⟨b,off,none⟩∧b<B∧∀k z,x.d.free[k]? =some z→w.cell? ⟨b,off+k,none⟩=some (.int .i64 z):=by
 obtain⟨b,off,hA,hb,hc⟩:=(h.fr x hx).1.at_ hn;exact⟨b,off,hA,hb,fun k z hz=>hc k _ (by rw[List.getElem?_map,hz];rfl)⟩
end
theorem z8e(w:World)(B:Nat)(hB:B≤w.heap.size)(A:Option Addr)(n c:Nat)(H:List Lsh)(h:LoIn w B A n c H):
  Calls Tryz.prog 77 #[.slice A n c] w fun e w'=>e=.returned (.bool (zkf (H.map (·.d))))∧Below w.heap.size w w':=by
 have HS:=Lib.hid h;have hlen:=h.len;have hcm:=h.cm;clear h;go_enter Tryz.func77,Tryz.ntmps77
 go_wp2_with fail;have HBAD:Hid (∀x∈H,(x.d.arcs.all (zo8 n)&&x.d.free.all (okTo n))=false→zkf (H.map (·.d))=false):=fun x hx hf=>by
  unfold zkf;have:(H.map (·.d)).all (fun s=>s.arcs.all (zo8 (H.map (·.d)).length)&&s.free.all (okTo (H.map (·.d)).length))=false:=by
   rw[List.all_eq_false];refine⟨x.d,List.mem_map_of_mem hx,?_⟩;rw[List.length_map,hlen,hf];simp
  rw[this,Bool.and_false]
 go_loopw [11] (fun iv wr=>∃k:Nat,k≤n∧iv=.int .i64 k∧Hid (∀x∈H.take k,(x.d.arcs.all (zo8 n)&&x.d.free.all (okTo n))=true)∧Hid (Below w.heap.size w wr)) (fun iv _=>n-(intOf iv).toNat)
 case atStart=>exact⟨0,Nat.zero_le _,rfl,fun x hx=>by simp at hx,za0 w⟩
 case round=>
  obtain⟨k,hk,rfl,HK,HB⟩:=hrel;by_cases hlt:k<n
  ·have HW:=Lib.hid (HS.out.keep (HB.out.mono hB) (Nat.le_refl _));obtain⟨b,off,rfl,hb,hcell⟩:=HW.out.at_ (by omega);obtain⟨x,hx⟩:∃x,H[k]? =some x:=⟨H[k]'(by omega),List.getElem?_eq_getElem _⟩;obtain⟨k0,k1,k2⟩:=hcell k x hx;have hbw:b<wr.heap.size:=Nat.lt_of_lt_of_le hb (Nat.le_trans hB HB.out.size);have hxm:=List.mem_of_getElem? hx;obtain⟨m,hm⟩:∃m,x.d.arcs.length=m:=⟨_,rfl⟩;obtain⟨q,hq⟩:∃m,x.d.free.length=m:=⟨_,rfl⟩;have hma:=(HS.out.ar x hxm).2;have hmf:=(HS.out.fr x hxm).2;rw[hm]at k1 hma;rw[hq]at k2 hmf;obtain⟨hmc,hm20⟩:=hma;obtain⟨hqc,hq20,_⟩:=hmf;have HM:=Lib.hid hm;have HQ:=Lib.hid hq;have HXM:=Lib.hid hxm;have HXK:=Lib.hid hx;clear hcell hx hxm hm hq;go_wp2_with fail;have HB1:=Lib.hid (bnew HB.out (.cells #[.bool x.d.fin,.slice x.A m x.c,.slice x.F q x.e] 134));have HC1:=Lib.hid (heap_alloc_new wr (.cells #[.bool x.d.fin,.slice x.A m x.c,.slice x.F q x.e] 134));clear k0 k1 k2 hbw HW;generalize wr.heap.size=sp at*;go_loopw [18] (fun jv wj=>∃j:Nat,j≤m∧jv=.int .i64 j∧Hid ((x.d.arcs.take j).all (zo8 n)=true)∧Hid (wj.heap[sp]? =some (.cells #[.bool x.d.fin,.slice x.A m x.c,.slice x.F q x.e] 134 (0,0)))∧Hid (Below w.heap.size w wj)) (fun jv _=>m-(intOf jv).toNat)
   case atStart=>exact⟨0,Nat.zero_le _,rfl,rfl,HC1,HB1⟩
   case round=>
    clear HB1 HC1;obtain⟨j,hj,rfl,HO,HC,HBJ⟩:=hrel;by_cases hjm:j<m
    ·have HWJ:=HS.out.keep (HBJ.out.mono hB) (Nat.le_refl _);obtain⟨ab,aoff,hxA,hab,hac⟩:=(HWJ.arcs HXM.out).at_ (by rw[HM.out];omega);obtain⟨a,ha⟩:∃a,x.d.arcs[j]? =some a:=⟨x.d.arcs[j]'(by rw[HM.out];exact hjm),List.getElem?_eq_getElem _⟩;obtain⟨a0,a1,a2⟩:=hac j a ha;have habw:ab<wr.heap.size:=Nat.lt_of_lt_of_le hab (Nat.le_trans hB HBJ.out.size);have HTK:Hid (x.d.arcs.take (j+1)=x.d.arcs.take j++[a]):=by show _=_;rw[List.take_add_one,ha];rfl
     have HBN:=Lib.hid (bnew HBJ.out (.cells #[.int .i64 a.1,.int .i64 a.2.1,.int .i64 a.2.2] 76));have HCN:Hid ((wr.alloc (.cells #[.int .i64 a.1,.int .i64 a.2.1,.int .i64 a.2.2] 76)).heap[sp]? =some (.cells #[.bool x.d.fin,.slice x.A m x.c,.slice x.F q x.e] 134 (0,0))):=((bnew (za0 wr) _).block _ (Array.getElem?_eq_some_iff.1 HC.out).1).trans HC.out;have HFL:Hid (zo8 n a=false→zkf (H.map (·.d))=false):=fun hf=>HBAD.out x HXM.out (by
      have:x.d.arcs.all (zo8 n)=false:=List.all_eq_false.2 ⟨a,List.mem_of_getElem? ha,by rw[hf];simp⟩;rw[this,Bool.false_and])
     rw[hxA];rw[hxA]at HCN;clear hac HWJ ha;obtain⟨lo,hi,tt⟩:=a;simp only at a0 a1 a2 HBN HCN;by_cases c1:lo<0
     ·have p1:decide (lo<0)=true:=decide_eq_true c1;have HF:=Lib.hid (HFL.out (decide_eq_false (by show¬(0≤lo∧_);omega)));clear c1;go_wp2_with fail;go_ret;exact⟨by rw[HF.out];rfl,HBN.out⟩
     have p1:decide (lo<0)=false:=decide_eq_false c1;by_cases c2:hi<lo
     ·have p2:decide (hi<lo)=true:=decide_eq_true c2;have HF:=Lib.hid (HFL.out (decide_eq_false (by show¬(0≤lo∧lo≤hi∧_);omega)));clear c1 c2;go_wp2_with fail;go_ret;exact⟨by rw[HF.out];rfl,HBN.out⟩
     have p2:decide (hi<lo)=false:=decide_eq_false c2;by_cases c3:255<hi
     ·have p3:decide (hi>255)=true:=decide_eq_true c3;have HF:=Lib.hid (HFL.out (decide_eq_false (by show¬(0≤lo∧lo≤hi∧hi≤255∧_);omega)));clear c1 c2 c3;go_wp2_with fail;go_ret;exact⟨by rw[HF.out];rfl,HBN.out⟩
     have p3:decide (hi>255)=false:=decide_eq_false c3;by_cases c4:tt<0
     ·have p4:decide (tt<0)=true:=decide_eq_true c4;have HF:=Lib.hid (HFL.out (decide_eq_false (by show¬(0≤lo∧lo≤hi∧hi≤255∧0≤tt∧_);omega)));clear c1 c2 c3 c4;go_wp2_with fail;go_ret;exact⟨by rw[HF.out];rfl,HBN.out⟩
     have p4:decide (tt<0)=false:=decide_eq_false c4;by_cases c5:(n:Int)≤tt
     ·have p5:decide (tt≥(n:Int))=true:=decide_eq_true c5;have HF:=Lib.hid (HFL.out (decide_eq_false (by show¬(0≤lo∧lo≤hi∧hi≤255∧0≤tt∧tt<(n:Int));omega)));clear c1 c2 c3 c4 c5;go_wp2_with fail;go_ret;exact⟨by rw[HF.out];rfl,HBN.out⟩
     have p5:decide (tt≥(n:Int))=false:=decide_eq_false c5;have HON:Hid ((x.d.arcs.take (j+1)).all (zo8 n)=true):=by
      show _=_;rw[HTK.out,List.all_append,HO.out,Bool.true_and,List.all_cons,List.all_nil,Bool.and_true];exact decide_eq_true (by show 0≤lo∧lo≤hi∧hi≤255∧0≤tt∧tt<(n:Int);omega)
     clear c1 c2 c3 c4 c5;go_wp2_with fail;go_roundw;case rel=>exact⟨j+1,by omega,by go_num,HON,HCN,HBN⟩
     case measure=>simp[intOf];omega
    ·obtain rfl:m=j:=by omega
     have HAR:Hid (x.d.arcs.all (zo8 n)=true):=by
      have:=HO.out;rw[List.take_of_length_le (by rw[HM.out];exact Nat.le_refl _)]at this;exact this
     have c2:=cell_of_row _ sp 2 _ _ (0,0) HC.out;have hsl:=(Array.getElem?_eq_some_iff.1 HC.out).1;simp at c2
     clear HO;go_wp2_with fail;go_loopw [53] (fun jv wj=>∃j:Nat,j≤q∧jv=.int .i64 j∧Hid ((x.d.free.take j).all (okTo n)=true)∧Hid (Below w.heap.size w wj)) (fun jv _=>q-(intOf jv).toNat)
     case atStart=>exact⟨0,Nat.zero_le _,rfl,rfl,HBJ⟩
     case round=>
      clear HBJ HC c2 hsl;obtain⟨j,hj,rfl,HO,HBJ⟩:=hrel;by_cases hjm:j<q
      ·have HWJ:=HS.out.keep (HBJ.out.mono hB) (Nat.le_refl _);obtain⟨ab,aoff,hxA,hab,hac⟩:=HWJ.frees HXM.out (by rw[HQ.out];omega);obtain⟨tt,ha⟩:∃a,x.d.free[j]? =some a:=⟨x.d.free[j]'(by rw[HQ.out];exact hjm),List.getElem?_eq_getElem _⟩;have a0:=hac j tt ha;have habw:ab<wr.heap.size:=Nat.lt_of_lt_of_le hab (Nat.le_trans hB HBJ.out.size);have HTK:Hid (x.d.free.take (j+1)=x.d.free.take j++[tt]):=by show _=_;rw[List.take_add_one,ha];rfl
       have HFL:Hid (okTo n tt=false→zkf (H.map (·.d))=false):=fun hf=>HBAD.out x HXM.out (by
        have:x.d.free.all (okTo n)=false:=List.all_eq_false.2 ⟨tt,List.mem_of_getElem? ha,by rw[hf];simp⟩;rw[this,Bool.and_false])
       rw[hxA];clear hac HWJ ha;by_cases c4:tt<0
       ·have p4:decide (tt<0)=true:=decide_eq_true c4;have HF:=Lib.hid (HFL.out (decide_eq_false (by show¬(0≤tt∧_);omega)));clear c4;go_wp2_with fail;go_ret;exact⟨by rw[HF.out];rfl,HBJ.out⟩
       have p4:decide (tt<0)=false:=decide_eq_false c4;by_cases c5:(n:Int)≤tt
       ·have p5:decide (tt≥(n:Int))=true:=decide_eq_true c5;have HF:=Lib.hid (HFL.out (decide_eq_false (by show¬(0≤tt∧tt<(n:Int));omega)));clear c4 c5;go_wp2_with fail;go_ret;exact⟨by rw[HF.out];rfl,HBJ.out⟩
       have p5:decide (tt≥(n:Int))=false:=decide_eq_false c5;have HON:Hid ((x.d.free.take (j+1)).all (okTo n)=true):=by
        show _=_;rw[HTK.out,List.all_append,HO.out,Bool.true_and,List.all_cons,List.all_nil,Bool.and_true];exact decide_eq_true (by show 0≤tt∧tt<(n:Int);omega)
       clear c4 c5;go_wp2_with fail;go_roundw;case rel=>exact⟨j+1,by omega,by go_num,HON,HBJ⟩
       case measure=>simp[intOf];omega
      ·obtain rfl:q=j:=by omega
       have HFR:Hid (x.d.free.all (okTo n)=true):=by
        have:=HO.out;rw[List.take_of_length_le (by rw[HQ.out];exact Nat.le_refl _)]at this;exact this
       have HKN:Hid (∀y∈H.take (k+1),(y.d.arcs.all (zo8 n)&&y.d.free.all (okTo n))=true):=fun y hy=>by
        rw[List.take_add_one,HXK.out]at hy;rcases List.mem_append.1 hy with hy|hy
        ·exact HK.out y hy
        ·have:y=x:=by simpa using hy
         rw[this,HAR.out,HFR.out];rfl
       clear HO;go_wp2_with fail;go_roundw;case rel=>exact⟨k+1,by omega,by go_num,HKN,HBJ⟩
       case measure=>simp[intOf];omega
  ·obtain rfl:n=k:=by omega
   have hall:H.take n=H:=List.take_of_length_le (by omega);rw[hall]at HK;have HE:Hid (zkf (H.map (·.d))=decide (0<n)):=by
    show _=_;unfold zkf;have:(H.map (·.d)).all (fun s=>s.arcs.all (zo8 (H.map (·.d)).length)&&s.free.all (okTo (H.map (·.d)).length))=true:=by
     rw[List.all_eq_true];intro s hs
     obtain⟨y,hy,rfl⟩:=List.mem_map.1 hs;rw[List.length_map,hlen];exact HK.out y hy
    rw[this,Bool.and_true];cases hH:H with
    |nil=>rw[hH]at hlen;rw[←hlen];rfl
    |cons y r=>rw[hH]at hlen;rw[←hlen];simp
   clear hall;have q1:decide ((n:Int)>0)=decide (0<n):=decide_eq_decide.2 (by omega);go_wp2_with fail;go_ret;exact⟨by rw[HE.out];first|rfl|(simp;done),HB.out⟩
end
section
open Go.RowKit Go.Sort
def sorted(zs:List Int):List Int:=zs.mergeSort fun x y=>decide (x≤y)
theorem zg6(zs:List Int)(x:Int):x∈sorted zs↔x∈zs:=List.mem_mergeSort
theorem zr4(zs:List Int):(sorted zs).length=zs.length:=List.length_mergeSort _
theorem zv6(zs:List Int):(sorted zs).Pairwise fun x y=>x≤y:=by
 have h:=List.pairwise_mergeSort (le:=fun x y:Int=>decide (x≤y)) (fun a b c h1 h2=>by simp at h1 h2⊢;omega) (fun a b=>by simp;omega) zs;exact h.imp fun h=>by simpa using h
theorem zv5{zs:List Int}(h:zs.Nodup):(sorted zs).Pairwise fun x y=>x<y:=by
 have hn:(sorted zs).Nodup:=(List.mergeSort_perm zs _).nodup_iff.2 h;exact((zv6 zs).and hn).imp fun⟨h1,h2⟩=>by omega
theorem z14:∀{l m:List Int},l.Pairwise (fun x y=>x<y)→m.Pairwise (fun x y=>x<y)→(∀x,x∈l↔x∈m)→l=m
 |[],[],_,_,_=>rfl
 |[],y::m,_,_,h=>absurd ((h y).2 (List.mem_cons_self ..)) List.not_mem_nil
 |x::l,[],_,_,h=>absurd ((h x).1 (List.mem_cons_self ..)) List.not_mem_nil
 |
  x::l,y::m,h1,h2,h=>by
  obtain⟨a1,a2⟩:=List.pairwise_cons.1 h1;obtain⟨b1,b2⟩:=List.pairwise_cons.1 h2;have hxy:x=y:=by
   have hx:=(h x).1 (List.mem_cons_self ..);have hy:=(h y).2 (List.mem_cons_self ..);rcases List.mem_cons.1 hx with e|hx
   ·exact e
   ·rcases List.mem_cons.1 hy with e|hy
    ·exact e.symm
    ·have:=b1 x hx;have:=a1 y hy;omega
  subst hxy;rw[z14 a2 b2 fun z=>?_];constructor
  ·intro hz
   rcases List.mem_cons.1 ((h z).1 (List.mem_cons_of_mem _ hz))with e|hz'
   ·have:=a1 z hz;omega
   ·exact hz'
  ·intro hz
   rcases List.mem_cons.1 ((h z).2 (List.mem_cons_of_mem _ hz))with e|hz'
   ·have:=b1 z hz;omega
   ·exact hz'
theorem zmg{d:Array Int}(hs:∀j,j+1<d.size→d[j]! ≤d[j+1]!):∀m,m≤d.size→(Lib.compactUpTo d m).Pairwise (fun x y=>x<y)∧(∀x∈Lib.compactUpTo d m,(∃j,j<m∧d[j]! =x)∧(0<m→x≤d[m-1]!))∧∀j,j<m→d[j]! ∈Lib.compactUpTo d m
 |
  0,_=>by
  have:Lib.compactUpTo d 0=[]:=rfl;rw[this];exact⟨List.Pairwise.nil,fun x hx=>absurd hx List.not_mem_nil,fun j hj=>absurd hj (Nat.not_lt_zero _)⟩
 |
  m+1,hm=>by
  obtain⟨i1,i2,i3⟩:=zmg hs m (by omega);rw[Lib.compactUpTo_succ];have hprev:0<m→d[m-1]! ≤d[m]! :=fun h0=>by
   have:=hs (m-1) (by omega);rwa[show m-1+1=m by omega]at this
  have hle:∀x∈Lib.compactUpTo d m,x≤d[m]! :=fun x hx=>by
   obtain⟨⟨j,hj,_⟩,h2⟩:=i2 x hx;have:=h2 (by omega);have:=hprev (by omega);omega
  by_cases hk:Lib.keeps d m=true
  ·rw[if_pos hk];refine⟨List.pairwise_append.2 ⟨i1,List.pairwise_singleton _ _,fun x hx y hy=>?_⟩,fun x hx=>?_,fun j hj=>?_⟩
   ·rw[List.mem_singleton.1 hy];obtain⟨⟨j,hj,_⟩,h2⟩:=i2 x hx;have h3:=h2 (by omega);have h4:=hprev (by omega);have h5:d[m]! ≠d[m-1]! :=by
     intro e
     rw[Lib.keeps_neg (by omega) e]at hk;cases hk
    omega
   ·rw[Nat.add_sub_cancel];rcases List.mem_append.1 hx with hx|hx
    ·obtain⟨⟨j,hj,h1⟩,_⟩:=i2 x hx;exact⟨⟨j,by omega,h1⟩,fun _=>hle x hx⟩
    ·rw[List.mem_singleton.1 hx];exact⟨⟨m,by omega,rfl⟩,fun _=>Int.le_refl _⟩
   ·by_cases e:j=m
    ·rw[e];exact List.mem_append_right _ (List.mem_singleton.2 rfl)
    ·exact List.mem_append_left _ (i3 j (by omega))
  ·rw[if_neg hk,List.append_nil];have hm0:0<m:=by
    rcases Nat.eq_zero_or_pos m with h0|h0
    ·subst h0;exact absurd (Lib.keeps_lt_one d 0 (by omega)) hk
    ·exact h0
   have he:d[m]! =d[m-1]! :=by
    apply Classical.byContradiction
    intro hne
    exact hk (Lib.keeps_pos hne)
   refine⟨i1,fun x hx=>?_,fun j hj=>?_⟩
   ·rw[Nat.add_sub_cancel];obtain⟨⟨j,hj,h1⟩,_⟩:=i2 x hx;exact⟨⟨j,by omega,h1⟩,fun _=>hle x hx⟩
   ·by_cases e:j=m
    ·rw[e,he];exact i3 (m-1) (by omega)
    ·exact i3 j (by omega)
theorem zqj{zs:List Int}(h:zs.Pairwise fun x y=>x≤y):(Lib.compact zs).Pairwise (fun x y=>x<y)∧∀x,x∈Lib.compact zs↔x∈zs:=by
 have hget:∀j,j<zs.length→zs.toArray[j]! =zs[j]?.getD 0:=fun j hj=>by
  rw[getElem!_pos _ j (by simpa using hj),List.getElem?_eq_getElem hj];rfl
 have hs:∀j,j+1<zs.toArray.size→zs.toArray[j]! ≤zs.toArray[j+1]! :=fun j hj=>by
  have hj':j+1<zs.length:=by simpa using hj
  rw[hget j (by omega),hget (j+1) hj',List.getElem?_eq_getElem (by omega),List.getElem?_eq_getElem hj'];exact List.pairwise_iff_getElem.1 h j (j+1) (by omega) hj' (by omega)
 obtain⟨h1,h2,h3⟩:=zmg hs zs.length (by simp);refine⟨h1,fun x=>⟨fun hx=>?_,fun hx=>?_⟩⟩
 ·obtain⟨⟨j,hj,e⟩,_⟩:=h2 x hx;rw[hget j hj,List.getElem?_eq_getElem hj]at e;rw[←e];exact List.getElem_mem hj
 ·obtain⟨j,hj⟩:=List.mem_iff_getElem?.1 hx;have hjl:=(List.getElem?_eq_some_iff.1 hj).1;have:=h3 j hjl;rw[hget j hjl,hj]at this;exact this
theorem zze{W:World}{base n c:Nat}{A:Option Addr}{zs:List Int}(h:W.ownsRow base 3 1 (.slice A n c) n (zs.map (.int .i64)))(hn:n<4611686018427387904):
  Calls Tryz.prog 86 #[.slice A n c] W fun e w'=>e=.returned (.tuple #[])∧w'.ownsRow base 3 1 (.slice A n c) n ((sorted zs).map (.int .i64))∧W.grownBy w' (Value.slice A n c).ownBlock:=by
 have hl:zs.length=n:=by simpa using h.1
 by_cases h0:n=0
 ·subst h0;have hz:zs=[]:=List.eq_nil_of_length_eq_zero hl;subst hz;refine(Tryz.slices_Sort_int_none A c W).mono ?_;rintro e w' ⟨rfl,rfl⟩;exact⟨rfl,by simpa[sorted]using h,World.grownBy.refl _ _⟩
 ·obtain⟨g,rfl,hb,hg⟩:=zah h (by omega);obtain⟨g',cap,hv,_,_,_,_,_,hH⟩:=Lib.holds_of_ownsRow h (by simp);injection hv with hv1 _ hv3
  injection hv1 with hv1
  injection hv1 with hv1 _ _
  subst hv1 hv3;have hS:=Tryz.slices_Sort_int g 0 c zs W hH hg (by omega);rw[hl]at hS;refine hS.mono ?_;rintro e w' ⟨rfl,q,os,rfl⟩;obtain⟨cap,cur,hv,h1,h2,h3,h4,h5⟩:∃cap cur,c=cap∧W.heap[g]? =some (.cells cur 3 (0,0))∧n≤cap∧cap≤maxLen∧cur.size=cap*1∧base≤g:=by
   rcases h.2 with⟨hx,_⟩|⟨g2,cap,cur,hx,hb2,hg2,h1,h2,h3,_⟩
   ·cases hx
   ·injection hx with hx1 _ hx3
    injection hx1 with hx1
    injection hx1 with hx1 _ _
    subst hx1;exact⟨cap,cur,hx3,hg2,h1,h2,h3,hb2⟩
  subst hv;have:=ownsRow_sortedI (n:=q) (os:=os) (ss:=zs) (ts:=sorted zs) (zr4 zs) h5 h1 (by omega) h3 h4;rw[hl]at this;exact⟨rfl,this,grownBy_sortedI _⟩
theorem zyj{W:World}{base n c:Nat}{A:Option Addr}{zs:List Int}(h:W.ownsRow base 3 1 (.slice A n c) n (zs.map (.int .i64)))(hn:n<4611686018427387904)(h0:0<n):
  Calls Tryz.prog 87 #[.slice A n c] W fun e w'=>e=.returned (.slice A (Lib.compact zs).length c)∧w'.ownsRow base 3 1 (.slice A (Lib.compact zs).length c) (Lib.compact zs).length ((Lib.compact zs).map (.int .i64))∧W.grownBy w' (Value.slice A n c).ownBlock:=by
 have hl:zs.length=n:=by simpa using h.1
 obtain⟨g,rfl,hb,hg⟩:=zah h (by omega);obtain⟨g',cap,hv,_,_,hnc,_,_,hH⟩:=Lib.holds_of_ownsRow h (by simp);injection hv with hv1 _ hv3
 injection hv1 with hv1
 injection hv1 with hv1 _ _
 subst hv1 hv3;have hS:=Tryz.slices_Compact_int g 0 c zs W hH (by omega) (by omega);rw[hl]at hS;refine hS.mono ?_;rintro e w' ⟨rfl,q,rfl⟩;have hle:=Lib.compact_length_le zs;have:=Lib.ownsRow_putRow (q:=q) (k:=(Lib.compact zs).length) (ys:=Lib.compact zs++List.replicate (n-(Lib.compact zs).length) 0) h (by rw[List.length_append,List.length_replicate];omega) (by omega);rw[List.take_left' rfl]at this;refine⟨rfl,this,?_⟩;have:=grownBy_sortedI (w:=W) (g:=g) (n:=q) (os:= #[]) (Lib.compact zs++List.replicate (n-(Lib.compact zs).length) 0).toArray;rw[grow_empty]at this;exact this
end
section
open Go.RowKit
inductive Clo (l:List Lst) (P:Nat→Prop):Nat→Prop
 |base {x:Nat} (h:P x):Clo l P x
 |step {y x:Nat}{s:Lst} (hy:Clo l P y) (hs:l[y]? =some s) (hx:((x:Nat):Int)∈s.free):Clo l P x
open Classical in
noncomputable def setL(n:Nat)(P:Nat→Prop):List Int:=((List.range n).filter fun x=>decide (P x)).map fun x:Nat=>(x:Int)
open Classical in
theorem zd6{n:Nat}{P:Nat→Prop}{z:Int}:z∈setL n P↔∃x:Nat,z=(x:Int)∧x<n∧P x:=by
 unfold setL;rw[List.mem_map];constructor
 ·rintro⟨x,hx,rfl⟩;rw[List.mem_filter,List.mem_range]at hx;exact⟨x,rfl,hx.1,of_decide_eq_true hx.2⟩
 ·rintro⟨x,rfl,h1,h2⟩;exact⟨x,by rw[List.mem_filter,List.mem_range];exact⟨h1,decide_eq_true h2⟩,rfl⟩
open Classical in
theorem zt8(n:Nat)(P:Nat→Prop):(setL n P).Pairwise fun x y=>x<y:=by
 unfold setL;rw[List.pairwise_map];refine List.Pairwise.filter _ ?_;refine List.pairwise_lt_range.imp fun h=>?_
 omega
theorem zib{n:Nat}{P Q:Nat→Prop}(h:∀x,x<n→(P x↔Q x)):setL n P=setL n Q:=by
 refine z14 (zt8 n P) (zt8 n Q) fun z=>?_
 rw[zd6,zd6];constructor
 ·rintro⟨x,h1,h2,h3⟩;exact⟨x,h1,h2,(h x h2).1 h3⟩
 ·rintro⟨x,h1,h2,h3⟩;exact⟨x,h1,h2,(h x h2).2 h3⟩
theorem zt9(n:Nat)(P:Nat→Prop):(setL n P).length≤n:=by
 unfold setL;rw[List.length_map];exact Nat.le_trans (List.length_filter_le _ _) (by rw[List.length_range];exact Nat.le_refl _)
structure LGood(l:List Lst):Prop where
 ne:l≠[]
 arc:∀s∈l,∀a∈s.arcs,0≤a.1∧a.1≤a.2.1∧a.2.1≤255∧0≤a.2.2∧a.2.2<(l.length:Int)
 fre:∀s∈l,∀t∈s.free,0≤t∧t<(l.length:Int)
theorem z8d(l:List Lst):zkf l=true↔LGood l:=by
 unfold zkf;rw[Bool.and_eq_true,List.all_eq_true];constructor
 ·rintro⟨h1,h2⟩;refine⟨fun e=>(by rw[e]at h1;cases h1),fun s hs a ha=>?_,fun s hs t ht=>?_⟩
  ·have:=h2 s hs;rw[Bool.and_eq_true,List.all_eq_true,List.all_eq_true]at this;exact of_decide_eq_true (this.1 a ha)
  ·have:=h2 s hs;rw[Bool.and_eq_true,List.all_eq_true,List.all_eq_true]at this;exact of_decide_eq_true (this.2 t ht)
 ·intro h
  refine⟨?_,fun s hs=>?_⟩
  ·cases l with
   |nil=>exact absurd rfl h.ne
   |cons a r=>rfl
  ·rw[Bool.and_eq_true,List.all_eq_true,List.all_eq_true];exact⟨fun a ha=>decide_eq_true (h.arc s hs a ha),fun t ht=>decide_eq_true (h.fre s hs t ht)⟩
def mu:List Lst→List Bool→Nat
 |s::r,b::t=>(if b then 0 else s.free.length+1)+mu r t
 |_,_=>0
theorem zG5:∀{l:List Lst}{L:List Bool}{k:Nat}{s:Lst},l[k]? =some s→L[k]? =some false→mu l (L.set k true)+(s.free.length+1)=mu l L
 |[],_,_,_,h,_=>by cases h
 |_::_,[],_,_,_,h=>by cases h
 |
  s::r,b::t,0,s',h,hb=>by
  simp at h hb
  subst h hb;simp[mu]
  omega
 |
  s::r,b::t,k+1,s',h,hb=>by
  have:=zG5 (l:=r) (L:=t) (k:=k) (s:=s') (by simpa using h) (by simpa using hb);simp only[List.set_cons_succ,mu];omega
theorem zKb:∀{l:List Lst}{L:List Bool},(∀s∈l,s.free.length≤2097152)→mu l L≤l.length*2097153
 |[],_,_=>Nat.zero_le _
 |_::_,[],_=>Nat.zero_le _
 |
  s::r,b::t,h=>by
  have h1:=zKb (l:=r) (L:=t) fun x hx=>h x (List.mem_cons_of_mem _ hx)
  have h2:=h s (List.mem_cons_self ..);rw[mu,List.length_cons,Nat.add_mul];split<;>omega
structure FreP(l:List Lst)(F0:List Int)(L:List Bool)(O F:List Int):Prop where
 len:L.length=l.length
 nd:O.Nodup
 iff:∀x:Nat,x<l.length→(L[x]? =some true↔((x:Nat):Int)∈O)
 oin:∀y∈O,∃k:Nat,y=(k:Int)∧k<l.length∧Clo l (fun x=>((x:Nat):Int)∈F0) k
 fin:∀y∈F,∃k:Nat,y=(k:Int)∧k<l.length∧Clo l (fun x=>((x:Nat):Int)∈F0) k
 bas:∀y∈F0,y∈O∨y∈F
 cls:∀(k:Nat) s,((k:Nat):Int)∈O→l[k]? =some s→∀y∈s.free,y∈O∨y∈F
theorem FreP.start{l:List Lst}{F0:List Int}(h:∀y∈F0,∃k:Nat,y=(k:Int)∧k<l.length):FreP l F0 (List.replicate l.length false) [] F0:=by
 refine⟨by simp,List.Pairwise.nil,fun x hx=>?_,fun y hy=>absurd hy List.not_mem_nil,fun y hy=>?_,fun y hy=>.inr hy,fun k s hk=>absurd hk List.not_mem_nil⟩
 ·rw[List.getElem?_replicate,if_pos hx];exact⟨fun h=>(by cases h),fun h=>absurd h List.not_mem_nil⟩
 ·obtain⟨k,rfl,hk⟩:=h y hy;exact⟨k,rfl,hk,.base hy⟩
theorem FreP.skip{l:List Lst}{F0 O F:List Int}{L:List Bool}{x:Nat}(h:FreP l F0 L O (F++[(x:Int)]))(hx:L[x]? =some true):FreP l F0 L O F:=by
 have hxl:x<l.length:=by rw[←h.len];exact(List.getElem?_eq_some_iff.1 hx).1
 have hxO:=(h.iff x hxl).1 hx;have key:∀y,y∈O∨y∈F++[(x:Int)]→y∈O∨y∈F:=fun y hy=>by
  rcases hy with hy|hy
  ·exact .inl hy
  ·rcases List.mem_append.1 hy with hy|hy
   ·exact .inr hy
   ·rw[List.mem_singleton.1 hy];exact .inl hxO
 exact⟨h.len,h.nd,h.iff,h.oin,fun y hy=>h.fin y (List.mem_append_left _ hy),fun y hy=>key y (h.bas y hy),fun k s hk hs y hy=>key y (h.cls k s hk hs y hy)⟩
theorem FreP.take{l:List Lst}{F0 O F:List Int}{L:List Bool}{x:Nat}{s:Lst}(hg:LGood l)(h:FreP l F0 L O (F++[(x:Int)]))(hx:L[x]? =some false)(hs:l[x]? =some s):FreP l F0 (L.set x true) (O++[(x:Int)]) (F++s.free):=by
 have hxl:x<L.length:=(List.getElem?_eq_some_iff.1 hx).1;have hxn:x<l.length:=by rw[←h.len];exact hxl
 have hxO:((x:Nat):Int)∉O:=fun hm=>by
  have:=(h.iff x hxn).2 hm;rw[hx]at this;cases this
 have hclo:Clo l (fun x=>((x:Nat):Int)∈F0) x:=by
  obtain⟨k,hk,_,hc⟩:=h.fin (x:Int) (List.mem_append_right _ (List.mem_singleton.2 rfl));have:x=k:=by omega
  rw[this];exact hc
 have key:∀y,y∈O∨y∈F++[(x:Int)]→y∈O++[(x:Int)]∨y∈F++s.free:=fun y hy=>by
  rcases hy with hy|hy
  ·exact .inl (List.mem_append_left _ hy)
  ·rcases List.mem_append.1 hy with hy|hy
   ·exact .inr (List.mem_append_left _ hy)
   ·exact .inl (List.mem_append_right _ hy)
 refine⟨by rw[List.length_set];exact h.len,?_,fun y hy=>?_,fun y hy=>?_,fun y hy=>?_,fun y hy=>key y (h.bas y hy),fun k s' hk hs' y hy=>?_⟩
 ·refine List.nodup_append.2 ⟨h.nd,List.pairwise_singleton _ _,fun a ha b hb=>?_⟩;rw[List.mem_singleton.1 hb];exact fun e=>hxO (by rw[←e];exact ha)
 ·rw[List.getElem?_set];by_cases e:x=y
  ·subst e;rw[if_pos rfl,if_pos hxl];exact⟨fun _=>List.mem_append_right _ (List.mem_singleton.2 rfl),fun _=>rfl⟩
  ·rw[if_neg e,h.iff y hy];constructor
   ·exact fun hm=>List.mem_append_left _ hm
   ·intro hm
    rcases List.mem_append.1 hm with hm|hm
    ·exact hm
    ·have:=List.mem_singleton.1 hm;omega
 ·rcases List.mem_append.1 hy with hy|hy
  ·exact h.oin y hy
  ·rw[List.mem_singleton.1 hy];exact⟨x,rfl,hxn,hclo⟩
 ·rcases List.mem_append.1 hy with hy|hy
  ·exact h.fin y (List.mem_append_left _ hy)
  ·have hb:=hg.fre s (List.mem_of_getElem? hs) y hy;refine⟨y.toNat,by omega,by omega,.step hclo hs ?_⟩;rw[show((y.toNat:Nat):Int)=y by omega];exact hy
 ·rcases List.mem_append.1 hk with hk|hk
  ·exact key y (h.cls k s' hk hs' y hy)
  ·have:k=x:=by have:=List.mem_singleton.1 hk;omega
   subst this;rw[hs]at hs';injection hs' with hs'
   subst hs';exact .inr (List.mem_append_right _ hy)
theorem FreP.last{l:List Lst}{F0 O:List Int}{L:List Bool}(h:FreP l F0 L O []):sorted O=setL l.length (Clo l fun x=>((x:Nat):Int)∈F0):=by
 refine z14 (zv5 h.nd) (zt8 _ _) fun z=>?_
 rw[zg6,zd6];constructor
 ·intro hz
  obtain⟨k,h1,h2,h3⟩:=h.oin z hz;exact⟨k,h1,h2,h3⟩
 ·rintro⟨k,rfl,hk,hc⟩;have:∀x,Clo l (fun x=>((x:Nat):Int)∈F0) x→((x:Nat):Int)∈O:=by
   intro x hx
   induction hx with
   |
    base hb=>
    rcases h.bas _ hb with h1|h1
    ·exact h1
    ·exact absurd h1 List.not_mem_nil
   |
    step _ hs hx ih=>
    rcases h.cls _ _ ih hs _ hx with h1|h1
    ·exact h1
    ·exact absurd h1 List.not_mem_nil
  exact this k hc
theorem FreP.few{l:List Lst}{F0 O F:List Int}{L:List Bool}(h:FreP l F0 L O F):O.length≤l.length:=by
 have h1:∀z,z∈sorted O→∃x:Nat,z=(x:Int)∧x<l.length:=fun z hz=>by
  obtain⟨k,h1,h2,_⟩:=h.oin z ((zg6 O z).1 hz);exact⟨k,h1,h2⟩
 have h2:sorted O=setL l.length fun x=>((x:Nat):Int)∈O:=by
  refine z14 (zv5 h.nd) (zt8 _ _) fun z=>?_
  rw[zg6,zd6];constructor
  ·intro hz
   obtain⟨k,e,hk⟩:=h1 z ((zg6 O z).2 hz);exact⟨k,e,hk,by rw[←e];exact hz⟩
  ·rintro⟨k,rfl,_,hm⟩;exact hm
 have h3:=zt9 l.length fun x=>((x:Nat):Int)∈O
 rw[←h2,zr4]at h3;exact h3
end
section
open Go.RowKit
theorem z8c(z:Value):∀n,(madeCells #[z] n).toList=List.replicate n z:=by
 intro n
 apply List.ext_getElem?
 intro j
 by_cases hj:j<n
 ·simp[madeCells,hj,Nat.mod_one]
 ·simp[madeCells,hj]
theorem zD2(n:Nat)(hn:n≤1099511627776)(w:World):(Instr.makeSlice 71 (.int .i64 (n:Int)) (.int .i64 (n:Int))).run Tryz.prog w=.ok (.slice (some ⟨w.heap.size,0,none⟩) n n) (w.alloc (.cells (madeCells #[.int .i64 0] n) 3)):=
 run_make_row' 71 3 (.int .i64 0) 8 Tryz.underlying71 (by kernel_rfl) rfl .i64 .i64 n (by omega) (by omega) w
theorem zob(n:Nat)(hn:n≤1099511627776)(w:World):(Instr.makeSlice 59 (.int .i64 (n:Int)) (.int .i64 (n:Int))).run Tryz.prog w=.ok (.slice (some ⟨w.heap.size,0,none⟩) n n) (w.alloc (.cells (madeCells #[.bool false] n) 4)):=
 run_make_row' 59 4 (.bool false) 1 Tryz.underlying59 (by kernel_rfl) rfl .i64 .i64 n (by omega) (by omega) w
theorem z8b(n:Nat)(hn:n≤1099511627776)(w:World):(Instr.makeSlice 67 (.int .i64 (n:Int)) (.int .i64 (n:Int))).run Tryz.prog w=.ok (.slice (some ⟨w.heap.size,0,none⟩) n n) (w.alloc (.cells (madeCells #[.slice none 0 0] n) 71)):=
 run_make_row' 67 71 (.slice none 0 0) 24 Tryz.underlying67 (by kernel_rfl) rfl .i64 .i64 n (by omega) (by omega) w
theorem zgj(w:World)(z:Value)(n:Nat)(hn:n≤1099511627776)(e:TypeId){nb:Nat}(h:nb=w.heap.size){base:Nat}(hb:base≤w.heap.size):(w.alloc (.cells (madeCells #[z] n) e)).ownsRow base e 1 (.slice (some ⟨nb,0,none⟩) n n) n (List.replicate n z):=by
 have hl:=z8c z n;have h1:=zg1 w (madeCells #[z] n) e 1 n (by rw[←Array.length_toList,hl,List.length_replicate,Nat.mul_one]) (by unfold maxLen;omega) h hb;rw[hl]at h1;exact h1
end
section
open Go.RowKit
structure Rw where
 A:Option Addr
 c:Nat
 l:List Int
def Rw.val(x:Rw):Value:=.slice x.A x.l.length x.c
def Rw.own(W:World)(base:Nat)(x:Rw):Prop:=W.ownsRow base 3 1 x.val x.l.length (x.l.map (.int .i64))
def Ap(x y:Rw):Prop:=x.val.ownBlock=none∨y.val.ownBlock=none∨x.val.ownBlock≠y.val.ownBlock
theorem Ap.symm{x y:Rw}(h:Ap x y):Ap y x:=by
 rcases h with h|h|h
 ·exact .inr (.inl h)
 ·exact .inl h
 ·exact .inr (.inr fun e=>h e.symm)
structure Fam(W:World)(base:Nat)(F:List Rw):Prop where
 own:∀x∈F,x.own W base
 ap:F.Pairwise Ap
theorem Fam.below{W W':World}{base:Nat}{F:List Rw}(h:Fam W base F)(hb:Below W.heap.size W W'):Fam W' base F:=⟨fun x hx=>za2 (h.own x hx) hb,h.ap⟩
theorem Ap.kept{x z:Rw}(h:Ap z x):z.val.ownBlock=none∨z.val.ownBlock≠x.val.ownBlock:=by
 rcases h with h|h|h
 ·exact .inl h
 ·cases hz:z.val.ownBlock with
  |none=>exact .inl rfl
  |some g=>exact .inr (by rw[h];simp)
 ·exact .inr h
theorem Fam.grow{W W2:World}{base:Nat}{a b:List Rw}{x y:Rw}(h:Fam W base (a++x::b))(hg:W.grownBy W2 x.val.ownBlock)(hy:y.own W2 base)(hm:y.val.ownBlock=x.val.ownBlock∨∃g,y.val.ownBlock=some g∧W.heap.size≤g):Fam W2 base (a++y::b):=by
 obtain⟨p1,p2,p3⟩:=List.pairwise_append.1 h.ap;obtain⟨p4,p5⟩:=List.pairwise_cons.1 p2;have hzx:∀z,z∈a∨z∈b→Ap z x:=fun z hz=>by
  rcases hz with hz|hz
  ·exact p3 z hz x (List.mem_cons_self ..)
  ·exact(p4 z hz).symm
 have hzy:∀z,z∈a∨z∈b→Ap z y:=fun z hz=>by
  have hown:z.own W base:=h.own z (by
   rcases hz with hz|hz
   ·exact List.mem_append_left _ hz
   ·exact List.mem_append_right _ (List.mem_cons_of_mem _ hz))
  rcases hm with hm|⟨g,hm,hgs⟩
  ·have:=hzx z hz;unfold Ap at this⊢;rw[hm];exact this
  ·cases hzb:z.val.ownBlock with
   |none=>exact .inl hzb
   |
    some k=>
    refine .inr (.inr ?_);rw[hzb,hm];intro e
    injection e with e
    have:=(World.ownsRow.lt hown k hzb).2;omega
 refine⟨fun z hz=>?_,List.pairwise_append.2 ⟨p1,List.pairwise_cons.2 ⟨fun z hz=>(hzy z (.inr hz)).symm,p5⟩,fun z hz u hu=>?_⟩⟩
 ·have keep:∀z,z∈a∨z∈b→z.own W2 base:=fun z hz=>by
   have hown:z.own W base:=h.own z (by
    rcases hz with hz|hz
    ·exact List.mem_append_left _ hz
    ·exact List.mem_append_right _ (List.mem_cons_of_mem _ hz))
   exact World.ownsRow.kept hown hg (hzx z hz).kept
  rcases List.mem_append.1 hz with hz|hz
  ·exact keep z (.inl hz)
  ·rcases List.mem_cons.1 hz with rfl|hz
   ·exact hy
   ·exact keep z (.inr hz)
 ·rcases List.mem_cons.1 hu with rfl|hu
  ·exact hzy z (.inl hz)
  ·exact p3 z hz u (List.mem_cons_of_mem _ hu)
theorem zgh{α:Type}{F:List α}{t:Nat}{x:α}(h:F[t]? =some x):F=F.take t++x::F.drop (t+1):=by
 obtain⟨h1,h2⟩:=List.getElem?_eq_some_iff.1 h;rw[←h2,←List.drop_eq_getElem_cons h1,List.take_append_drop]
theorem zfa{α:Type}{F:List α}{t:Nat}{x y:α}(h:F[t]? =some x):F.set t y=F.take t++y::F.drop (t+1):=by
 obtain⟨h1,_⟩:=List.getElem?_eq_some_iff.1 h;exact List.set_eq_take_append_cons_drop.trans (if_pos h1)
theorem Fam.set{W W2:World}{base:Nat}{F:List Rw}{t:Nat}{x y:Rw}(h:Fam W base F)(ht:F[t]? =some x)(hg:W.grownBy W2 x.val.ownBlock)(hy:y.own W2 base)(hm:y.val.ownBlock=x.val.ownBlock∨∃g,y.val.ownBlock=some g∧W.heap.size≤g):Fam W2 base (F.set t y):=by
 rw[zfa ht];rw[zgh ht]at h;exact h.grow hg hy hm
theorem Fam.other{W:World}{base g j:Nat}{F:List Rw}{u:Value}{cs:Array Value}{t:TypeId}{f:Nat×Nat}(h:Fam W base F)(hb:W.heap[g]? =some (.cells cs t f))(ht:t≠3):Fam (W.setCell ⟨g,j,none⟩ u) base F:=by
 refine⟨fun x hx=>World.ownsRow.kept (h.own x hx) (za7 _ _ _) ?_,h.ap⟩;rcases(h.own x hx).2 with⟨hv,_⟩|⟨k,cap,cur,hv,_,hg,_⟩
 ·rw[hv];exact .inl rfl
 ·rw[hv];refine .inr fun e=>?_
  simp only[Value.ownBlock,Option.some.injEq]at e;subst e;rw[hg]at hb;injection hb with hb
  injection hb with _ hb _
  exact ht hb.symm
theorem z7h{W:World}{base e s n k c:Nat}{A:Option Addr}{xs:List Value}(h:W.ownsRow base e s (.slice A n c) n xs)(hk:k≤n)(hn:A≠none):W.ownsRow base e s (.slice A k c) k (xs.take (k*s)):=by
 refine⟨by rw[List.length_take,h.1,Nat.min_eq_left (Nat.mul_le_mul_right _ hk)],?_⟩;rcases h.2 with⟨hv,_⟩|⟨g,cap,cur,hv,hb,hg,h1,h2,h3,h4⟩
 ·injection hv with hv _ _
  exact absurd hv hn
 ·injection hv with hv1 _ hv3
  subst hv1 hv3;refine .inr ⟨g,c,cur,rfl,hb,hg,Nat.le_trans hk h1,h2,h3,?_⟩;rw[←h4,List.take_take,Nat.min_eq_left (Nat.mul_le_mul_right _ hk)]
end
section
open Go.RowKit Go.Maps
def idx:List (List UInt8)→List UInt8→Option Nat
 |[],_=>none
 |x::r,s=>if x=s then some 0 else(idx r s).map (· +1)
theorem zii(ss:List (List UInt8))(x s:List UInt8):idx (ss++[x]) s=match idx ss s with
  |some i=>some i
  |none=>if x=s then some ss.length else none:=by
 induction ss with
 |nil=>simp[idx]
 |
  cons y r ih=>
  rw[List.cons_append,idx,idx,ih];by_cases h:y=s
  ·simp[h]
  ·simp only[h,if_false];cases idx r s with
   |some i=>rfl
   |
    none=>
    by_cases h2:x=s
    ·simp[h2]
    ·simp[h2]
theorem zp2{ss:List (List UInt8)}{s:List UInt8}{i:Nat}(h:idx ss s=some i):i<ss.length∧ss[i]? =some s:=by
 induction ss generalizing i with
 |nil=>cases h
 |
  cons y r ih=>
  rw[idx]at h;split at h
  ·rename_i e
   injection h with h
   subst h;simp[e]
  ·obtain⟨j,hj,rfl⟩:=Option.map_eq_some_iff.1 h;have:=ih hj;simp only[List.length_cons,List.getElem?_cons_succ];exact⟨by omega,this.2⟩
theorem zu9{ss:List (List UInt8)}{s:List UInt8}(h:idx ss s=none):s∉ss:=by
 induction ss with
 |nil=>simp
 |
  cons y r ih=>
  rw[idx]at h;split at h
  ·cases h
  ·rename_i hne
   intro hm
   rcases List.mem_cons.1 hm with e|hm
   ·exact hne e.symm
   ·exact ih (by simpa using h) hm
theorem lawS:Keyed Tryz.prog 9:=string_keyed Tryz.underlying9
def z19{H:Type}:DataW H→Int
 | .lit (.int _ n)=>n
 |_=>0
def numD{H:Type}(N:DataW H)(s:List UInt8):Int:=z19 (N.atKey (.string s) (.lit (.int .i64 0)))
theorem z30(w:World):(zeroValue 3).run Tryz.prog w=.ok (.int .i64 0) w:=by kernel_rfl
abbrev zg7{H:Type}(w:World)(b n:Nat)(N:DataW H):Prop:=w.ownsMap Tryz.prog 9 (plainElem Tryz.prog 3) b n N
theorem zjd{H:Type}{w:World}{b n:Nat}{N:DataW H}(h:zg7 w b n N)(s:List UInt8)(hs:s.length≤maxLen):
  (Instr.lookup 66 (.map (some b)) (.string ⟨s.toArray⟩) true).run Tryz.prog w=.ok (.tuple #[.int .i64 (numD N s),.bool (Maps.has N (.string s))]) w:=by
 obtain⟨S,hS⟩:∃S:ByteArray,⟨s.toArray⟩=S:=⟨_,rfl⟩;have hz:S.size≤maxLen:=by rw[←hS,size_mk];exact hs
 have hd:S.data.toList=s:=by rw[←hS]
 rw[hS];obtain⟨v,ps,hrun,hR⟩:=h.look_ok lawS Tryz.underlying66 (z30 w) (plainElem_int Tryz.underlying3 (a:=0) (by decide)) (Go.WideMaps.keyOf_string_mk Tryz.underlying9 hz);obtain⟨c,rfl,hc,hw⟩:=plainElem_int_inv Tryz.underlying3 hR;injection hc with hc _
 rw[hd]at hrun hc;have e:numD N s=c:=by
  unfold numD;rw[hc];rfl
 rw[e];exact hrun
theorem z15{H:Type}{w:World}{b n:Nat}{N:DataW H}(h:zg7 w b n N)(s:List UInt8)(hs:s.length≤maxLen):
  (Instr.lookup 66 (.map (some b)) (.string ⟨s.toArray⟩) false).run Tryz.prog w=.ok (.int .i64 (numD N s)) w:=by
 obtain⟨S,hS⟩:∃S:ByteArray,⟨s.toArray⟩=S:=⟨_,rfl⟩;have hz:S.size≤maxLen:=by rw[←hS,size_mk];exact hs
 have hd:S.data.toList=s:=by rw[←hS]
 rw[hS];obtain⟨c,hrun,hc,_⟩:=h.lookup_int lawS Tryz.underlying66 Tryz.underlying3 (z30 w) (Go.WideMaps.keyOf_string_mk Tryz.underlying9 hz);rw[hd]at hc;have e:numD N s=c:=by
  unfold numD;rw[hc];rfl
 rw[e];exact hrun
theorem zG8{H:Type}{w:World}{b n:Nat}{N:DataW H}(h:zg7 w b n N):(Builtin.len_ #[66] 3 #[.map (some b)]).run Tryz.prog w=.ok (.int .i64 (Maps.size N)) w:=h.len Tryz.underlying66 3
def zn0(N:DataW Unit)(ss:List (List UInt8)):Prop:=IsMap N∧∀s,match idx ss s with
 |some i=>Maps.has N (.string s)=true∧numD N s=i
 |none=>Maps.has N (.string s)=false
theorem zp0:zn0 (.map []) []:=⟨⟨[],rfl⟩,fun _=>rfl⟩
theorem zn0.snoc{N:DataW Unit}{ss:List (List UInt8)}(h:zn0 N ss){x:List UInt8}(hx:idx ss x=none):zn0 (N.put (.string x) (.lit (.int .i64 (ss.length:Nat)))) (ss++[x]):=by
 refine⟨h.1.put _ _,fun s=>?_⟩;have hs:=h.2 s;rw[zii];by_cases e:x=s
 ·subst e;rw[hx];simp only[if_true];refine⟨has_put_same h.1 (by simp[Go.WideAt.IsKeyLit]) _,?_⟩;unfold numD;rw[atKey_put_same h.1 (by simp[Go.WideAt.IsKeyLit])];rfl
 ·have hne:(Lit.string s)≠Lit.string x:=by simpa using fun h=>e h.symm
  have hn:numD (N.put (.string x) (.lit (.int .i64 (ss.length:Nat)))) s=numD N s:=by
   unfold numD;rw[atKey_put_other hne]
  cases hi:idx ss s with
  |
   some i=>
   rw[hi]at hs;exact⟨(has_put_other hne _).trans hs.1,hn.trans hs.2⟩
  |
   none=>
   rw[hi]at hs;simp only[e,if_false];exact(has_put_other hne _).trans hs
theorem zbb{H:Type}{W:World}{b e s n kb m:Nat}{x:Value}{xs:List Value}{N:DataW H}(h:W.ownsRow b e s x n xs)(hm:zg7 W kb m N):x.ownBlock=none∨x.ownBlock≠some kb:=by
 rcases h.2 with⟨rfl,_⟩|⟨g,cap,cur,rfl,_,hg,_⟩
 ·exact .inl rfl
 ·refine .inr fun e=>?_
  simp only[Value.ownBlock,Option.some.injEq]at e;subst e;obtain⟨es,clock,hb,_⟩:=hm;rw[hg]at hb;cases hb
theorem za5{W:World}{b e s n k t:Nat}{x:Value}{xs:List Value}{cs:Array Value}{f:Nat×Nat}(h:W.ownsRow b e s x n xs)(hk:W.heap[k]? =some (.cells cs t f))(he:t≠e):x.ownBlock=none∨x.ownBlock≠some k:=by
 rcases h.2 with⟨rfl,_⟩|⟨g,cap,cur,rfl,_,hg,_⟩
 ·exact .inl rfl
 ·refine .inr fun e'=>?_
  simp only[Value.ownBlock,Option.some.injEq]at e';subst e';rw[hg]at hk;injection hk with hk
  injection hk with _ hk _
  exact he hk.symm
theorem grown_below{W W':World}(h:Below W.heap.size W W'):W.grownBy W' none:=⟨h.os,h.tape,h.output,h.size,fun k hk _=>h.block k hk⟩
theorem zn3{w w':World}{b n:Nat}{N:DataW Unit}(h:zg7 w b n N)(hb:Below w.heap.size w w'):zg7 w' b n N:=h.kept (grown_below hb) (by simp)
def zq6(N:DataW Unit)(ss:List (List UInt8)):Prop:=zn0 N ss∧Maps.size N=ss.length
theorem zs0:zq6 (.map []) []:=⟨zp0,rfl⟩
theorem zq6.snoc{N:DataW Unit}{ss:List (List UInt8)}(h:zq6 N ss)(ht:Tidy N){x:List UInt8}(hx:idx ss x=none):zq6 (N.put (.string x) (.lit (.int .i64 (ss.length:Nat)))) (ss++[x]):=by
 refine⟨h.1.snoc hx,?_⟩;have hh:=h.1.2 x;rw[hx]at hh;rw[size_put ht,hh,if_neg (by simp),h.2,List.length_append,List.length_singleton]
end
end Go.Proofs.YtaociahafamncaaGreatDoor
