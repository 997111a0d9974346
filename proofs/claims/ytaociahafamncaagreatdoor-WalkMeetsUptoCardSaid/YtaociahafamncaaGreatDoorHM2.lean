/- Folded. -/
import Derived.Test.YtaociahafamncaaGreatDoorHM1
import Derived.Lib.SlBytesRow
import Derived.OwnWalk
set_option maxRecDepth 100000
set_option maxHeartbeats 40000000
namespace Go.Proofs.YtaociahafamncaaGreatDoor
namespace Sp
open Go.RowKit
structure RR where
 b:Nat
 cap:Nat
 r:List (Int×Int)
def flatR(r:List (Int×Int)):List Value:=r.flatMap fun p=>[.int .i64 p.1,.int .i64 p.2]
def RR.val(R:RR):Value:=.slice (some ⟨R.b,0,none⟩) R.r.length R.cap
structure RowsAt(w:World)(base:Nat)(v:Value)(l:List RR):Prop where
 own:w.ownsRow base 149 1 v l.length (l.map RR.val)
 inn:∀R∈l,0<R.r.length∧w.ownsRow base 151 2 R.val R.r.length (flatR R.r)
 nod:(l.map RR.b).Nodup
def zsh(w:World)(rs:List (List (Int×Int)))(e:Ending)(w':World):Prop:=∃v l,e=.returned v∧RowsAt w' w.heap.size v l∧l.map RR.r=rs∧Below w.heap.size w w'
theorem RowsAt.kept{w w':World}{base:Nat}{v:Value}{l:List RR}(h:RowsAt w base v l)(hb:Below w.heap.size w w'):RowsAt w' base v l:=
 ⟨za2 h.own hb,fun R hR=>⟨(h.inn R hR).1,za2 (h.inn R hR).2 hb⟩,h.nod⟩
theorem RR.lt{w:World}{base:Nat}{R:RR}(h:w.ownsRow base 151 2 R.val R.r.length (flatR R.r)):base≤R.b∧R.b<w.heap.size:=h.lt R.b rfl
theorem zhh:Elem Tryz.prog 147 149 1 24:=Elem.mk_ Tryz.underlying147 (z:=.slice none 0 0) (by kernel_rfl) rfl (by omega)
theorem zE7:Elem Tryz.prog 149 151 2 16:=Elem.mk_ Tryz.underlying149 (z:=.agg #[.int .i64 0,.int .i64 0]) (by kernel_rfl) rfl (by omega)
theorem zdi(l:List RR):∀u∈l.map RR.val,u.oneCell'=true:=by
 intro u hu
 obtain⟨R,_,rfl⟩:=List.mem_map.1 hu;rfl
theorem RowsAt.join{w w2 w3:World}{base:Nat}{v1 v2 v3:Value}{l1 l2:List RR}(h1:RowsAt w base v1 l1)(hb:Below w.heap.size w w2)(h2:RowsAt w2 w.heap.size v2 l2)
  (ho:w3.ownsRow base 149 1 v3 (l1.length+l2.length) (l1.map RR.val++l2.map RR.val)) (hg:w2.grownBy w3 v1.ownBlock) (hbase:base≤w.heap.size):RowsAt w3 base v3 (l1++l2):=by
 have h1':=h1.kept hb;refine⟨by rw[List.length_append,List.map_append];exact ho,fun R hR=>?_,?_⟩
 ·rcases List.mem_append.1 hR with h|h
  ·obtain⟨a,b⟩:=h1'.inn R h;exact⟨a,b.kept hg (za4 h1'.own b (by decide))⟩
  ·obtain⟨a,b⟩:=h2.inn R h;exact⟨a,(b.mono hbase).kept hg (za4 h1'.own b (by decide))⟩
 ·rw[List.map_append,List.nodup_append];refine⟨h1.nod,h2.nod,?_⟩;intro x hx y hy e
  obtain⟨R,hR,rfl⟩:=List.mem_map.1 hx;obtain⟨S,hS,rfl⟩:=List.mem_map.1 hy;have a:=(RR.lt (h1.inn R hR).2).2;have b:=(RR.lt (h2.inn S hS).2).1;omega
theorem zbj{lo hi:Int}(h:lo≤hi)(hk:Cls lo hi):((zbh lo hi).length:Int)≤hi-lo+1:=by
 refine zk6 (motive:=fun lo hi=>((zbh lo hi).length:Int)≤hi-lo+1) ?_ ?_ lo hi h hk
 ·intro lo hi c h1 _ hc _ _ a b
  rw[zc9 h1 hc,List.length_append];omega
 ·intro lo hi h1 _ hc
  rw[zdb hc];simp
  omega
def zi6(j lo hi:Int):Prop:=
 (2≤j→lo/64=hi/64∨szC lo≤1∨(lo%64=0∧hi%64=63))∧(3≤j→lo/4096=hi/4096∨szC lo≤2∨(lo%4096=0∧hi%4096=4095))∧
 (4≤j→lo/262144=hi/262144∨szC lo≤3∨(lo%262144=0∧hi%262144=262143))
def zLd(w:World)(lo hi:Int)(k:Value)(wr:World):Prop:=
 ∃j:Int,(j=1∨j=2∨j=3∨j=4)∧k=.int .i64 j∧zi6 j lo hi∧Below w.heap.size w wr
theorem zjc{lo hi:Int}(h:zi6 1 lo hi)(h2:lo/64=hi/64∨szC lo≤1∨(lo%64=0∧hi%64=63)):zi6 2 lo hi:=by
 obtain⟨a,b,c⟩:=h;refine⟨fun g=>?_,fun g=>?_,fun g=>?_⟩;all_goals first|exact h2|exact a (by omega)|exact b (by omega)|exact c (by omega)|omega
theorem zA0{lo hi:Int}(h:zi6 1 lo hi)(h1:lo/64≠hi/64)(h2:1<szC lo)(h3:lo%64≠0):cutC lo hi=some (lo-lo%64+64):=by
 obtain⟨a,b,c⟩:=h;unfold cutC;rw[if_pos ⟨h1,h2,h3⟩]
theorem zyi{lo hi:Int}(h:zi6 1 lo hi)(h1:lo/64≠hi/64)(h2:1<szC lo)(h3:lo%64=0)(h4:hi%64≠63):cutC lo hi=some (hi-hi%64):=by
 obtain⟨a,b,c⟩:=h;unfold cutC;rw[if_neg (by omega),if_pos ⟨h1,h2,h4⟩]
theorem zjb{lo hi:Int}(h:zi6 2 lo hi)(h2:lo/4096=hi/4096∨szC lo≤2∨(lo%4096=0∧hi%4096=4095)):zi6 3 lo hi:=by
 obtain⟨a,b,c⟩:=h;refine⟨fun g=>?_,fun g=>?_,fun g=>?_⟩;all_goals first|exact h2|exact a (by omega)|exact b (by omega)|exact c (by omega)|omega
theorem z9k{lo hi:Int}(h:zi6 2 lo hi)(h1:lo/4096≠hi/4096)(h2:2<szC lo)(h3:lo%4096≠0):cutC lo hi=some (lo-lo%4096+4096):=by
 obtain⟨a,b,c⟩:=h;unfold cutC;rw[if_neg (by have:=a (by omega);omega),if_neg (by have:=a (by omega);omega)];rw[if_pos ⟨h1,h2,h3⟩]
theorem zyh{lo hi:Int}(h:zi6 2 lo hi)(h1:lo/4096≠hi/4096)(h2:2<szC lo)(h3:lo%4096=0)(h4:hi%4096≠4095):cutC lo hi=some (hi-hi%4096):=by
 obtain⟨a,b,c⟩:=h;unfold cutC;rw[if_neg (by have:=a (by omega);omega),if_neg (by have:=a (by omega);omega)];rw[if_neg (by omega),if_pos ⟨h1,h2,h4⟩]
theorem zja{lo hi:Int}(h:zi6 3 lo hi)(h2:lo/262144=hi/262144∨szC lo≤3∨(lo%262144=0∧hi%262144=262143)):zi6 4 lo hi:=by
 obtain⟨a,b,c⟩:=h;refine⟨fun g=>?_,fun g=>?_,fun g=>?_⟩;all_goals first|exact h2|exact a (by omega)|exact b (by omega)|exact c (by omega)|omega
theorem z9j{lo hi:Int}(h:zi6 3 lo hi)(h1:lo/262144≠hi/262144)(h2:3<szC lo)(h3:lo%262144≠0):cutC lo hi=some (lo-lo%262144+262144):=by
 obtain⟨a,b,c⟩:=h;unfold cutC;rw[if_neg (by have:=a (by omega);omega),if_neg (by have:=a (by omega);omega)];rw[if_neg (by have:=b (by omega);omega),if_neg (by have:=b (by omega);omega)];rw[if_pos ⟨h1,h2,h3⟩]
theorem zyg{lo hi:Int}(h:zi6 3 lo hi)(h1:lo/262144≠hi/262144)(h2:3<szC lo)(h3:lo%262144=0)(h4:hi%262144≠262143):cutC lo hi=some (hi-hi%262144):=by
 obtain⟨a,b,c⟩:=h;unfold cutC;rw[if_neg (by have:=a (by omega);omega),if_neg (by have:=a (by omega);omega)];rw[if_neg (by have:=b (by omega);omega),if_neg (by have:=b (by omega);omega)];rw[if_neg (by omega),if_pos ⟨h1,h2,h4⟩]
theorem z29{lo hi:Int}(h:zi6 4 lo hi):cutC lo hi=none:=by
 obtain⟨a,b,c⟩:=h;unfold cutC;rw[if_neg (by have:=a (by omega);omega),if_neg (by have:=a (by omega);omega),if_neg (by have:=b (by omega);omega),if_neg (by have:=b (by omega);omega),if_neg (by have:=c (by omega);omega),if_neg (by have:=c (by omega);omega)]
theorem zA4{lo hi:Int}(h:lo≤hi)(hk:Cls lo hi):zb1 lo=true∧zb1 hi=true:=by
 unfold Cls at hk;exact⟨zf6 (by omega),zf6 (by omega)⟩
theorem z38(c:Int):1≤szC c∧szC c≤4:=by
 unfold szC;split
 ·omega
 ·split
  ·omega
  ·split<;>omega
theorem zpe{lo hi:Int}(h:lo≤hi)(hk:Cls lo hi):(encC lo).length=(encC hi).length:=by
 have a:=znh lo;have b:=znh hi;have e:szC lo=szC hi:=by
  unfold Cls at hk;unfold szC;repeat' split
  all_goals omega
 omega
def zipS(s1 s2:ByteArray):List (Int×Int):=(s1.data.toList.zip s2.data.toList).map fun p=>((p.1.toNat:Int),(p.2.toNat:Int))
theorem zB4{s1 s2:ByteArray}{k:Nat}(h1:k<s1.size)(h2:k<s2.size):flatR ((zipS s1 s2).take (k+1))=flatR ((zipS s1 s2).take k)++[.int .i64 (s1[k].toNat:Nat),.int .i64 (s2[k].toNat:Nat)]:=by
 have hk:(zipS s1 s2)[k]? =some (((s1[k].toNat:Nat):Int),((s2[k].toNat:Nat):Int)):=by
  unfold zipS;have a1:s1.data.toList[k]? =some s1[k]:=byte_at s1 k h1;have a2:s2.data.toList[k]? =some s2[k]:=byte_at s2 k h2;rw[List.getElem?_map,List.getElem?_zip_eq_some.2 (show s1.data.toList[k]? =some (s1[k],s2[k]).1∧s2.data.toList[k]? =some (s1[k],s2[k]).2 from⟨a1,a2⟩)];rfl
 obtain⟨hl,he⟩:=List.getElem?_eq_some_iff.1 hk;rw[List.take_succ_eq_append_getElem hl,he];simp[flatR]
theorem zx0{c:Int}(h0:0≤c)(h1:c≤1114111):∀z∈encC c,0≤z∧z≤255:=by
 intro z hz
 unfold encC at hz;split at hz
 ·simp at hz;omega
 ·split at hz
  ·simp at hz;omega
  ·split at hz
   ·simp at hz;omega
   ·simp at hz;omega
theorem zB3{a b:List Int}(ha:∀z∈a,0≤z∧z≤255)(hb:∀z∈b,0≤z∧z≤255):zipS (strOfNums a) (strOfNums b)=a.zip b:=by
 unfold zipS;rw[strOfNums_data,strOfNums_data];induction a generalizing b with
 |nil=>simp
 |
  cons x a ih=>
  cases b with
  |nil=>simp
  |
   cons y b=>
   have hx:=ha x (List.mem_cons_self ..);have hy:=hb y (List.mem_cons_self ..);simp only[List.map_cons,List.zip_cons_cons];rw[ih (fun z hz=>ha z (List.mem_cons_of_mem _ hz)) (fun z hz=>hb z (List.mem_cons_of_mem _ hz))];have e1:((UInt8.ofNat x.toNat).toNat:Int)=x:=by rw[UInt8.toNat_ofNat'];omega
   have e2:((UInt8.ofNat y.toNat).toNat:Int)=y:=by rw[UInt8.toNat_ofNat'];omega
   rw[e1,e2]
theorem z92{w w2 wr:World}{A:Option Addr}{c:Nat}{r:List (Int×Int)}{n:Nat}{rs:List (List (Int×Int))}(hB:Below w.heap.size w w2)(hb:Below w2.heap.size w2 wr)(ho:wr.ownsRow w2.heap.size 151 2 (.slice A r.length c) r.length (flatR r))(hp:0<r.length)(hn:r.length=n)(hr:rs=[r]):
  zsh w rs (.returned (.slice (some ⟨wr.heap.size,0,none⟩) 1 1)) (wr.alloc (.cells #[.slice A n c] 149)):=by
 subst hn;obtain⟨g,rfl,hg1,hg2⟩:=zah ho hp;have hbw:=za9 hB hb;have h1:=hB.size;refine⟨_,[⟨g,c,r⟩],rfl,⟨zg1 wr #[.slice (some ⟨g,0,none⟩) r.length c] 149 1 1 rfl (by unfold maxLen;omega) rfl hbw.size,?_,by simp⟩,by rw[hr];rfl,bnew hbw _⟩;intro R hR
 rw[List.mem_singleton]at hR;subst hR;exact⟨hp,(ho.mono h1).alloc _⟩
def zLf(w2:World)(s1 s2:ByteArray)(i v:Value)(wq:World):Prop:=
 ∃k:Nat,k≤s1.size∧i=.int .i64 k∧wq.ownsRow w2.heap.size 151 2 v k (flatR ((zipS s1 s2).take k))∧Below w2.heap.size w2 wq
end Sp
namespace Sp
open Go.RowKit
theorem RowsAt.base{w:World}{b b':Nat}{v:Value}{l:List RR}(h:RowsAt w b v l)(hb:b'≤b):RowsAt w b' v l:=
 ⟨h.own.mono hb,fun R hR=>⟨(h.inn R hR).1,(h.inn R hR).2.mono hb⟩,h.nod⟩
theorem zz4(x:Int)(h0:0≤x)(h1:x<4611686018427387904):bits .andNot .i64 x 63=x-x%64:=zm7 6 (by omega) x h0 h1
theorem zz3(x:Int)(h0:0≤x)(h1:x<4611686018427387904):bits .andNot .i64 x 4095=x-x%4096:=zm7 12 (by omega) x h0 h1
theorem zz2(x:Int)(h0:0≤x)(h1:x<4611686018427387904):bits .andNot .i64 x 262143=x-x%262144:=zm7 18 (by omega) x h0 h1
theorem z76(N:Nat)(ih:∀lo hi (w:World),(hi-lo).toNat<N→lo≤hi→Cls lo hi→Calls Tryz.prog 85 #[.int .i64 lo,.int .i64 hi] w (zsh w (zbh lo hi)))
  (lo hi:Int) (w:World) (hN:(hi-lo).toNat<N+1) (hle:lo≤hi) (hk:Cls lo hi):Calls Tryz.prog 85 #[.int .i64 lo,.int .i64 hi] w (zsh w (zbh lo hi)):=by
 obtain⟨hw1,hw2⟩:=zA4 hle hk;have HS:=Lib.hid (size_any lo hw1);have hsb:=z38 lo;have c0:0≤lo∧hi≤1114111:=by unfold Cls at hk;omega
 obtain⟨c0,c1⟩:=c0;have c2:0≤hi:=by omega
 have c3:lo≤1114111:=by omega
 have HK:=Lib.hid hk;have HW1:=Lib.hid hw1;have HW2:=Lib.hid hw2;clear hw1 hw2 hk;go_enter Tryz.func85,Tryz.ntmps85
 go_wp2_with fail;go_loopw [5] (fun k wr=>zLd w lo hi k wr) (fun k _=>4-(intOf k).toNat)
 case atStart=>exact⟨1,by omega,rfl,⟨fun h=>by omega,fun h=>by omega,fun h=>by omega⟩,za0 w⟩
 case round=>
  obtain⟨j,hj,rfl,hno,hbw⟩:=hrel;have HN:=Lib.hid hno;have hsw:=hbw.size;clear hno;obtain rfl|rfl|rfl|rfl:=hj
  ·have w6:IntKind.i64.wrap 6=6:=by decide
   by_cases h1:lo/64=hi/64
   ·have HQ:=Lib.hid h1;have q1:(lo/64==hi/64)=true:=by simpa using h1
    have q2:decide (lo/64=hi/64)=true:=by simpa using h1
    clear h1;go_wp2_with fail;go_quiet (fail)
    have hbq:=below_drewN hbw nq;generalize wr.drewN nq=wq at*;go_wp2_with fail;go_roundw;case rel=>exact⟨2,by omega,rfl,zjc HN.out (by have:=HQ.out;omega),hbq⟩
    case measure=>simp[intOf]
   have q1:(lo/64==hi/64)=false:=by simpa using h1
   have q2:decide (lo/64=hi/64)=false:=by simpa using h1
   by_cases h2:szC lo≤1
   ·have HQ:=Lib.hid h2;have q3:decide (szC lo≤1)=true:=by simpa using h2
    clear h1 h2;go_wp2_with fail;go_region_held3 (fun w'=>Below w.heap.size w w') (first|assumption|exact below_drewN hbw 1|go_keep) (first
     |(go_at_call 93;refine(HS.out _).mono ?_;rintro e wn ⟨rfl,hbn⟩;have hBn:=za9 (by assumption) hbn))
    go_wp2_with fail;go_roundw;case rel=>exact⟨2,by omega,rfl,zjc HN.out (by have:=HQ.out;omega),by first|assumption|exact below_drewN hbw 1⟩
    case measure=>simp[intOf]
   have q3:decide (szC lo≤1)=false:=by simpa using h2
   have n1:=zf2 6 (by omega) lo (by omega) (by omega);have o1:=z7k 6 (by omega) lo (by omega) (by omega);simp only[Int.reducePow,Int.reduceSub]at n1 o1;by_cases h3:lo%64≠0
   ·have hcut:=zA0 HN.out h1 (by omega) h3;have hin:=ze3 hle hcut;obtain⟨x,hx⟩:∃x,lo-lo%64+63=x:=⟨_,rfl⟩;rw[hx]at o1;obtain⟨r,hr⟩:∃r,lo%64=r:=⟨_,rfl⟩;rw[hr]at n1;have hxe:lo-lo%64+64=x+1:=by omega
    rw[hxe]at hcut hin;have hcl1:Cls lo x:=by have:=HK.out;unfold Cls at*;omega
    have hcl2:Cls (x+1) hi:=by have:=HK.out;unfold Cls at*;omega
    have q4:(r==0)=false:=by simp;omega
    have q5:(r !=0)=true:=by simp;omega
    have q6:¬r=0:=by omega
    have hx0:0≤x:=by omega
    clear h1 h2 h3 hx hr hxe;go_wp2_with fail;go_region_held3 (fun w'=>Below w.heap.size w w') (first|assumption|exact below_drewN hbw 1|go_keep) (first
     |(go_at_call 93;refine(HS.out _).mono ?_;rintro e wn ⟨rfl,hbn⟩;have hBn:=za9 (by assumption) hbn))
    go_wp2_with fail
    ((with_reducible refine(ih lo x _ (by omega) (by omega) hcl1).mono ?_))
    rintro e w2 ⟨v1,l1,rfl,hr1,hm1,hb1⟩;go_wp2_with fail
    ((with_reducible refine(ih (x+1) hi _ (by omega) (by omega) hcl2).mono ?_))
    rintro e w3 ⟨v2,l2,rfl,hr2,hm2,hb2⟩;have hn1:(l1.length:Int)≤1114112:=by
     have h:=zbj (lo:=lo) (hi:=x) (by omega) hcl1;rw[←hm1,List.length_map]at h;omega
    have hn2:(l2.length:Int)≤1114112:=by
     have h:=zbj (lo:=(x+1)) (hi:=hi) (by omega) hcl2;rw[←hm2,List.length_map]at h;omega
    have HR1:=Lib.hid hr1;have HR2:=Lib.hid hr2;have HM1:=Lib.hid hm1;have HM2:=Lib.hid hm2;have HB:=Lib.hid (za9 hBn (za9 hb1 hb2));have hs2:=hb1.size;have hs3:=hb2.size;have hsn:=hBn.size;have HB2:=Lib.hid hb2;obtain⟨A2,c2,rfl,_⟩:=za1 hr2.own;have hnn:A2=none→l2.length=0:=by
     intro e
     subst e;rcases hr2.own.2 with⟨_,h0⟩|⟨g,cap,cur,hv,_⟩
     ·exact h0
     ·cases hv
    clear hr1 hr2 hm1 hm2 hb1 hb2;go_wp2_with (at_builtin;refine zad w3 w3 rfl _ _ _ rfl zhh v1 _ _ rfl (za2 HR1.out.own HB2.out) rfl (Sl.of_own HR2.out.own) hnn (zdi l2) (by unfold maxLen;omega) (by omega) (by omega) (za0 _|>.mono (by omega)) ?_;intro v3 w4 hown3 hb3 hgr _)
    go_ret;refine⟨v3,l1++l2,rfl,(HR1.out.join HB2.out HR2.out hown3 hgr (by omega)).base hsn,?_,?_⟩
    ·rw[List.map_append,HM1.out,HM2.out,zc9 hle hcut];congr 2
     all_goals first|rfl|omega
    ·exact HB.out.trans (hb3.mono (by omega))
   have h3:lo%64=0:=by omega
   have n2:=zf2 6 (by omega) hi (by omega) (by omega);simp only[Int.reducePow,Int.reduceSub]at n2;rw[h3]at n1;by_cases h4:hi%64=63
   ·have HQ:=Lib.hid (And.intro h3 h4);rw[h4]at n2;clear h1 h2 h3 h4 o1;go_wp2_with fail;go_region_held3 (fun w'=>Below w.heap.size w w') (first|assumption|exact below_drewN hbw 1|go_keep) (first
     |(go_at_call 93;refine(HS.out _).mono ?_;rintro e wn ⟨rfl,hbn⟩;have hBn:=za9 (by assumption) hbn))
    go_wp2_with fail;go_roundw;case rel=>exact⟨2,by omega,rfl,zjc HN.out (by have:=HQ.out;omega),by first|assumption|exact below_drewN hbw 1⟩
    case measure=>simp[intOf]
   ·have hcut:=zyi HN.out h1 (by omega) h3 h4;have hin:=ze3 hle hcut;obtain⟨r,hr⟩:∃r,hi%64=r:=⟨_,rfl⟩;rw[hr]at n2;obtain⟨y,hy⟩:∃y,hi-hi%64=y:=⟨_,rfl⟩;rw[hy]at hcut hin;have o2:bits .andNot .i64 hi 63=y:=by rw[zz4 hi c2 (by omega)];exact hy
    have hcl1:Cls lo (y-1):=by have:=HK.out;unfold Cls at*;omega
    have hcl2:Cls y hi:=by have:=HK.out;unfold Cls at*;omega
    have q4:(r==63)=false:=by simp;omega
    have q5:(r !=63)=true:=by simp;omega
    have q6:¬r=63:=by omega
    have hy0:0≤y:=by omega
    clear h1 h2 h3 h4 hr hy o1;go_wp2_with fail;go_region_held3 (fun w'=>Below w.heap.size w w') (first|assumption|exact below_drewN hbw 1|go_keep) (first
     |(go_at_call 93;refine(HS.out _).mono ?_;rintro e wn ⟨rfl,hbn⟩;have hBn:=za9 (by assumption) hbn))
    go_wp2_with fail
    ((with_reducible refine(ih lo (y-1) _ (by omega) (by omega) hcl1).mono ?_))
    rintro e w2 ⟨v1,l1,rfl,hr1,hm1,hb1⟩;go_wp2_with fail
    ((with_reducible refine(ih y hi _ (by omega) (by omega) hcl2).mono ?_))
    rintro e w3 ⟨v2,l2,rfl,hr2,hm2,hb2⟩;have hn1:(l1.length:Int)≤1114112:=by
     have h:=zbj (lo:=lo) (hi:=(y-1)) (by omega) hcl1;rw[←hm1,List.length_map]at h;omega
    have hn2:(l2.length:Int)≤1114112:=by
     have h:=zbj (lo:=y) (hi:=hi) (by omega) hcl2;rw[←hm2,List.length_map]at h;omega
    have HR1:=Lib.hid hr1;have HR2:=Lib.hid hr2;have HM1:=Lib.hid hm1;have HM2:=Lib.hid hm2;have HB:=Lib.hid (za9 hBn (za9 hb1 hb2));have hs2:=hb1.size;have hs3:=hb2.size;have hsn:=hBn.size;have HB2:=Lib.hid hb2;obtain⟨A2,c2,rfl,_⟩:=za1 hr2.own;have hnn:A2=none→l2.length=0:=by
     intro e
     subst e;rcases hr2.own.2 with⟨_,h0⟩|⟨g,cap,cur,hv,_⟩
     ·exact h0
     ·cases hv
    clear hr1 hr2 hm1 hm2 hb1 hb2;go_wp2_with (at_builtin;refine zad w3 w3 rfl _ _ _ rfl zhh v1 _ _ rfl (za2 HR1.out.own HB2.out) rfl (Sl.of_own HR2.out.own) hnn (zdi l2) (by unfold maxLen;omega) (by omega) (by omega) (za0 _|>.mono (by omega)) ?_;intro v3 w4 hown3 hb3 hgr _)
    go_ret;refine⟨v3,l1++l2,rfl,(HR1.out.join HB2.out HR2.out hown3 hgr (by omega)).base hsn,?_,?_⟩
    ·rw[List.map_append,HM1.out,HM2.out,zc9 hle hcut]
    ·exact HB.out.trans (hb3.mono (by omega))
  ·have w6:IntKind.i64.wrap 12=12:=by decide
   by_cases h1:lo/4096=hi/4096
   ·have HQ:=Lib.hid h1;have q1:(lo/4096==hi/4096)=true:=by simpa using h1
    have q2:decide (lo/4096=hi/4096)=true:=by simpa using h1
    clear h1;go_wp2_with fail;go_quiet (fail)
    have hbq:=below_drewN hbw nq;generalize wr.drewN nq=wq at*;go_wp2_with fail;go_roundw;case rel=>exact⟨3,by omega,rfl,zjb HN.out (by have:=HQ.out;omega),hbq⟩
    case measure=>simp[intOf]
   have q1:(lo/4096==hi/4096)=false:=by simpa using h1
   have q2:decide (lo/4096=hi/4096)=false:=by simpa using h1
   by_cases h2:szC lo≤2
   ·have HQ:=Lib.hid h2;have q3:decide (szC lo≤2)=true:=by simpa using h2
    clear h1 h2;go_wp2_with fail;go_region_held3 (fun w'=>Below w.heap.size w w') (first|assumption|exact below_drewN hbw 1|go_keep) (first
     |(go_at_call 93;refine(HS.out _).mono ?_;rintro e wn ⟨rfl,hbn⟩;have hBn:=za9 (by assumption) hbn))
    go_wp2_with fail;go_roundw;case rel=>exact⟨3,by omega,rfl,zjb HN.out (by have:=HQ.out;omega),by first|assumption|exact below_drewN hbw 1⟩
    case measure=>simp[intOf]
   have q3:decide (szC lo≤2)=false:=by simpa using h2
   have n1:=zf2 12 (by omega) lo (by omega) (by omega);have o1:=z7k 12 (by omega) lo (by omega) (by omega);simp only[Int.reducePow,Int.reduceSub]at n1 o1;by_cases h3:lo%4096≠0
   ·have hcut:=z9k HN.out h1 (by omega) h3;have hin:=ze3 hle hcut;obtain⟨x,hx⟩:∃x,lo-lo%4096+4095=x:=⟨_,rfl⟩;rw[hx]at o1;obtain⟨r,hr⟩:∃r,lo%4096=r:=⟨_,rfl⟩;rw[hr]at n1;have hxe:lo-lo%4096+4096=x+1:=by omega
    rw[hxe]at hcut hin;have hcl1:Cls lo x:=by have:=HK.out;unfold Cls at*;omega
    have hcl2:Cls (x+1) hi:=by have:=HK.out;unfold Cls at*;omega
    have q4:(r==0)=false:=by simp;omega
    have q5:(r !=0)=true:=by simp;omega
    have q6:¬r=0:=by omega
    have hx0:0≤x:=by omega
    clear h1 h2 h3 hx hr hxe;go_wp2_with fail;go_region_held3 (fun w'=>Below w.heap.size w w') (first|assumption|exact below_drewN hbw 1|go_keep) (first
     |(go_at_call 93;refine(HS.out _).mono ?_;rintro e wn ⟨rfl,hbn⟩;have hBn:=za9 (by assumption) hbn))
    go_wp2_with fail
    ((with_reducible refine(ih lo x _ (by omega) (by omega) hcl1).mono ?_))
    rintro e w2 ⟨v1,l1,rfl,hr1,hm1,hb1⟩;go_wp2_with fail
    ((with_reducible refine(ih (x+1) hi _ (by omega) (by omega) hcl2).mono ?_))
    rintro e w3 ⟨v2,l2,rfl,hr2,hm2,hb2⟩;have hn1:(l1.length:Int)≤1114112:=by
     have h:=zbj (lo:=lo) (hi:=x) (by omega) hcl1;rw[←hm1,List.length_map]at h;omega
    have hn2:(l2.length:Int)≤1114112:=by
     have h:=zbj (lo:=(x+1)) (hi:=hi) (by omega) hcl2;rw[←hm2,List.length_map]at h;omega
    have HR1:=Lib.hid hr1;have HR2:=Lib.hid hr2;have HM1:=Lib.hid hm1;have HM2:=Lib.hid hm2;have HB:=Lib.hid (za9 hBn (za9 hb1 hb2));have hs2:=hb1.size;have hs3:=hb2.size;have hsn:=hBn.size;have HB2:=Lib.hid hb2;obtain⟨A2,c2,rfl,_⟩:=za1 hr2.own;have hnn:A2=none→l2.length=0:=by
     intro e
     subst e;rcases hr2.own.2 with⟨_,h0⟩|⟨g,cap,cur,hv,_⟩
     ·exact h0
     ·cases hv
    clear hr1 hr2 hm1 hm2 hb1 hb2;go_wp2_with (at_builtin;refine zad w3 w3 rfl _ _ _ rfl zhh v1 _ _ rfl (za2 HR1.out.own HB2.out) rfl (Sl.of_own HR2.out.own) hnn (zdi l2) (by unfold maxLen;omega) (by omega) (by omega) (za0 _|>.mono (by omega)) ?_;intro v3 w4 hown3 hb3 hgr _)
    go_ret;refine⟨v3,l1++l2,rfl,(HR1.out.join HB2.out HR2.out hown3 hgr (by omega)).base hsn,?_,?_⟩
    ·rw[List.map_append,HM1.out,HM2.out,zc9 hle hcut];congr 2
     all_goals first|rfl|omega
    ·exact HB.out.trans (hb3.mono (by omega))
   have h3:lo%4096=0:=by omega
   have n2:=zf2 12 (by omega) hi (by omega) (by omega);simp only[Int.reducePow,Int.reduceSub]at n2;rw[h3]at n1;by_cases h4:hi%4096=4095
   ·have HQ:=Lib.hid (And.intro h3 h4);rw[h4]at n2;clear h1 h2 h3 h4 o1;go_wp2_with fail;go_region_held3 (fun w'=>Below w.heap.size w w') (first|assumption|exact below_drewN hbw 1|go_keep) (first
     |(go_at_call 93;refine(HS.out _).mono ?_;rintro e wn ⟨rfl,hbn⟩;have hBn:=za9 (by assumption) hbn))
    go_wp2_with fail;go_roundw;case rel=>exact⟨3,by omega,rfl,zjb HN.out (by have:=HQ.out;omega),by first|assumption|exact below_drewN hbw 1⟩
    case measure=>simp[intOf]
   ·have hcut:=zyh HN.out h1 (by omega) h3 h4;have hin:=ze3 hle hcut;obtain⟨r,hr⟩:∃r,hi%4096=r:=⟨_,rfl⟩;rw[hr]at n2;obtain⟨y,hy⟩:∃y,hi-hi%4096=y:=⟨_,rfl⟩;rw[hy]at hcut hin;have o2:bits .andNot .i64 hi 4095=y:=by rw[zz3 hi c2 (by omega)];exact hy
    have hcl1:Cls lo (y-1):=by have:=HK.out;unfold Cls at*;omega
    have hcl2:Cls y hi:=by have:=HK.out;unfold Cls at*;omega
    have q4:(r==4095)=false:=by simp;omega
    have q5:(r !=4095)=true:=by simp;omega
    have q6:¬r=4095:=by omega
    have hy0:0≤y:=by omega
    clear h1 h2 h3 h4 hr hy o1;go_wp2_with fail;go_region_held3 (fun w'=>Below w.heap.size w w') (first|assumption|exact below_drewN hbw 1|go_keep) (first
     |(go_at_call 93;refine(HS.out _).mono ?_;rintro e wn ⟨rfl,hbn⟩;have hBn:=za9 (by assumption) hbn))
    go_wp2_with fail
    ((with_reducible refine(ih lo (y-1) _ (by omega) (by omega) hcl1).mono ?_))
    rintro e w2 ⟨v1,l1,rfl,hr1,hm1,hb1⟩;go_wp2_with fail
    ((with_reducible refine(ih y hi _ (by omega) (by omega) hcl2).mono ?_))
    rintro e w3 ⟨v2,l2,rfl,hr2,hm2,hb2⟩;have hn1:(l1.length:Int)≤1114112:=by
     have h:=zbj (lo:=lo) (hi:=(y-1)) (by omega) hcl1;rw[←hm1,List.length_map]at h;omega
    have hn2:(l2.length:Int)≤1114112:=by
     have h:=zbj (lo:=y) (hi:=hi) (by omega) hcl2;rw[←hm2,List.length_map]at h;omega
    have HR1:=Lib.hid hr1;have HR2:=Lib.hid hr2;have HM1:=Lib.hid hm1;have HM2:=Lib.hid hm2;have HB:=Lib.hid (za9 hBn (za9 hb1 hb2));have hs2:=hb1.size;have hs3:=hb2.size;have hsn:=hBn.size;have HB2:=Lib.hid hb2;obtain⟨A2,c2,rfl,_⟩:=za1 hr2.own;have hnn:A2=none→l2.length=0:=by
     intro e
     subst e;rcases hr2.own.2 with⟨_,h0⟩|⟨g,cap,cur,hv,_⟩
     ·exact h0
     ·cases hv
    clear hr1 hr2 hm1 hm2 hb1 hb2;go_wp2_with (at_builtin;refine zad w3 w3 rfl _ _ _ rfl zhh v1 _ _ rfl (za2 HR1.out.own HB2.out) rfl (Sl.of_own HR2.out.own) hnn (zdi l2) (by unfold maxLen;omega) (by omega) (by omega) (za0 _|>.mono (by omega)) ?_;intro v3 w4 hown3 hb3 hgr _)
    go_ret;refine⟨v3,l1++l2,rfl,(HR1.out.join HB2.out HR2.out hown3 hgr (by omega)).base hsn,?_,?_⟩
    ·rw[List.map_append,HM1.out,HM2.out,zc9 hle hcut]
    ·exact HB.out.trans (hb3.mono (by omega))
  ·have w6:IntKind.i64.wrap 18=18:=by decide
   by_cases h1:lo/262144=hi/262144
   ·have HQ:=Lib.hid h1;have q1:(lo/262144==hi/262144)=true:=by simpa using h1
    have q2:decide (lo/262144=hi/262144)=true:=by simpa using h1
    clear h1;go_wp2_with fail;go_quiet (fail)
    have hbq:=below_drewN hbw nq;generalize wr.drewN nq=wq at*;go_wp2_with fail;go_roundw;case rel=>exact⟨4,by omega,rfl,zja HN.out (by have:=HQ.out;omega),hbq⟩
    case measure=>simp[intOf]
   have q1:(lo/262144==hi/262144)=false:=by simpa using h1
   have q2:decide (lo/262144=hi/262144)=false:=by simpa using h1
   by_cases h2:szC lo≤3
   ·have HQ:=Lib.hid h2;have q3:decide (szC lo≤3)=true:=by simpa using h2
    clear h1 h2;go_wp2_with fail;go_region_held3 (fun w'=>Below w.heap.size w w') (first|assumption|exact below_drewN hbw 1|go_keep) (first
     |(go_at_call 93;refine(HS.out _).mono ?_;rintro e wn ⟨rfl,hbn⟩;have hBn:=za9 (by assumption) hbn))
    go_wp2_with fail;go_roundw;case rel=>exact⟨4,by omega,rfl,zja HN.out (by have:=HQ.out;omega),by first|assumption|exact below_drewN hbw 1⟩
    case measure=>simp[intOf]
   have q3:decide (szC lo≤3)=false:=by simpa using h2
   have n1:=zf2 18 (by omega) lo (by omega) (by omega);have o1:=z7k 18 (by omega) lo (by omega) (by omega);simp only[Int.reducePow,Int.reduceSub]at n1 o1;by_cases h3:lo%262144≠0
   ·have hcut:=z9j HN.out h1 (by omega) h3;have hin:=ze3 hle hcut;obtain⟨x,hx⟩:∃x,lo-lo%262144+262143=x:=⟨_,rfl⟩;rw[hx]at o1;obtain⟨r,hr⟩:∃r,lo%262144=r:=⟨_,rfl⟩;rw[hr]at n1;have hxe:lo-lo%262144+262144=x+1:=by omega
    rw[hxe]at hcut hin;have hcl1:Cls lo x:=by have:=HK.out;unfold Cls at*;omega
    have hcl2:Cls (x+1) hi:=by have:=HK.out;unfold Cls at*;omega
    have q4:(r==0)=false:=by simp;omega
    have q5:(r !=0)=true:=by simp;omega
    have q6:¬r=0:=by omega
    have hx0:0≤x:=by omega
    clear h1 h2 h3 hx hr hxe;go_wp2_with fail;go_region_held3 (fun w'=>Below w.heap.size w w') (first|assumption|exact below_drewN hbw 1|go_keep) (first
     |(go_at_call 93;refine(HS.out _).mono ?_;rintro e wn ⟨rfl,hbn⟩;have hBn:=za9 (by assumption) hbn))
    go_wp2_with fail
    ((with_reducible refine(ih lo x _ (by omega) (by omega) hcl1).mono ?_))
    rintro e w2 ⟨v1,l1,rfl,hr1,hm1,hb1⟩;go_wp2_with fail
    ((with_reducible refine(ih (x+1) hi _ (by omega) (by omega) hcl2).mono ?_))
    rintro e w3 ⟨v2,l2,rfl,hr2,hm2,hb2⟩;have hn1:(l1.length:Int)≤1114112:=by
     have h:=zbj (lo:=lo) (hi:=x) (by omega) hcl1;rw[←hm1,List.length_map]at h;omega
    have hn2:(l2.length:Int)≤1114112:=by
     have h:=zbj (lo:=(x+1)) (hi:=hi) (by omega) hcl2;rw[←hm2,List.length_map]at h;omega
    have HR1:=Lib.hid hr1;have HR2:=Lib.hid hr2;have HM1:=Lib.hid hm1;have HM2:=Lib.hid hm2;have HB:=Lib.hid (za9 hBn (za9 hb1 hb2));have hs2:=hb1.size;have hs3:=hb2.size;have hsn:=hBn.size;have HB2:=Lib.hid hb2;obtain⟨A2,c2,rfl,_⟩:=za1 hr2.own;have hnn:A2=none→l2.length=0:=by
     intro e
     subst e;rcases hr2.own.2 with⟨_,h0⟩|⟨g,cap,cur,hv,_⟩
     ·exact h0
     ·cases hv
    clear hr1 hr2 hm1 hm2 hb1 hb2;go_wp2_with (at_builtin;refine zad w3 w3 rfl _ _ _ rfl zhh v1 _ _ rfl (za2 HR1.out.own HB2.out) rfl (Sl.of_own HR2.out.own) hnn (zdi l2) (by unfold maxLen;omega) (by omega) (by omega) (za0 _|>.mono (by omega)) ?_;intro v3 w4 hown3 hb3 hgr _)
    go_ret;refine⟨v3,l1++l2,rfl,(HR1.out.join HB2.out HR2.out hown3 hgr (by omega)).base hsn,?_,?_⟩
    ·rw[List.map_append,HM1.out,HM2.out,zc9 hle hcut];congr 2
     all_goals first|rfl|omega
    ·exact HB.out.trans (hb3.mono (by omega))
   have h3:lo%262144=0:=by omega
   have n2:=zf2 18 (by omega) hi (by omega) (by omega);simp only[Int.reducePow,Int.reduceSub]at n2;rw[h3]at n1;by_cases h4:hi%262144=262143
   ·have HQ:=Lib.hid (And.intro h3 h4);rw[h4]at n2;clear h1 h2 h3 h4 o1;go_wp2_with fail;go_region_held3 (fun w'=>Below w.heap.size w w') (first|assumption|exact below_drewN hbw 1|go_keep) (first
     |(go_at_call 93;refine(HS.out _).mono ?_;rintro e wn ⟨rfl,hbn⟩;have hBn:=za9 (by assumption) hbn))
    go_wp2_with fail;go_roundw;case rel=>exact⟨4,by omega,rfl,zja HN.out (by have:=HQ.out;omega),by first|assumption|exact below_drewN hbw 1⟩
    case measure=>simp[intOf]
   ·have hcut:=zyg HN.out h1 (by omega) h3 h4;have hin:=ze3 hle hcut;obtain⟨r,hr⟩:∃r,hi%262144=r:=⟨_,rfl⟩;rw[hr]at n2;obtain⟨y,hy⟩:∃y,hi-hi%262144=y:=⟨_,rfl⟩;rw[hy]at hcut hin;have o2:bits .andNot .i64 hi 262143=y:=by rw[zz2 hi c2 (by omega)];exact hy
    have hcl1:Cls lo (y-1):=by have:=HK.out;unfold Cls at*;omega
    have hcl2:Cls y hi:=by have:=HK.out;unfold Cls at*;omega
    have q4:(r==262143)=false:=by simp;omega
    have q5:(r !=262143)=true:=by simp;omega
    have q6:¬r=262143:=by omega
    have hy0:0≤y:=by omega
    clear h1 h2 h3 h4 hr hy o1;go_wp2_with fail;go_region_held3 (fun w'=>Below w.heap.size w w') (first|assumption|exact below_drewN hbw 1|go_keep) (first
     |(go_at_call 93;refine(HS.out _).mono ?_;rintro e wn ⟨rfl,hbn⟩;have hBn:=za9 (by assumption) hbn))
    go_wp2_with fail
    ((with_reducible refine(ih lo (y-1) _ (by omega) (by omega) hcl1).mono ?_))
    rintro e w2 ⟨v1,l1,rfl,hr1,hm1,hb1⟩;go_wp2_with fail
    ((with_reducible refine(ih y hi _ (by omega) (by omega) hcl2).mono ?_))
    rintro e w3 ⟨v2,l2,rfl,hr2,hm2,hb2⟩;have hn1:(l1.length:Int)≤1114112:=by
     have h:=zbj (lo:=lo) (hi:=(y-1)) (by omega) hcl1;rw[←hm1,List.length_map]at h;omega
    have hn2:(l2.length:Int)≤1114112:=by
     have h:=zbj (lo:=y) (hi:=hi) (by omega) hcl2;rw[←hm2,List.length_map]at h;omega
    have HR1:=Lib.hid hr1;have HR2:=Lib.hid hr2;have HM1:=Lib.hid hm1;have HM2:=Lib.hid hm2;have HB:=Lib.hid (za9 hBn (za9 hb1 hb2));have hs2:=hb1.size;have hs3:=hb2.size;have hsn:=hBn.size;have HB2:=Lib.hid hb2;obtain⟨A2,c2,rfl,_⟩:=za1 hr2.own;have hnn:A2=none→l2.length=0:=by
     intro e
     subst e;rcases hr2.own.2 with⟨_,h0⟩|⟨g,cap,cur,hv,_⟩
     ·exact h0
     ·cases hv
    clear hr1 hr2 hm1 hm2 hb1 hb2;go_wp2_with (at_builtin;refine zad w3 w3 rfl _ _ _ rfl zhh v1 _ _ rfl (za2 HR1.out.own HB2.out) rfl (Sl.of_own HR2.out.own) hnn (zdi l2) (by unfold maxLen;omega) (by omega) (by omega) (za0 _|>.mono (by omega)) ?_;intro v3 w4 hown3 hb3 hgr _)
    go_ret;refine⟨v3,l1++l2,rfl,(HR1.out.join HB2.out HR2.out hown3 hgr (by omega)).base hsn,?_,?_⟩
    ·rw[List.map_append,HM1.out,HM2.out,zc9 hle hcut]
    ·exact HB.out.trans (hb3.mono (by omega))
  ·have hcut:=Lib.hid (z29 HN.out);have hE1:=Lib.hid (zm3 (w:=wr) lo HW1.out);have hE2:=Lib.hid (fun w=>zm3 w hi HW2.out);obtain⟨s1,e1⟩:∃s,strOfNums (encC lo)=s:=⟨_,rfl⟩;obtain⟨s2,e2⟩:∃s,strOfNums (encC hi)=s:=⟨_,rfl⟩;rw[e1]at hE1;rw[e2]at hE2;have E1:=Lib.hid e1;have E2:=Lib.hid e2;clear e1 e2 HS;go_wp2_with fail
   ((with_reducible refine(hE1.out).mono ?_))
   rintro e w1 ⟨rfl,hb1⟩;go_wp2_with fail
   ((with_reducible refine(hE2.out _).mono ?_))
   rintro e w2 ⟨rfl,hb2⟩;have hB2:=za9 hbw (za9 hb1 hb2);have hs1:s1.size=(encC lo).length:=by rw[←E1.out,strOfNums_size]
   have hs2:s2.size=(encC lo).length:=by rw[←E2.out,strOfNums_size];exact Eq.symm (zpe hle HK.out)
   have hs4:=zik lo;have hs12:=Lib.hid (hs2.trans hs1.symm);have HS1:=Lib.hid hs1;have hle1:s1.size≤s2.size:=by omega
   have hle4:s1.size≤4:=by omega
   clear hb1 hb2 hbw hsw hs1 hs2 hs4 hE1 hE2;go_wp2_with fail;go_loopw [84,11] (fun i v wq=>zLf w2 s1 s2 i v wq) (fun i _ _=>s1.size-(intOf i).toNat)
   case atStart=>exact⟨0,Nat.zero_le _,rfl,by simpa[flatR]using zc1 w2 151 2 rfl (Nat.le_refl _),bnew (za0 w2) _⟩
   case round=>
    obtain⟨k,hk,rfl,hown,hbl⟩:=hrel;by_cases hlt:k<s1.size
    ·have hlt2:k<s2.size:=by omega
     have i0:(0:Int)≤(k:Int):=by omega
     have i1:(k:Int)<(s1.size:Int):=by omega
     have i2:(k:Int)<(s2.size:Int):=by omega
     have HO:=Lib.hid hown;have HB:=Lib.hid hbl;clear hown hbl;go_wp2_with fail;have x1:IntKind.i64.wrap ((s1[k].toNat:Nat):Int)=((s1[k].toNat:Nat):Int):=IntWalk.i64_in _ (by have:=s1[k].toNat_lt;omega);have x2:IntKind.i64.wrap ((s2[k].toNat:Nat):Int)=((s2[k].toNat:Nat):Int):=IntWalk.i64_in _ (by have:=s2[k].toNat_lt;omega);go_region_held3 (fun w'=>True) (trivial) ((refine z39 w2 wr _ _ (by rfl) _ _ _ (by rfl) zE7 _ _ _ (by rfl) HO.out (nb:=wr.heap.size) (m:=1) (by rfl) rfl (bnew (za0 wr) _).drew (by simp) (heap_alloc_new wr _) (by rfl) (by simp[Value.oneCell']) (by omega) (by unfold maxLen;omega) (by omega) HB.out.size HB.out ?_;intro g cap w3 hown3 hb3))
     clear x1 x2;all_goals
      go_wp2_with fail;go_roundw;case rel=>
       refine⟨k+1,by omega,by go_num,?_,hb3⟩;rw[zB4 hlt hlt2];exact hown3
      case measure=>simp[intOf];omega
    ·obtain rfl:k=s1.size:=by omega
     obtain⟨A,c,rfl,hc⟩:=za1 hown;have HO:=Lib.hid hown;have HB:=Lib.hid hbl;clear hown hbl;have hz:zipS s1 s2=zh0 lo hi:=by rw[←E1.out,←E2.out];exact zB3 (zx0 c0 c3) (zx0 c2 c1)
     have hzl:(zh0 lo hi).length=s1.size:=by unfold zh0;rw[List.length_zip,←zpe hle HK.out,HS1.out];omega
     have hO2:=HO.out;rw[hz,←hzl,List.take_length]at hO2;have hpos:0<(zh0 lo hi).length:=by have:=(zik lo).1;have:=HS1.out;omega
     have HF:=Lib.hid (fun n (h:(zh0 lo hi).length=n)=>z92 hB2 HB.out hO2 hpos h (zdb hcut.out));have HZ:=Lib.hid hzl;clear hz hzl hO2 hpos;go_wp2_with fail;go_ret;exact HF.out _ HZ.out
theorem zk7(lo hi:Int)(w:World)(hle:lo≤hi)(hk:Cls lo hi):Calls Tryz.prog 85 #[.int .i64 lo,.int .i64 hi] w (zsh w (zbh lo hi)):=by
 have key:∀N:Nat,∀lo hi (w:World),(hi-lo).toNat<N→lo≤hi→Cls lo hi→Calls Tryz.prog 85 #[.int .i64 lo,.int .i64 hi] w (zsh w (zbh lo hi)):=by
  intro N
  induction N with
  |zero=>intro lo hi w h;omega
  |succ N ih=>intro lo hi w h h1 h2;exact z76 N ih lo hi w h h1 h2
 exact key _ lo hi w (Nat.lt_succ_self _) hle hk
end Sp
end Go.Proofs.YtaociahafamncaaGreatDoor
