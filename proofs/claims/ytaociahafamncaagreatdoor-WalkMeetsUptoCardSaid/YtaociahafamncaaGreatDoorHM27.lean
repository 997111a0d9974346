/- Folded. -/
import Derived.Test.YtaociahafamncaaGreatDoorHM3
import Derived.Test.YtaociahafamncaaGreatDoorHM26
import Derived.Test.YtaociahafamncaaGreatDoorHM23
set_option maxRecDepth 100000
set_option maxHeartbeats 40000000
set_option linter.unusedVariables false
namespace Go.Proofs.YtaociahafamncaaGreatDoor
namespace Sp
theorem zf5{lo hi x y:Int}{m:Nat}(hc:∀a b,a≤b→x≤a→b≤y→Cls a b∧(zbh a b).length≤m):(part lo hi x y).length≤m:=by
 unfold part;split
 ·exact(hc _ _ ‹_› (by omega) (by omega)).2
 ·simp
theorem all_len(lo hi:Int):(allP lo hi).length≤20:=by
 have s1:∀a:Int,a≤127→szC a≤1:=fun a h=>by unfold szC;rw[if_pos (by omega)];omega
 have s2:∀a:Int,a≤2047→szC a≤2:=fun a h=>by have:=zji (lo:=a);omega
 have s3:∀a:Int,a≤65535→szC a≤3:=fun a h=>by have:=zji (lo:=a);omega
 unfold allP;have l0:0≤max lo 0:=by omega
 have h0:min hi 1114111≤1114111:=by omega
 generalize max lo 0=a at*;generalize min hi 1114111=b at*;have p0:=zf5 (lo:=a) (hi:=b) (x:=0) (y:=127) (m:=1) (fun u v h h1 h2=>by
  have k:Cls u v:=by unfold Cls;omega
  have:=few1 h k;exact⟨k,by have:=s1 u (by omega);omega⟩)
 have p1:=zf5 (lo:=a) (hi:=b) (x:=128) (y:=2047) (m:=3) (fun u v h h1 h2=>by
  have k:Cls u v:=by unfold Cls;omega
  have:=few1 h k;exact⟨k,by have:=s2 u (by omega);omega⟩)
 have p2:=zf5 (lo:=a) (hi:=b) (x:=2048) (y:=55295) (m:=5) (fun u v h h1 h2=>by
  have k:Cls u v:=by unfold Cls;omega
  have:=few1 h k;exact⟨k,by have:=s3 u (by omega);omega⟩)
 have p3:=zf5 (lo:=a) (hi:=b) (x:=57344) (y:=65535) (m:=5) (fun u v h h1 h2=>by
  have k:Cls u v:=by unfold Cls;omega
  have:=few1 h k;exact⟨k,by have:=s3 u (by omega);omega⟩)
 have p4:(part a b 65536 1114111).length≤7:=zf5 (fun u v h h1 h2=>by
  have k:Cls u v:=by unfold Cls;omega
  exact⟨k,(few1 h k).1⟩)
 have key:(part a b 0 127).length=0∨(part a b 2048 55295).length=0∨(part a b 128 2047).length≤1:=by
  by_cases c1:max a 0≤min b 127
  ·by_cases c2:max a 2048≤min b 55295
   ·refine .inr (.inr ?_);unfold part;rw[if_pos (by omega),show max a 128=128 by omega,show min b 2047=2047 by omega];have:(zbh 128 2047).length=1:=zc8 (by decide);omega
   ·refine .inr (.inl ?_);unfold part;rw[if_neg c2];rfl
  ·refine .inl ?_;unfold part;rw[if_neg c1];rfl
 unfold upto;simp only[List.take_succ_cons,List.take_zero,List.flatten_cons,List.flatten_nil,List.length_append,List.length_nil];omega
theorem zo5{lo hi x y:Int}(hc:∀a b,x≤a→b≤y→Cls a b):∀r∈part lo hi x y,rowOk r:=by
 unfold part;split
 ·exact rows_ok ‹_› (hc _ _ (by omega) (by omega))
 ·intro r hr;simp at hr
theorem all_ok(lo hi:Int):∀r∈allP lo hi,rowOk r:=by
 unfold allP upto;intro r hr
 simp only[List.take_succ_cons,List.take_zero,List.flatten_cons,List.flatten_nil,List.mem_append,List.not_mem_nil,or_false]at hr;rcases hr with h|h|h|h|h
 ·exact zo5 (fun a b _ _=>by unfold Cls;omega) r h
 ·exact zo5 (fun a b _ _=>by unfold Cls;omega) r h
 ·exact zo5 (fun a b _ _=>by unfold Cls;omega) r h
 ·exact zo5 (fun a b _ _=>by unfold Cls;omega) r h
 ·exact zo5 (fun a b _ _=>by unfold Cls;omega) r h
theorem zg8{lo hi x y c:Int}(hc:∀a b,x≤a→b≤y→Cls a b):zgb (part lo hi x y) (encC c)=inB (max lo x) (min hi y) c:=by
 unfold part;split
 ·exact z3g ‹_› (hc _ _ (by omega) (by omega))
 ·unfold inB zgb;rw[if_neg (by omega)];rfl
theorem all_holds(lo hi c:Int)(hw:zb1 c=true):zgb (allP lo hi) (encC c)=inB lo hi c:=by
 have:=zsi hw;unfold allP upto;simp only[List.take_succ_cons,List.take_zero,List.flatten_cons,List.flatten_nil,zkk];rw[zg8 (fun a b _ _=>by unfold Cls;omega),zg8 (fun a b _ _=>by unfold Cls;omega),zg8 (fun a b _ _=>by unfold Cls;omega),zg8 (fun a b _ _=>by unfold Cls;omega),zg8 (fun a b _ _=>by unfold Cls;omega)];have e:zgb [] (encC c)=0:=rfl;rw[e];unfold inB;by_cases h:lo≤c∧c≤hi
 ·rw[if_pos h];repeat' split
  all_goals omega
 ·rw[if_neg h,if_neg (by omega),if_neg (by omega),if_neg (by omega),if_neg (by omega),if_neg (by omega)];rfl
end Sp
namespace Sp
def UOk(s:Int)(r:List (Int×Int)):Prop:=(1≤r.length∧r.length≤4)∧(∀p∈r,0≤p.1∧0≤p.2)∧(1<r.length→∀p,r[0]? =some p→192≤p.1)∧(∀(k:Nat) p,0<k→r[k]? =some p→128≤p.1∧p.2≤191)∧((r.length:Int)=s)∧(r.length=1→∀p∈r,p.2≤127)
theorem zKe{lo hi:Int}(h:lo≤hi)(hk:Cls lo hi):UOk (szC lo) (zh0 lo hi):=by
 have hs:=zji (lo:=lo);rcases zki h hk with⟨a,b,e⟩|⟨a,b,e⟩|⟨a,b,e⟩|⟨a,b,e⟩
 all_goals
  rw[e]
 ·refine⟨by simp,fun p hp=>?_,fun h=>by simp at h,fun k p hk hp=>?_,by simp;omega,fun _ p hp=>?_⟩
  ·rw[List.mem_singleton.1 hp];exact⟨a,by show 0≤hi;omega⟩
  ·have:=(List.getElem?_eq_some_iff.1 hp).1;simp at this
   omega
  ·rw[List.mem_singleton.1 hp];exact b
 ·refine⟨by simp,fun p hp=>?_,fun _ p hp=>?_,fun k p hk hp=>?_,by simp;omega,fun h=>by simp at h⟩
  ·simp only[List.mem_cons,List.not_mem_nil,or_false]at hp;rcases hp with rfl|rfl
   ·constructor<;>simp only<;>omega
   ·constructor<;>simp only<;>omega
  ·injection hp with hp
   subst hp;simp only
   omega
  ·have hl:=(List.getElem?_eq_some_iff.1 hp).1;simp at hl
   obtain rfl:k=1:=by omega
   injection hp with hp
   subst hp;constructor<;>simp only<;>omega
 ·refine⟨by simp,fun p hp=>?_,fun _ p hp=>?_,fun k p hk hp=>?_,by simp;omega,fun h=>by simp at h⟩
  ·simp only[List.mem_cons,List.not_mem_nil,or_false]at hp;rcases hp with rfl|rfl|rfl
   ·constructor<;>simp only<;>omega
   ·constructor<;>simp only<;>omega
   ·constructor<;>simp only<;>omega
  ·injection hp with hp
   subst hp;simp only
   omega
  ·have hl:=(List.getElem?_eq_some_iff.1 hp).1;simp at hl
   obtain rfl|rfl:k=1∨k=2:=by omega
   all_goals
    injection hp with hp
    subst hp;constructor<;>simp only<;>omega
 ·refine⟨by simp,fun p hp=>?_,fun _ p hp=>?_,fun k p hk hp=>?_,by simp;omega,fun h=>by simp at h⟩
  ·simp only[List.mem_cons,List.not_mem_nil,or_false]at hp;rcases hp with rfl|rfl|rfl|rfl
   ·constructor<;>simp only<;>omega
   ·constructor<;>simp only<;>omega
   ·constructor<;>simp only<;>omega
   ·constructor<;>simp only<;>omega
  ·injection hp with hp
   subst hp;simp only
   omega
  ·have hl:=(List.getElem?_eq_some_iff.1 hp).1;simp at hl
   obtain rfl|rfl|rfl:k=1∨k=2∨k=3:=by omega
   all_goals
    injection hp with hp
    subst hp;constructor<;>simp only<;>omega
theorem zK7{lo hi:Int}(h:lo≤hi)(hk:Cls lo hi):∀r∈zbh lo hi,UOk (szC lo) r:=by
 refine zk6 (motive:=fun lo hi=>∀r∈zbh lo hi,UOk (szC lo) r) ?_ ?_ lo hi h hk
 ·intro lo hi c h1 hk hc h2 h3 a b r hr
  rw[zc9 h1 hc,List.mem_append]at hr;rcases hr with hr|hr
  ·exact a r hr
  ·have:=b r hr;rwa[zg0 hk (by omega) h3]at this
 ·intro lo hi h1 hk hc r hr
  rw[zdb hc,List.mem_singleton]at hr;subst hr;exact zKe h1 hk
theorem zvg{lo hi x y s:Int}(hc:∀a b,a≤b→x≤a→b≤y→Cls a b∧szC a=s):∀r∈part lo hi x y,UOk s r:=by
 unfold part;split
 ·intro r hr
  obtain⟨k1,k2⟩:=hc _ _ ‹_› (by omega) (by omega);have:=zK7 ‹_› k1 r hr;rwa[k2]at this
 ·intro r hr;cases hr
theorem zyb{α:Type}{p:α→Bool}{l:List α}(h:∀x∈l,p x=false):(l.filter p).length=0:=by
 rw[List.filter_eq_nil_iff.2 fun x hx=>by rw[h x hx];exact Bool.false_ne_true];rfl
theorem zx8(lo hi:Int):∃p0 p1 p2 p3 p4:List (List (Int×Int)),allP lo hi=p0++(p1++(p2++(p3++p4)))∧(∀r∈p0,UOk 1 r)∧(∀r∈p1,UOk 2 r)∧(∀r∈p2,UOk 3 r)∧(∀r∈p3,UOk 3 r)∧(∀r∈p4,UOk 4 r)∧p1.length≤3∧p2.length≤5∧p3.length≤5∧p4.length≤7:=by
 have s1:∀a:Int,a≤127→szC a=1:=fun a h=>by have:=zji (lo:=a);omega
 have s2:∀a:Int,128≤a→a≤2047→szC a=2:=fun a h h'=>by have:=zji (lo:=a);omega
 have s3:∀a:Int,2048≤a→a≤65535→szC a=3:=fun a h h'=>by have:=zji (lo:=a);omega
 have s4:∀a:Int,65536≤a→szC a=4:=fun a h=>by have:=zji (lo:=a);omega
 refine⟨part (max lo 0) (min hi 1114111) 0 127,part (max lo 0) (min hi 1114111) 128 2047,part (max lo 0) (min hi 1114111) 2048 55295,part (max lo 0) (min hi 1114111) 57344 65535,part (max lo 0) (min hi 1114111) 65536 1114111,?_,zvg fun a b h h1 h2=>⟨?_,s1 a (by omega)⟩,zvg fun a b h h1 h2=>⟨?_,s2 a h1 (by omega)⟩,zvg fun a b h h1 h2=>⟨?_,s3 a h1 (by omega)⟩,zvg fun a b h h1 h2=>⟨?_,s3 a (by omega) (by omega)⟩,zvg fun a b h h1 h2=>⟨?_,s4 a h1⟩,zf5 fun u v h h1 h2=>?_,zf5 fun u v h h1 h2=>?_,zf5 fun u v h h1 h2=>?_,zf5 fun u v h h1 h2=>?_⟩
 ·unfold allP upto;simp
 ·unfold Cls;omega
 ·unfold Cls;omega
 ·unfold Cls;omega
 ·unfold Cls;omega
 ·unfold Cls;omega
 ·have k:Cls u v:=by unfold Cls;omega
  have:=few1 h k;exact⟨k,by have:=s2 u h1 (by omega);omega⟩
 ·have k:Cls u v:=by unfold Cls;omega
  have:=few1 h k;exact⟨k,by have:=s3 u h1 (by omega);omega⟩
 ·have k:Cls u v:=by unfold Cls;omega
  have:=few1 h k;exact⟨k,by have:=s3 u (by omega) (by omega);omega⟩
 ·have k:Cls u v:=by unfold Cls;omega
  exact⟨k,(few1 h k).1⟩
theorem zL2(lo hi:Int):∀r∈allP lo hi,∃s,UOk s r:=by
 obtain⟨p0,p1,p2,p3,p4,e,h0,h1,h2,h3,h4,_⟩:=zx8 lo hi;intro r hr
 rw[e]at hr;simp only[List.mem_append]at hr;rcases hr with h|h|h|h|h
 ·exact⟨_,h0 r h⟩
 ·exact⟨_,h1 r h⟩
 ·exact⟨_,h2 r h⟩
 ·exact⟨_,h3 r h⟩
 ·exact⟨_,h4 r h⟩
theorem zx7(lo hi:Int):RowsU (allP lo hi):=by
 have hu:=zL2 lo hi;obtain⟨p0,p1,p2,p3,p4,e,h0,h1,h2,h3,h4,n1,n2,n3,n4⟩:=zx8 lo hi;have cnt:∀d:Nat,((allP lo hi).filter fun r=>decide (d<r.length)).length=(p0.filter fun r=>decide (d<r.length)).length+((p1.filter fun r=>decide (d<r.length)).length+((p2.filter fun r=>decide (d<r.length)).length+((p3.filter fun r=>decide (d<r.length)).length+(p4.filter fun r=>decide (d<r.length)).length))):=fun d=>by
  rw[e];simp only[List.filter_append,List.length_append]
 have z:∀{s:Int}{p:List (List (Int×Int))},(∀r∈p,UOk s r)→∀d:Nat,s≤(d:Int)→(p.filter fun r=>decide (d<r.length)).length=0:=fun{s p} h d hd=>zyb fun r hr=>decide_eq_false (by have:=(h r hr).2.2.2.2.1;omega)
 have b:∀(p:List (List (Int×Int))) (d:Nat),(p.filter fun r=>decide (d<r.length)).length≤p.length:=fun p d=>List.length_filter_le ..
 refine⟨fun r hr=>?_,fun r hr=>?_,fun r hr=>?_,fun r hr=>?_,?_,?_,?_⟩
 ·obtain⟨s,h⟩:=hu r hr;exact h.1
 ·obtain⟨s,h⟩:=hu r hr;exact h.2.1
 ·obtain⟨s,h⟩:=hu r hr;exact h.2.2.1
 ·obtain⟨s,h⟩:=hu r hr;exact h.2.2.2.1
 ·rw[cnt];have:=z h0 1 (by omega);have:=b p1 1;have:=b p2 1;have:=b p3 1;have:=b p4 1
  omega
 ·rw[cnt];have:=z h0 2 (by omega);have:=z h1 2 (by omega)
  have:=b p2 2;have:=b p3 2;have:=b p4 2
  omega
 ·rw[cnt];have:=z h0 3 (by omega);have:=z h1 3 (by omega);have:=z h2 3 (by omega);have:=z h3 3 (by omega)
  have:=b p4 3;omega
theorem zGe(lo hi:Int):∀r∈allP lo hi,r≠[]:=fun r hr e=>by
 obtain⟨s,h⟩:=zL2 lo hi r hr;rw[e]at h;have:=h.1.1;simp at this
theorem zp7:∀{r:List (Int×Int)}{u:List Nat},zp8 r (u.map fun c:Nat=>(c:Int))=true↔fitN r u
 |[],[]=>by simp[zp8,fitN]
 |[],_::_=>by simp[zp8,fitN]
 |_::_,[]=>by simp[zp8,fitN]
 |
  p::r,c::u=>by
  have ih:= @zp7 r u;unfold zp8 at ih⊢;show _↔p.1≤(c:Int)∧(c:Int)≤p.2∧fitN r u;rw[←ih];simp only[List.map_cons,List.length_cons,List.zip_cons_cons,List.all_cons,Bool.and_eq_true,beq_iff_eq,decide_eq_true_eq,List.length_map];constructor
  ·rintro⟨h1,⟨h2,h3⟩,h4⟩;exact⟨h2,h3,by omega,h4⟩
  ·rintro⟨h1,h2,h3,h4⟩;exact⟨by omega,⟨h1,h2⟩,h4⟩
def encN(c:Int):List Nat:=(encC c).map Int.toNat
theorem z9e{c:Int}(h:0≤c):(encN c).map (fun c:Nat=>(c:Int))=encC c:=by
 have k:∀z∈encC c,0≤z:=by
  rcases @z23 c with⟨a,e⟩|⟨a,b,e⟩|⟨a,b,e⟩|⟨a,e⟩
  all_goals
   rw[e];intro z hz
   simp only[List.mem_cons,List.not_mem_nil,or_false]at hz
  ·omega
  ·omega
  ·omega
  ·omega
 unfold encN;rw[List.map_map];conv=>rhs;rw[←List.map_id (encC c)]
 refine List.map_congr_left fun z hz=>?_
 have:=k z hz;simp only[Function.comp,id];omega
theorem zF6{lo hi c:Int}(hw:zb1 c=true):(∃r∈allP lo hi,fitN r (encN c))↔lo≤c∧c≤hi:=by
 have h1:=all_holds lo hi c hw;have h0:=(zsi hw).1;have e:(∃r∈allP lo hi,fitN r (encN c))↔0<zgb (allP lo hi) (encC c):=by
  unfold zgb;rw[←z9e h0];constructor
  ·rintro⟨r,hr,hf⟩;have:=List.length_pos_of_mem ((List.mem_filter (p:=fun r=>zp8 r ((encN c).map fun c:Nat=>(c:Int)))).2 ⟨hr,zp7.2 hf⟩);omega
  ·intro h
   obtain⟨r,hr⟩:=List.exists_mem_of_length_pos (show 0<_ from by exact Int.ofNat_lt.1 h);exact⟨r,(List.mem_filter.1 hr).1,zp7.1 (List.mem_filter.1 hr).2⟩
 rw[e,h1];unfold inB;split
 ·rename_i h
  exact⟨fun _=>h,fun _=>by omega⟩
 ·rename_i h
  exact⟨fun h'=>by omega,fun h'=>absurd h' h⟩
end Sp
section
open Sp
def encs(l:List Int):List Nat:=l.flatMap encN
theorem zE3(a b:List Int):encs (a++b)=encs a++encs b:=List.flatMap_append ..
theorem zE1(c:Int):encs [c]=encN c:=by simp[encs]
theorem zna{c:Int}(hw:zb1 c=true):(0≤c∧c<128∧encN c=[c.toNat])∨(128≤c∧c<2048∧∃a b:Nat,encN c=[a,b]∧192≤a∧a<224∧128≤b∧b≤191∧c=((a:Int)-192)*64+(b-128))∨
  (2048≤c∧c<65536∧∃a b d:Nat,encN c=[a,b,d]∧224≤a∧a<240∧128≤b∧b≤191∧128≤d∧d≤191∧c=(((a:Int)-224)*64+(b-128))*64+(d-128))∨
  (65536≤c∧c≤1114111∧∃a b d e:Nat,encN c=[a,b,d,e]∧240≤a∧a<248∧128≤b∧b≤191∧128≤d∧d≤191∧128≤e∧e≤191∧c=((((a:Int)-240)*64+(b-128))*64+(d-128))*64+(e-128)):=by
 obtain⟨h0,h1,_⟩:=zsi hw;unfold encN encC;split
 ·exact .inl ⟨h0,by omega,rfl⟩
 ·split
  ·exact .inr (.inl ⟨by omega,by omega,_,_,rfl,by omega,by omega,by omega,by omega,by omega⟩)
  ·split
   ·exact .inr (.inr (.inl ⟨by omega,by omega,_,_,_,rfl,by omega,by omega,by omega,by omega,by omega,by omega,by omega⟩))
   ·exact .inr (.inr (.inr ⟨by omega,by omega,_,_,_,_,rfl,by omega,by omega,by omega,by omega,by omega,by omega,by omega,by omega,by omega⟩))
theorem zJ1{a:Nat}(h:a<128):encN (a:Int)=[a]:=by
 unfold encN encC;rw[if_pos (by omega)];rfl
theorem zIk{a b:Nat}(h1:192≤a)(h2:a<224)(h3:128≤b)(h4:b≤191)(h5:128≤((a:Int)-192)*64+(b-128)):encN (((a:Int)-192)*64+(b-128))=[a,b]:=by
 unfold encN encC;rw[if_neg (by omega),if_pos (by omega)];simp only[List.map_cons,List.map_nil,List.cons.injEq,and_true];omega
theorem z9c{a b d:Nat}(h1:224≤a)(h2:a<240)(h3:128≤b)(h4:b≤191)(h5:128≤d)(h6:d≤191)(h7:2048≤(((a:Int)-224)*64+(b-128))*64+(d-128)):encN ((((a:Int)-224)*64+(b-128))*64+(d-128))=[a,b,d]:=by
 unfold encN encC;rw[if_neg (by omega),if_neg (by omega),if_pos (by omega)];simp only[List.map_cons,List.map_nil,List.cons.injEq,and_true];omega
theorem zE4{a b d e:Nat}(h1:240≤a)(h2:a<248)(h3:128≤b)(h4:b≤191)(h5:128≤d)(h6:d≤191)(h7:128≤e)(h8:e≤191)(h9:65536≤((((a:Int)-240)*64+(b-128))*64+(d-128))*64+(e-128)):encN (((((a:Int)-240)*64+(b-128))*64+(d-128))*64+(e-128))=[a,b,d,e]:=by
 unfold encN encC;rw[if_neg (by omega),if_neg (by omega),if_neg (by omega)];simp only[List.map_cons,List.map_nil,List.cons.injEq,and_true];omega
theorem zye{c:Int}:encN c≠[]:=fun e=>by
 have h1:=(zik c).1;have h2:=congrArg List.length e;unfold encN at h2;rw[List.length_map,List.length_nil]at h2;omega
theorem zJ0{c c':Int}(hw:zb1 c=true)(hw':zb1 c'=true){r r':List Nat}(h:encN c++r=encN c'++r'):c=c'∧r=r':=by
 rcases zna hw with⟨_,_,e⟩|⟨_,_,a,b,e,_,_,_,_,hc⟩|⟨_,_,a,b,d,e,_,_,_,_,_,_,hc⟩|⟨_,_,a,b,d,f,e,_,_,_,_,_,_,_,_,hc⟩<;>
  rcases zna hw' with⟨_,_,e'⟩|⟨_,_,a',b',e',_,_,_,_,hc'⟩|⟨_,_,a',b',d',e',_,_,_,_,_,_,hc'⟩|⟨_,_,a',b',d',f',e',_,_,_,_,_,_,_,_,hc'⟩<;>
  rw[e,e']at h<;>simp only[List.cons_append,List.nil_append,List.cons.injEq]at h<;>
  first
   |omega
   |(obtain⟨rfl,rfl,rfl,rfl,h⟩:=h;exact⟨by omega,h⟩)
   |(obtain⟨rfl,rfl,rfl,h⟩:=h;exact⟨by omega,h⟩)
   |(obtain⟨rfl,rfl,h⟩:=h;exact⟨by omega,h⟩)
   |(obtain⟨h0,h⟩:=h;exact⟨by omega,h⟩)
theorem zub:∀{l1 l:List Int}{r:List Nat},(∀c∈l1,zb1 c=true)→(∀c∈l,zb1 c=true)→encs l1++r=encs l→∃l2,l=l1++l2∧r=encs l2
 |[],l,r,_,_,h=>⟨l,rfl,h⟩
 |
  c::l1,[],r,_,_,h=>by
  exfalso
  have h1:encN c++(encs l1++r)=[]:=by rw[←List.append_assoc];exact h
  exact zye (List.append_eq_nil_iff.1 h1).1
 |
  c::l1,c'::l,r,h1,h2,h=>by
  have h3:encN c++(encs l1++r)=encN c'++encs l:=by rw[←List.append_assoc];exact h
  obtain⟨rfl,h4⟩:=zJ0 (h1 c (List.mem_cons_self ..)) (h2 c' (List.mem_cons_self ..)) h3;obtain⟨l2,rfl,h5⟩:=zub (fun x hx=>h1 x (List.mem_cons_of_mem _ hx)) (fun x hx=>h2 x (List.mem_cons_of_mem _ hx)) h4;exact⟨l2,rfl,h5⟩
theorem zE2{l l':List Int}(h1:∀c∈l,zb1 c=true)(h2:∀c∈l',zb1 c=true)(h:encs l=encs l'):l=l':=by
 obtain⟨l2,e,h3⟩:=zub (r:=[]) h1 h2 (by rw[List.append_nil];exact h);cases l2 with
 |nil=>rw[e,List.append_nil]
 |
  cons c l2=>
  exfalso
  have h4:encN c++encs l2=[]:=h3.symm;exact zye (List.append_eq_nil_iff.1 h4).1
def Dec(s:List Nat)(l:List Int):Prop:=(∀c∈l,zb1 c=true)∧s=encs l
theorem Dec.inj{s:List Nat}{l l':List Int}(h:Dec s l)(h':Dec s l'):l=l':=zE2 h.1 h'.1 (h.2.symm.trans h'.2)
theorem Dec.nil:Dec [] []:=⟨fun c h=>absurd h List.not_mem_nil,rfl⟩
def Fst1(s:List Nat)(c:Int):Prop:=zb1 c=true∧∃r,s=encN c++r
theorem Dec.more{s1 r:List Nat}{l1:List Int}{c:Int}(h:Dec s1 l1)(hw:zb1 c=true):Dec (s1++encN c) (l1++[c]):=by
 refine⟨fun x hx=>?_,by rw[zE3,zE1,h.2]⟩;rcases List.mem_append.1 hx with hx|hx
 ·exact h.1 x hx
 ·rw[List.mem_singleton.1 hx];exact hw
theorem Dec.bad{s1 r:List Nat}{l1:List Int}(h:Dec s1 l1)(hr:r≠[])(hn:∀c,¬Fst1 r c)(l:List Int):¬Dec (s1++r) l:=fun h'=>by
 have h1:=h'.2;rw[h.2]at h1;obtain⟨l2,rfl,h2⟩:=zub h.1 h'.1 h1;cases l2 with
 |nil=>exact hr h2
 |cons c l2=>exact hn c ⟨h'.1 c (by simp),encs l2,h2⟩
end
namespace Sp
def VOk(r:List (Int×Int)):Prop:=(r.length=1∧∀p,r[0]? =some p→p.2≤127)∨(r.length=2∧∀p,r[0]? =some p→192≤p.1∧p.2≤223)∨(r.length=3∧∀p,r[0]? =some p→224≤p.1∧p.2≤239)∨(r.length=4∧∀p,r[0]? =some p→240≤p.1)
theorem zKd{lo hi:Int}(h:lo≤hi)(hk:Cls lo hi):VOk (zh0 lo hi):=by
 rcases zki h hk with⟨a,b,e⟩|⟨a,b,e⟩|⟨a,b,e⟩|⟨a,b,e⟩<;>rw[e]
 ·exact .inl ⟨rfl,fun p hp=>by injection hp with hp;subst hp;simp only;omega⟩
 ·exact .inr (.inl ⟨rfl,fun p hp=>by injection hp with hp;subst hp;simp only;omega⟩)
 ·exact .inr (.inr (.inl ⟨rfl,fun p hp=>by injection hp with hp;subst hp;simp only;omega⟩))
 ·exact .inr (.inr (.inr ⟨rfl,fun p hp=>by injection hp with hp;subst hp;simp only;omega⟩))
theorem zK6{lo hi:Int}(h:lo≤hi)(hk:Cls lo hi):∀r∈zbh lo hi,VOk r:=by
 refine zk6 (motive:=fun lo hi=>∀r∈zbh lo hi,VOk r) ?_ ?_ lo hi h hk
 ·intro lo hi c h1 hk hc h2 h3 a b r hr
  rw[zc9 h1 hc,List.mem_append]at hr;exact hr.elim (a r) (b r)
 ·intro lo hi h1 hk hc r hr
  rw[zdb hc,List.mem_singleton]at hr;subst hr;exact zKd h1 hk
theorem zvf{lo hi x y:Int}(hc:∀a b,x≤a→b≤y→Cls a b):∀r∈part lo hi x y,VOk r:=by
 unfold part;split
 ·intro r hr
  exact zK6 ‹_› (hc _ _ (by omega) (by omega)) r hr
 ·intro r hr;cases hr
theorem zsd(lo hi:Int):allP lo hi=part (max lo 0) (min hi 1114111) 0 127++(part (max lo 0) (min hi 1114111) 128 2047++(part (max lo 0) (min hi 1114111) 2048 55295++(part (max lo 0) (min hi 1114111) 57344 65535++part (max lo 0) (min hi 1114111) 65536 1114111))):=by
 unfold allP upto;simp
theorem zL1(lo hi:Int):∀r∈allP lo hi,VOk r:=by
 intro r hr
 rw[zsd]at hr;simp only[List.mem_append]at hr;rcases hr with h|h|h|h|h
 ·exact zvf (fun a b h1 h2=>by unfold Cls;omega) r h
 ·exact zvf (fun a b h1 h2=>by unfold Cls;omega) r h
 ·exact zvf (fun a b h1 h2=>by unfold Cls;omega) r h
 ·exact zvf (fun a b h1 h2=>by unfold Cls;omega) r h
 ·exact zvf (fun a b h1 h2=>by unfold Cls;omega) r h
theorem zJe(c:Int):(allP c c).length≤1:=by
 have k:∀c:Int,zbh c c=[zh0 c c]:=fun c=>zdb (by
  unfold cutC;simp)
 have p:∀x y:Int,(part (max c 0) (min c 1114111) x y).length=if x≤c∧c≤y∧0≤c∧c≤1114111 then 1 else 0:=fun x y=>by
  unfold part;split
  ·rename_i h
   rw[show max (max c 0) x=c by omega,show min (min c 1114111) y=c by omega,k,if_pos (by omega)];rfl
  ·rw[if_neg (by omega)];rfl
 rw[zsd];simp only[List.length_append,p];repeat' split
 all_goals omega
end Sp
section
open Sp
def szN(b:Nat):Nat:=if b<192 then 1 else if b<224 then 2 else if b<240 then 3 else 4
def Seg(u:List Nat):Prop:=∃b t,u=b::t∧(b::t).length=szN b
def Prt(u:List Nat):Prop:=∃b t,u=b::t∧(b::t).length<szN b
theorem zFf{r:List (Int×Int)}(h:VOk r){p:Int×Int}{b:Nat}(hp:r[0]? =some p)(h1:p.1≤(b:Int))(h2:(b:Int)≤p.2):r.length=szN b:=by
 unfold szN;rcases h with⟨e,k⟩|⟨e,k⟩|⟨e,k⟩|⟨e,k⟩<;>have:=k p hp<;>rw[e]
 ·rw[if_pos (by omega)]
 ·rw[if_neg (by omega),if_pos (by omega)]
 ·rw[if_neg (by omega),if_neg (by omega),if_pos (by omega)]
 ·rw[if_neg (by omega),if_neg (by omega),if_neg (by omega)]
theorem zIg{lo hi:Int}{r:List (Int×Int)}(hr:r∈allP lo hi){u:List Nat}(hf:fitN r u):Seg u:=by
 have hl:=z1j hf;cases r with
 |nil=>exact absurd rfl (zGe lo hi _ hr)
 |
  cons p r=>
  cases u with
  |nil=>exact hf.elim
  |cons b t=>exact⟨b,t,rfl,by rw[←hl];exact zFf (zL1 lo hi _ hr) (p:=p) rfl hf.1 hf.2.1⟩
theorem z9d{c:Int}(hw:zb1 c=true):Seg (encN c):=by
 rcases zna hw with⟨_,_,e⟩|⟨_,_,a,b,e,_⟩|⟨_,_,a,b,d,e,_⟩|⟨_,_,a,b,d,f,e,_⟩<;>rw[e]<;>refine⟨_,_,rfl,?_⟩<;>unfold szN
 ·rw[if_pos (by omega)];rfl
 ·rw[if_neg (by omega),if_pos (by omega)];rfl
 ·rw[if_neg (by omega),if_neg (by omega),if_pos (by omega)];rfl
 ·rw[if_neg (by omega),if_neg (by omega),if_neg (by omega)];rfl
theorem z8a{lo hi:Int}{u:List Nat}{y:Nat}:∀{rs':List (List (Int×Int))}{N:Nat},(∀r∈rs',r∈allP lo hi)→zg2 N rs' u y→Prt u
 |[],_,_,h=>h.elim
 |
  r::rs',N,hs,h=>by
  rcases h with⟨h1,h2,_,h4⟩|h
  ·have hrm:=hs r (List.mem_cons_self ..);cases u with
   |nil=>simp at h1
   |
    cons b t=>
    cases r with
    |nil=>simp at h2
    |
     cons p r=>
     have h5:fitN (p::r.take t.length) (b::t):=h4;refine⟨b,t,rfl,?_⟩;rw[←zFf (zL1 lo hi _ hrm) (p:=p) (b:=b) rfl h5.1 h5.2.1];exact h2
  ·exact z8a (fun r h=>hs r (List.mem_cons_of_mem _ h)) h
theorem z6i{u v a b:List Nat}(hu:Seg u)(hv:Seg v)(h:u++a=v++b):u=v∧a=b:=by
 obtain⟨x,t,rfl,h1⟩:=hu;obtain⟨y,s,rfl,h2⟩:=hv;have e:x=y:=by
  simp only[List.cons_append]at h;injection h
 subst e;exact List.append_inj h (h1.trans h2.symm)
theorem zxh{u a v:List Nat}(hu:Seg u)(hv:Prt v)(h:u++a=v):False:=by
 obtain⟨x,t,rfl,h1⟩:=hu;obtain⟨y,s,rfl,h2⟩:=hv;have e:x=y:=by
  simp only[List.cons_append]at h;injection h
 subst e;have:=congrArg List.length h;rw[List.length_append]at this;omega
theorem zv7{u:List Nat}(h:Seg u):u≠[]:=by
 obtain⟨b,t,rfl,_⟩:=h;simp
theorem zFk{u:List Nat}(h:Prt u):u≠[]:=by
 obtain⟨b,t,rfl,_⟩:=h;simp
abbrev zc0:=List (List (List (Int×Int)))
def Sg:zc0→List Nat→Prop
 |[],t=>t=[]
 |rs::rss,t=>∃u v,t=u++v∧(∃r∈rs,fitN r u)∧Sg rss v
def OkR(rss:zc0):Prop:=∀rs∈rss,∃lo hi,rs=allP lo hi
theorem OkR.head{rs:List (List (Int×Int))}{rss:zc0}(h:OkR (rs::rss)):∃lo hi,rs=allP lo hi:=h rs (List.mem_cons_self ..)
theorem OkR.tail{rs:List (List (Int×Int))}{rss:zc0}(h:OkR (rs::rss)):OkR rss:=fun x hx=>h x (List.mem_cons_of_mem _ hx)
theorem OkR.seg{rs:List (List (Int×Int))}{rss:zc0}(h:OkR (rs::rss)){u:List Nat}(hf:∃r∈rs,fitN r u):Seg u:=by
 obtain⟨lo,hi,rfl⟩:=h.head;obtain⟨r,hr,hf⟩:=hf;exact zIg hr hf
theorem at_one:∀{rss:zc0},OkR rss→∀{k k':Nat}{a b u v:List Nat},k≤rss.length→k'≤rss.length→Sg (rss.take k) a→Sg (rss.take k') b→(u=[]∨Prt u)→(v=[]∨Prt v)→a++u=b++v→k=k'∧a=b∧u=v
 |
  [],_,k,k',a,b,u,v,hk,hk',ha,hb,_,_,h=>by
  rw[List.take_nil]at ha hb;have ha:a=[]:=ha;have hb:b=[]:=hb;subst ha hb;simp only[List.length_nil]at hk hk';exact⟨by omega,rfl,h⟩
 |
  rs::rss,hr,0,0,a,b,u,v,_,_,ha,hb,_,_,h=>by
  have ha:a=[]:=ha;have hb:b=[]:=hb;subst ha hb;exact⟨rfl,rfl,h⟩
 |
  rs::rss,hr,0,k'+1,a,b,u,v,_,_,ha,hb,hu,_,h=>by
  have ha:a=[]:=ha;subst ha;obtain⟨x,y,rfl,hx,_⟩:=hb;have hs:=hr.seg hx;rcases hu with rfl|hu
  ·exfalso
   rw[List.append_assoc]at h;exact zv7 hs (List.append_eq_nil_iff.1 h.symm).1
  ·exfalso
   rw[List.append_assoc]at h;exact zxh hs hu h.symm
 |
  rs::rss,hr,k+1,0,a,b,u,v,_,_,ha,hb,_,hv,h=>by
  have hb:b=[]:=hb;subst hb;obtain⟨x,y,rfl,hx,_⟩:=ha;have hs:=hr.seg hx;rcases hv with rfl|hv
  ·exfalso
   rw[List.append_assoc]at h;exact zv7 hs (List.append_eq_nil_iff.1 h).1
  ·exfalso
   rw[List.append_assoc]at h;exact zxh hs hv h
 |
  rs::rss,hr,k+1,k'+1,a,b,u,v,hk,hk',ha,hb,hu,hv,h=>by
  obtain⟨x,y,rfl,hx,hy⟩:=ha;obtain⟨x',y',rfl,hx',hy'⟩:=hb;rw[List.append_assoc,List.append_assoc]at h;obtain⟨rfl,h2⟩:=z6i (hr.seg hx) (hr.seg hx') h;obtain⟨rfl,rfl,rfl⟩:=at_one hr.tail (by simpa using hk) (by simpa using hk') hy hy' hu hv h2;exact⟨rfl,rfl,rfl⟩
theorem zAj:∀{rss:zc0},OkR rss→∀{k:Nat}{a b u v:List Nat},k<rss.length→Sg (rss.take k) a→(u=[]∨Prt u)→Sg rss b→a++u=b++v→False
 |[],_,k,_,_,_,_,hk,_,_,_,_=>by simp at hk
 |
  rs::rss,hr,0,a,b,u,v,_,ha,hu,hb,h=>by
  have ha:a=[]:=ha;subst ha;obtain⟨x,y,rfl,hx,_⟩:=hb;have hs:=hr.seg hx;rw[List.append_assoc]at h;rcases hu with rfl|hu
  ·exact zv7 hs (List.append_eq_nil_iff.1 h.symm).1
  ·exact zxh hs hu h.symm
 |
  rs::rss,hr,k+1,a,b,u,v,hk,ha,hu,hb,h=>by
  obtain⟨x,y,rfl,hx,hy⟩:=ha;obtain⟨x',y',rfl,hx',hy'⟩:=hb;rw[List.append_assoc,List.append_assoc]at h;obtain⟨rfl,h2⟩:=z6i (hr.seg hx) (hr.seg hx') h;exact zAj hr.tail (by simpa using hk) hy hu hy' h2
def rowsOf(q:List (Int×Int)):zc0:=q.map fun p=>allP p.1 p.2
theorem zo2(q:List (Int×Int)):OkR (rowsOf q):=fun rs h=>by
 obtain⟨p,_,rfl⟩:=List.mem_map.1 h;exact⟨_,_,rfl⟩
def fitQ:List (Int×Int)→List Int→Prop
 |[],_=>True
 |p::q,c::l=>p.1≤c∧c≤p.2∧fitQ q l
 |_,_=>False
theorem zFg:∀(q:List (Int×Int)){l:List Int},(∀c∈l,zb1 c=true)→(Sg (rowsOf q) (encs l)↔l.length=q.length∧fitQ q l)
 |[],[],_=>⟨fun _=>⟨rfl,trivial⟩,fun _=>rfl⟩
 |
  [],c::l,hw=>by
  constructor
  ·intro h
   have h:encN c++encs l=[]:=h;exact absurd (List.append_eq_nil_iff.1 h).1 (zv7 (z9d (hw c (List.mem_cons_self ..))))
  ·rintro⟨h,_⟩;simp at h
 |
  p::q,[],_=>by
  refine⟨?_,fun h=>h.2.elim⟩;rintro⟨x,y,h,hx,_⟩;exact absurd (List.append_eq_nil_iff.1 h.symm).1 (zv7 ((zo2 (p::q)).seg hx))
 |
  p::q,c::l,hw=>by
  have hc:=hw c (List.mem_cons_self ..);have hl:=fun d hd=>hw d (List.mem_cons_of_mem c hd)
  have e:encs (c::l)=encN c++encs l:=rfl;have hf:(∃r∈allP p.1 p.2,fitN r (encN c))↔p.1≤c∧c≤p.2:=zF6 hc;have ih:=zFg q hl;rw[e];constructor
  ·rintro⟨x,y,h,hx,hy⟩;obtain⟨rfl,rfl⟩:=z6i (z9d hc) ((zo2 (p::q)).seg hx) h;obtain⟨h1,h2⟩:=ih.1 hy;obtain⟨h3,h4⟩:=hf.1 hx;exact⟨by rw[List.length_cons,List.length_cons,h1],h3,h4,h2⟩
  ·rintro⟨h1,h2,h3,h4⟩;exact⟨encN c,encs l,rfl,hf.2 ⟨h2,h3⟩,ih.2 ⟨by simpa using h1,h4⟩⟩
end
section
open Sp
def noE:Edge:=fun _ _ _=>False
theorem zI3{E:Edge}{x y:Nat}{t:List Nat}:Way (orE E noE) x t y↔Way E x t y:=Way.iff fun _ _ _=>⟨fun h=>h.elim id False.elim,.inl⟩
theorem zG4(n:Nat):InE noE n:=fun _ _ _ h=>h.elim
theorem zsg(l:List Lst)(x:Nat)(a:Arc3):(zde l x a).map (·.fin)=l.map (·.fin):=by
 apply List.ext_getElem?
 intro j
 rw[List.getElem?_map,List.getElem?_map];by_cases e:x=j
 ·subst e;cases h:l[x]? with
  |
   none=>
   rw[List.getElem?_eq_none (by rw[zce];exact List.getElem?_eq_none_iff.1 h)]
  |some s=>rw[zi5 _ h];rfl
 ·rw[zi4 _ e]
theorem zok:∀(r:List (Int×Int)) (l:List Lst) (a b:Nat),(leadRow l a b r).map (·.fin)=l.map (·.fin)++List.replicate (r.length-1) false
 |[],l,a,b=>by simp[leadRow]
 |
  [p],l,a,b=>by
  have:=zsg l a (p.1,p.2,(b:Int));simp[leadRow,this]
 |
  p::q::r,l,a,b=>by
  rw[leadRow,zok (q::r),zsg,List.map_append,List.append_assoc];simp only[List.length_cons,Nat.add_sub_cancel,List.map_cons,List.map_nil];rfl
theorem zmd:∀(rs:List (List (Int×Int))) (l:List Lst) (a b:Nat),(za6 l a b rs).map (·.fin)=l.map (·.fin)++List.replicate (zj2 rs) false
 |[],l,a,b=>by simp[za6,zj2]
 |
  r::rs,l,a,b=>by
  show(za6 (leadRow l a b r) a b rs).map (·.fin)=_;rw[zmd rs,zok,List.append_assoc,zj2,List.replicate_append_replicate]
theorem zIi{l:List Lst}{a b:Nat}{rs:List (List (Int×Int))}{z:Nat}:(∃s,(za6 l a b rs)[z]? =some s∧s.fin=true)↔∃s,l[z]? =some s∧s.fin=true:=by
 have k:∀(m:List Lst),(∃s,m[z]? =some s∧s.fin=true)↔(m.map (·.fin))[z]? =some true:=fun m=>by
  rw[List.getElem?_map];exact Option.map_eq_some_iff.symm
 rw[k,k,zmd];by_cases h:z<(l.map (·.fin)).length
 ·rw[List.getElem?_append_left h]
 ·rw[List.getElem?_append_right (by omega),List.getElem?_eq_none (l:=l.map (·.fin)) (by omega),List.getElem?_replicate];split
  ·simp
  ·simp
def endS:Lst:=⟨true,[],[]⟩
end
section
def OvT(l:List Lst)(B:List Bool)(c:Int)(i k x:Nat):Prop:=∃(z:Nat) (s:Lst),B[z]? =some true∧l[z]? =some s∧((z<i∧∃a∈s.arcs,a.1≤c∧c≤a.2.1∧a.2.2=(x:Int))∨(z=i∧∃a∈s.arcs.take k,a.1≤c∧c≤a.2.1∧a.2.2=(x:Int)))
structure OvR(l:List Lst)(B:List Bool)(c:Int)(L:List Bool)(i k:Nat):Prop where
 len:L.length=l.length
 iff:∀x:Nat,L[x]? =some true↔OvT l B c i k x
theorem OvR.start(l:List Lst)(B:List Bool)(c:Int):OvR l B c (List.replicate l.length false) 0 0:=by
 refine⟨List.length_replicate,fun x=>⟨fun h=>?_,fun h=>?_⟩⟩
 ·rw[List.getElem?_replicate]at h;split at h<;>cases h
 ·obtain⟨z,s,_,_,h1|⟨_,a,ha,_⟩⟩:=h
  ·omega
  ·simp at ha
section
variable {l:List Lst}{B L:List Bool}{c:Int}{i k:Nat}{s:Lst}{a:Arc3}
theorem OvT.one(hs:l[i]? =some s)(hb:B[i]? =some true)(ha:s.arcs[k]? =some a)(x:Nat):OvT l B c i (k+1) x↔OvT l B c i k x∨(a.1≤c∧c≤a.2.1∧a.2.2=(x:Int)):=by
 have ht:s.arcs.take (k+1)=s.arcs.take k++[a]:=by rw[List.take_add_one,ha];rfl
 constructor
 ·rintro⟨z,s',h1,h2,h3|⟨rfl,b,hb',h4⟩⟩
  ·exact .inl ⟨z,s',h1,h2,.inl h3⟩
  ·rw[hs]at h2;injection h2 with h2
   subst h2;rw[ht]at hb';rcases List.mem_append.1 hb' with hb'|hb'
   ·exact .inl ⟨z,s,h1,hs,.inr ⟨rfl,b,hb',h4⟩⟩
   ·rw[List.mem_singleton.1 hb']at h4;exact .inr h4
 ·rintro(⟨z,s',h1,h2,h3|⟨rfl,b,hb',h4⟩⟩|h4)
  ·exact⟨z,s',h1,h2,.inl h3⟩
  ·rw[hs]at h2;injection h2 with h2
   subst h2;exact⟨z,s,h1,hs,.inr ⟨rfl,b,by rw[ht];exact List.mem_append_left _ hb',h4⟩⟩
  ·exact⟨i,s,hb,hs,.inr ⟨rfl,a,by rw[ht];exact List.mem_append_right _ (List.mem_singleton.2 rfl),h4⟩⟩
theorem OvR.skip(h:OvR l B c L i k)(hs:l[i]? =some s)(hb:B[i]? =some true)(ha:s.arcs[k]? =some a)(hn:¬(a.1≤c∧c≤a.2.1)):OvR l B c L i (k+1):=by
 refine⟨h.len,fun x=>?_⟩;rw[OvT.one hs hb ha,h.iff];exact⟨.inl,fun h=>h.elim id fun h=>absurd ⟨h.1,h.2.1⟩ hn⟩
theorem OvR.take{t:Nat}(h:OvR l B c L i k)(hs:l[i]? =some s)(hb:B[i]? =some true)(ha:s.arcs[k]? =some a)(hn:a.1≤c∧c≤a.2.1)(ht:a.2.2=(t:Int))(htl:t<l.length):OvR l B c (L.set t true) i (k+1):=by
 refine⟨by rw[List.length_set];exact h.len,fun x=>?_⟩;rw[OvT.one hs hb ha,←h.iff,List.getElem?_set];by_cases e:t=x
 ·subst e;rw[if_pos rfl,if_pos (by rw[h.len];exact htl)];exact⟨fun _=>.inr ⟨hn.1,hn.2,ht⟩,fun _=>rfl⟩
 ·rw[if_neg e];exact⟨.inl,fun h=>h.elim id fun h=>absurd (by have:=h.2.2;omega) e⟩
theorem OvR.next(h:OvR l B c L i k)(he:∀s,l[i]? =some s→B[i]? =some true→s.arcs.length≤k):OvR l B c L (i+1) 0:=by
 refine⟨h.len,fun x=>?_⟩;rw[h.iff];constructor
 ·rintro⟨z,s,h1,h2,⟨h3,h4⟩|⟨rfl,b,hb,h4⟩⟩
  ·exact⟨z,s,h1,h2,.inl ⟨by omega,h4⟩⟩
  ·exact⟨z,s,h1,h2,.inl ⟨by omega,b,List.mem_of_mem_take hb,h4⟩⟩
 ·rintro⟨z,s,h1,h2,⟨h3,h4⟩|⟨_,b,hb,_⟩⟩
  ·by_cases e:z<i
   ·exact⟨z,s,h1,h2,.inl ⟨e,h4⟩⟩
   ·obtain rfl:z=i:=by omega
    obtain⟨a,ha,h5⟩:=h4;exact⟨z,s,h1,h2,.inr ⟨rfl,a,by rw[List.take_of_length_le (he s h2 h1)];exact ha,h5⟩⟩
  ·simp at hb
end
theorem OvR.done{l:List Lst}{B L:List Bool}{c:Nat}(h:OvR l B (c:Int) L l.length 0):(fun y:Nat=>L[y]? =some true)=ovP l (fun y=>B[y]? =some true) c:=by
 funext x
 apply propext
 show L[x]? =some true↔_;rw[h.iff];constructor
 ·rintro⟨z,s,h1,h2,⟨h3,h4⟩|⟨_,b,hb,_⟩⟩
  ·exact⟨z,s,h1,h2,h4⟩
  ·simp at hb
 ·rintro⟨z,s,h1,h2,h4⟩;exact⟨z,s,h1,h2,.inl ⟨(List.getElem?_eq_some_iff.1 h2).1,h4⟩⟩
end
section
open Go.RowKit Go.Maps
def runZ(l:List Lst)(s:List Nat):Nat→Prop:=runP l (Clo l fun x=>x=0) s
noncomputable def zg9(l:List Lst)(t:List UInt8):Bool:=endB l (runZ l (zaf t))
end
section
open Go.RowKit
open Sp
theorem LGood.arc_add{l:List Lst}{a b:Nat}{lo hi:Int}(h:LGood l)(hb:b<l.length)(h0:0≤lo)(h1:lo≤hi)(h2:hi≤255):LGood (zde l a (lo,hi,(b:Int))):=by
 have hlen:=zce l a (lo,hi,(b:Int));have key:∀s∈zde l a (lo,hi,(b:Int)),∃s0∈l,s.free=s0.free∧∀z∈s.arcs,z∈s0.arcs∨z=(lo,hi,(b:Int)):=by
  intro s hs
  obtain⟨j,hj⟩:=List.mem_iff_getElem?.1 hs;by_cases e:a=j
  ·subst e;have hja:a<l.length:=by rw[←hlen];exact(List.getElem?_eq_some_iff.1 hj).1
   rw[zi5 _ (List.getElem?_eq_getElem hja)]at hj;injection hj with hj
   subst hj;refine⟨l[a],List.getElem_mem _,rfl,fun z hz=>?_⟩;rcases List.mem_append.1 hz with hz|hz
   ·exact .inl hz
   ·exact .inr (List.mem_singleton.1 hz)
  ·rw[zi4 _ e]at hj;exact⟨s,List.mem_of_getElem? hj,rfl,fun z hz=>.inl hz⟩
 refine⟨fun e=>?_,fun s hs z hz=>?_,fun s hs t ht=>?_⟩
 ·have:=congrArg List.length e;rw[hlen,List.length_nil]at this;omega
 ·obtain⟨s0,hs0,_,k⟩:=key s hs;rw[hlen];rcases k z hz with hz|rfl
  ·exact h.arc s0 hs0 z hz
  ·exact⟨h0,h1,h2,by show 0≤(b:Int);omega,by show(b:Int)<_;omega⟩
 ·obtain⟨s0,hs0,k,_⟩:=key s hs;rw[hlen];exact h.fre s0 hs0 t (by rw[←k];exact ht)
theorem LGood.bare{l:List Lst}(h:LGood l):LGood (l++[⟨false,[],[]⟩]):=by
 have hlen:((l++[⟨false,[],[]⟩]:List Lst).length:Int)=(l.length:Int)+1:=by rw[List.length_append];rfl
 refine⟨by simp,fun s hs z hz=>?_,fun s hs t ht=>?_⟩
 ·rcases List.mem_append.1 hs with hs|hs
  ·have:=h.arc s hs z hz;omega
  ·rw[List.mem_singleton]at hs;subst hs;cases hz
 ·rcases List.mem_append.1 hs with hs|hs
  ·have:=h.fre s hs t ht;omega
  ·rw[List.mem_singleton]at hs;subst hs;cases ht
theorem LGood.row:∀(r:List (Int×Int)){l:List Lst}{a b:Nat},LGood l→b<l.length→(∀p∈r,0≤p.1∧p.1≤p.2∧p.2≤255)→LGood (leadRow l a b r)
 |[],_,_,_,h,_,_=>h
 |
  [p],l,a,b,h,hb,hr=>by
  obtain⟨h0,h1,h2⟩:=hr p (List.mem_cons_self ..);exact h.arc_add hb h0 h1 h2
 |
  p::q::r,l,a,b,h,hb,hr=>by
  obtain⟨h0,h1,h2⟩:=hr p (List.mem_cons_self ..);rw[leadRow];refine LGood.row (q::r) (h.bare.arc_add (b:=l.length) ?_ h0 h1 h2) ?_ fun z hz=>hr z (List.mem_cons_of_mem _ hz)
  ·rw[List.length_append];simp
  ·rw[zce,List.length_append];omega
theorem LGood.rows:∀(rs:List (List (Int×Int))){l:List Lst}{a b:Nat},LGood l→b<l.length→(∀r∈rs,∀p∈r,0≤p.1∧p.1≤p.2∧p.2≤255)→LGood (za6 l a b rs)
 |[],_,_,_,h,_,_=>h
 |
  r::rs,l,a,b,h,hb,hr=>by
  show LGood (za6 (leadRow l a b r) a b rs);exact LGood.rows rs (h.row r hb (hr r (List.mem_cons_self ..))) (by rw[zd8];omega) fun q hq=>hr q (List.mem_cons_of_mem _ hq)
theorem zxd{l:List Lst}{dd out:List St}(hl:zcg (auOf dd) 0 out)(hq:Leq (auOf dd) 0 ⟨finS l,stepS l⟩ (setL l.length (Clo l fun x=>x=0)))(hlen:out.length≤20000)(t:List UInt8):zee out t=zg9 l t:=by
 have hg:=hl.good hlen;unfold zee;rw[decide_eq_true ((ze1 _).2 hg),Bool.true_and,(hl.leq.trans hq) (zaf t),zB1 l (zaf t) _ fun c hc=>by
  unfold zaf at hc;obtain⟨b,_,rfl⟩:=List.mem_map.1 hc;exact b.toNat_lt]
 rfl
end
end Go.Proofs.YtaociahafamncaaGreatDoor
