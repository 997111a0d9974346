/- Folded. -/
import Derived.Test.YtaociahafamncaaGreatDoorHM27
set_option maxRecDepth 100000
set_option maxHeartbeats 40000000
namespace Go.Proofs.YtaociahafamncaaGreatDoor
section
open Sp
def zbg:List Lst→Nat→zc0→List Lst
 |l,_,[]=>l
 |l,i,rs::rss=>zbg (za6 l i (i+1) rs) (i+1) rss
def chE:Nat→zc0→Edge
 |_,[]=>noE
 |i,rs::rss=>orE (oneE i (i+1) fun t=>∃r∈rs,fitN r t) (chE (i+1) rss)
def offN:Nat→zc0→Nat→Nat
 |N,rs::rss,k+1=>offN (N+zj2 rs) rss k
 |N,_,_=>N
theorem zy2:∀{rss:zc0}{N k:Nat},N≤offN N rss k
 |[],_,k=>by cases k<;>exact Nat.le_refl _
 |_::_,_,0=>Nat.le_refl _
 |rs::rss,N,k+1=>Nat.le_trans (Nat.le_add_right N (zj2 rs)) (zy2 (rss:=rss) (k:=k))
theorem zA9:∀(rss:zc0) (i:Nat),InE (chE i rss) (i+rss.length+1)
 |[],_=>zG4 _
 |
  rs::rss,i=>by
  have h:=zA9 rss (i+1);rw[List.length_cons];exact(InE.one (by omega) (by omega)).or (h.more (by omega))
theorem OkR.ne{rs:List (List (Int×Int))}{rss:zc0}(h:OkR (rs::rss)):∀r∈rs,r≠[]:=by
 obtain⟨lo,hi,rfl⟩:=h.head;exact zGe lo hi
theorem z0c{E A B X:Edge}{x z:Nat}{s:List Nat}:Way (orE E (orE A (orE B X))) x s z↔Way (orE E (orE (orE A B) X)) x s z:=Way.iff fun _ _ _=>
 ⟨fun h=>h.elim .inl fun h=>h.elim (fun h=>.inr (.inl (.inl h))) fun h=>h.elim (fun h=>.inr (.inl (.inr h))) fun h=>.inr (.inr h),
  fun h=>h.elim .inl fun h=>h.elim (fun h=>h.elim (fun h=>.inr (.inl h)) fun h=>.inr (.inr (.inl h))) fun h=>.inr (.inr (.inr h))⟩
theorem zpf:∀(rss:zc0) (l:List Lst) (i:Nat) (X:Edge),OkR rss→i+rss.length<l.length→InE (zag l) l.length→InE X l.length→∀{x z:Nat}{s:List Nat},x<l.length→z<l.length→
  (Way (orE (zag (zbg l i rss)) X) x s z↔Way (orE (zag l) (orE (chE i rss) X)) x s z)
 |[],l,i,X,_,_,_,_,x,z,s,_,_=>Way.iff fun _ _ _=>⟨fun h=>h.elim .inl fun h=>.inr (.inr h),fun h=>h.elim .inl fun h=>h.elim False.elim .inr⟩
 |
  rs::rss,l,i,X,hr,hi,hl,hX,x,z,s,hx,hz=>by
  rw[List.length_cons]at hi;have hlen:=zdc rs l i (i+1);show Way (orE (zag (zbg (za6 l i (i+1) rs) (i+1) rss)) X) x s z↔Way (orE (zag l) (orE (orE (oneE i (i+1) fun t=>∃r∈rs,fitN r t) (chE (i+1) rss)) X)) x s z;rw[zpf rss (za6 l i (i+1) rs) (i+1) X hr.tail (by omega) (zje rs l i (i+1) (by omega) (by omega) hl) (hX.more (by omega)) (by omega) (by omega),
   zhf rs l i (i+1) (orE (chE (i+1) rss) X) hr.ne (by omega) (by omega) hl (((zA9 rss (i+1)).more (by omega)).or hX) hx hz,z0c]
theorem zx1:∀(rss:zc0) (l:List Lst) (i:Nat) (X:Edge),OkR rss→i+rss.length<l.length→InE (zag l) l.length→InE X l.length→∀{x y:Nat}{t:List Nat},x<l.length→l.length≤y→
  (Way (orE (zag (zbg l i rss)) X) x t y↔∃(k:Nat) (rs:List (List (Int×Int))) (t' u:List Nat),rss[k]? =some rs∧t=t'++u∧Way (orE (zag l) (orE (chE i rss) X)) x t' (i+k)∧zg2 (offN l.length rss k) rs u y)
 |
  [],l,i,X,_,_,hl,hX,x,y,t,hx,hy=>by
  constructor
  ·intro h
   exfalso
   have key:∀{a b:Nat}{t:List Nat},Way (orE (zag l) X) a t b→a<l.length→b<l.length:=by
    intro a b t h
    induction h with
    |nil=>exact id
    |cons h1 _ ih=>exact fun _=>ih ((hl.or hX) _ _ _ h1).2
   have:=key (show Way (orE (zag l) X) x t y from h) hx;omega
  ·rintro⟨k,rs,_,_,h,_⟩;simp at h
 |
  rs::rss,l,i,X,hr,hi,hl,hX,x,y,t,hx,hy=>by
  rw[List.length_cons]at hi;have hlen:=zdc rs l i (i+1);have hl':=zje rs l i (i+1) (by omega) (by omega) hl;have hX':InE (orE (chE (i+1) rss) X) l.length:=((zA9 rss (i+1)).more (by omega)).or hX;have hw:∀{z:Nat}{s:List Nat},z<l.length→(Way (orE (zag (za6 l i (i+1) rs)) (orE (chE (i+1) rss) X)) x s z↔Way (orE (zag l) (orE (chE i (rs::rss)) X)) x s z):=fun{z s} hz=>by
   rw[zhf rs l i (i+1) (orE (chE (i+1) rss) X) hr.ne (by omega) (by omega) hl hX' hx hz,z0c];rfl
  show Way (orE (zag (zbg (za6 l i (i+1) rs) (i+1) rss)) X) x t y↔_;by_cases hyl:y<(za6 l i (i+1) rs).length
  ·rw[zpf rss (za6 l i (i+1) rs) (i+1) X hr.tail (by omega) hl' (hX.more (by omega)) (by omega) hyl,
    zD0 (by omega) (by omega) hl hX' hx hy]
   constructor
   ·rintro⟨t',u,rfl,h1,h2⟩;exact⟨0,rs,t',u,rfl,rfl,(hw (by omega)).1 h1,h2⟩
   ·rintro⟨k,rs',t',u,h0,rfl,h1,h2⟩;cases k with
    |
     zero=>
     injection h0 with h0
     subst h0;exact⟨t',u,rfl,(hw (by omega)).2 h1,h2⟩
    |
     succ k=>
     exfalso
     have h3:=(zke h2).1;have h4:l.length+zj2 rs≤offN l.length (rs::rss) (k+1):=zy2 (rss:=rss) (k:=k);omega
  ·rw[zx1 rss (za6 l i (i+1) rs) (i+1) X hr.tail (by omega) hl' (hX.more (by omega)) (by omega) (by omega)];constructor
   ·rintro⟨k,rs',t',u,h0,rfl,h1,h2⟩;have hk:=(List.getElem?_eq_some_iff.1 h0).1;refine⟨k+1,rs',t',u,h0,rfl,?_,?_⟩
    ·rw[show i+(k+1)=i+1+k by omega];exact(hw (by omega)).1 h1
    ·rw[hlen]at h2;exact h2
   ·rintro⟨k,rs',t',u,h0,rfl,h1,h2⟩;cases k with
    |
     zero=>
     exfalso
     injection h0 with h0
     subst h0;have h3:=(zke h2).2;have h4:offN l.length (rs::rss) 0=l.length:=rfl;omega
    |
     succ k=>
     have h0:rss[k]? =some rs':=h0;have hk:=(List.getElem?_eq_some_iff.1 h0).1;refine⟨k,rs',t',u,h0,rfl,?_,?_⟩
     ·rw[show i+1+k=i+(k+1) by omega];exact(hw (by omega)).2 h1
     ·rw[hlen];exact h2
theorem zi2:∀(rss:zc0) (l:List Lst) (i:Nat),OkR rss→l.length≤(zbg l i rss).length∧(zbg l i rss).length≤l.length+60*rss.length
 |[],_,_,_=>⟨Nat.le_refl _,by simp[zbg]⟩
 |
  rs::rss,l,i,hr=>by
  obtain⟨h1,h2⟩:=zi2 rss (za6 l i (i+1) rs) (i+1) hr.tail;rw[zdc]at h1 h2;have hm:zj2 rs≤60:=by
   obtain⟨lo,hi,rfl⟩:=hr.head;have k:∀{rs:List (List (Int×Int))},(∀r∈rs,r.length≤4)→zj2 rs≤3*rs.length:=by
    intro rs
    induction rs with
    |nil=>exact fun _=>Nat.le_refl _
    |
     cons r rs ih=>
     intro h
     have h1:=h r (List.mem_cons_self ..);have h2:=ih fun r hr=>h r (List.mem_cons_of_mem _ hr)
     rw[zj2,List.length_cons];omega
   have h2:=k fun r hr=>(all_ok lo hi r hr).2.1
   have h3:=Sp.all_len lo hi;omega
  rw[List.length_cons];show l.length≤(zbg (za6 l i (i+1) rs) (i+1) rss).length∧(zbg (za6 l i (i+1) rs) (i+1) rss).length≤_;omega
theorem zph:∀(rss:zc0) (l:List Lst) (i:Nat){z:Nat},(∃s,(zbg l i rss)[z]? =some s∧s.fin=true)↔∃s,l[z]? =some s∧s.fin=true
 |[],_,_,_=>Iff.rfl
 |rs::rss,l,i,_=>(zph rss (za6 l i (i+1) rs) (i+1)).trans zIi
theorem zs7:∀(rss:zc0) (l:List Lst) (i:Nat),OkR rss→i+rss.length<l.length→LGood l→LGood (zbg l i rss)
 |[],_,_,_,_,h=>h
 |
  rs::rss,l,i,hr,hi,h=>by
  rw[List.length_cons]at hi;have hlen:=zdc rs l i (i+1);refine zs7 rss _ _ hr.tail (by omega) (h.rows rs (by omega) ?_);obtain⟨lo,hi,rfl⟩:=hr.head;exact fun r hr=>(all_ok lo hi r hr).2.2
def zha(l:List Lst)(i:Nat):List Lst:=l.modify i fun s=>⟨s.fin,s.arcs++[(0,255,(i:Int))],s.free++[((i:Int)+1)]⟩
def stE(m:Nat):Edge:=fun x t y=>x=m∧((t=[]∧y=m+1)∨(y=m∧∃c:Nat,t=[c]∧c≤255))
theorem zk1(l:List Lst)(i:Nat):(zha l i).length=l.length:=List.length_modify ..
theorem zk2{l:List Lst}{a:Nat}{s:Lst}(h:l[a]? =some s):(zha l a)[a]? =some ⟨s.fin,s.arcs++[(0,255,(a:Int))],s.free++[((a:Int)+1)]⟩:=by
 unfold zha;rw[List.getElem?_modify,h];show some (if a=a then _ else _)=_;rw[if_pos rfl]
theorem zk0{l:List Lst}{a x:Nat}(h:a≠x):(zha l a)[x]? =l[x]? :=by
 unfold zha;rw[List.getElem?_modify];cases l[x]? with
 |none=>rfl
 |
  some s=>
  show some (if a=x then _ else _)=_;rw[if_neg h]
theorem z3c{l:List Lst}{a:Nat}(ha:a<l.length)(x:Nat)(t:List Nat)(y:Nat):zag (zha l a) x t y↔orE (zag l) (stE a) x t y:=by
 by_cases e:a=x
 ·subst e;obtain⟨s0,hs0⟩:∃s,l[a]? =some s:=⟨l[a],List.getElem?_eq_getElem ha⟩;have hs1:=zk2 hs0;constructor
  ·rintro⟨s,hs,h⟩;rw[hs1]at hs;injection hs with hs
   subst hs;rcases h with⟨h1,h2⟩|⟨c,rfl,z,hz,h1,h2,h3⟩
   ·rcases List.mem_append.1 h2 with h2|h2
    ·exact .inl ⟨s0,hs0,.inl ⟨h1,h2⟩⟩
    ·have h2:=List.mem_singleton.1 h2;exact .inr ⟨rfl,.inl ⟨h1,by omega⟩⟩
   ·rcases List.mem_append.1 hz with hz|hz
    ·exact .inl ⟨s0,hs0,.inr ⟨c,rfl,z,hz,h1,h2,h3⟩⟩
    ·rw[List.mem_singleton]at hz;subst hz;have h2:(c:Int)≤255:=h2;have h3:(a:Int)=(y:Int):=h3;exact .inr ⟨rfl,.inr ⟨by omega,c,rfl,by omega⟩⟩
  ·rintro(⟨s,hs,h⟩|⟨_,⟨rfl,rfl⟩|⟨rfl,c,rfl,h1⟩⟩)
   ·rw[hs0]at hs;injection hs with hs
    subst hs;rcases h with⟨h1,h2⟩|⟨c,rfl,z,hz,h1⟩
    ·exact⟨_,hs1,.inl ⟨h1,List.mem_append_left _ h2⟩⟩
    ·exact⟨_,hs1,.inr ⟨c,rfl,z,List.mem_append_left _ hz,h1⟩⟩
   ·exact⟨_,hs1,.inl ⟨rfl,List.mem_append_right _ (List.mem_singleton.2 (by omega))⟩⟩
   ·exact⟨_,hs1,.inr ⟨c,rfl,_,List.mem_append_right _ (List.mem_singleton.2 rfl),by show(0:Int)≤_;omega,by show(c:Int)≤255;omega,rfl⟩⟩
 ·unfold zag orE stE;rw[zk0 e];exact⟨.inl,fun h=>h.elim id fun h=>absurd h.1.symm e⟩
theorem z6f{l:List Lst}{a z:Nat}:(∃s,(zha l a)[z]? =some s∧s.fin=true)↔∃s,l[z]? =some s∧s.fin=true:=by
 by_cases e:a=z
 ·subst e;cases h:l[a]? with
  |
   none=>
   rw[List.getElem?_eq_none (by rw[zk1];exact List.getElem?_eq_none_iff.1 h)]
  |
   some s=>
   rw[zk2 h];constructor
   ·rintro⟨_,h1,h2⟩;injection h1 with h1
    subst h1;exact⟨s,rfl,h2⟩
   ·rintro⟨_,h1,h2⟩;injection h1 with h1
    subst h1;exact⟨_,rfl,h2⟩
 ·rw[zk0 e]
theorem z3b{l:List Lst}{a:Nat}(ha:a+1<l.length)(h:LGood l):LGood (zha l a):=by
 have hlen:=zk1 l a;have key:∀s∈zha l a,∃s0∈l,(∀z∈s.free,z∈s0.free∨z=(a:Int)+1)∧∀z∈s.arcs,z∈s0.arcs∨z=(0,255,(a:Int)):=by
  intro s hs
  obtain⟨j,hj⟩:=List.mem_iff_getElem?.1 hs;by_cases e:a=j
  ·subst e;have hja:a<l.length:=by omega
   rw[zk2 (List.getElem?_eq_getElem hja)]at hj;injection hj with hj
   subst hj;refine⟨l[a],List.getElem_mem _,fun z hz=>?_,fun z hz=>?_⟩
   ·rcases List.mem_append.1 hz with hz|hz
    ·exact .inl hz
    ·exact .inr (List.mem_singleton.1 hz)
   ·rcases List.mem_append.1 hz with hz|hz
    ·exact .inl hz
    ·exact .inr (List.mem_singleton.1 hz)
  ·rw[zk0 e]at hj;exact⟨s,List.mem_of_getElem? hj,fun z hz=>.inl hz,fun z hz=>.inl hz⟩
 refine⟨fun e=>?_,fun s hs z hz=>?_,fun s hs t ht=>?_⟩
 ·have:=congrArg List.length e;rw[hlen,List.length_nil]at this;omega
 ·obtain⟨s0,hs0,_,k⟩:=key s hs;rw[hlen];rcases k z hz with hz|rfl
  ·exact h.arc s0 hs0 z hz
  ·exact⟨by show(0:Int)≤0;omega,by show(0:Int)≤255;omega,by show(255:Int)≤255;omega,by show 0≤(a:Int);omega,by show(a:Int)<_;omega⟩
 ·obtain⟨s0,hs0,k,_⟩:=key s hs;rw[hlen];rcases k t ht with ht|rfl
  ·exact h.fre s0 hs0 t ht
  ·omega
def zcj(n:Nat):List Lst:=List.replicate n ⟨false,[],[]⟩++[endS]
theorem zd5(n:Nat):(zcj n).length=n+1:=by
 unfold zcj;rw[List.length_append,List.length_replicate];rfl
theorem zgd{n x:Nat}{s:Lst}(h:(zcj n)[x]? =some s):s.arcs=[]∧s.free=[]∧(s.fin=true↔x=n):=by
 unfold zcj at h;by_cases hx:x<n
 ·rw[List.getElem?_append_left (by rw[List.length_replicate];exact hx),List.getElem?_replicate,if_pos hx]at h;injection h with h
  subst h;exact⟨rfl,rfl,fun h=>(Bool.false_ne_true h).elim,fun h=>by omega⟩
 ·rw[List.getElem?_append_right (by rw[List.length_replicate];omega),List.length_replicate]at h;have hx2:=(List.getElem?_eq_some_iff.1 h).1;simp at hx2
  obtain rfl:x=n:=by omega
  rw[Nat.sub_self]at h;injection h with h
  subst h;exact⟨rfl,rfl,fun _=>rfl,fun _=>rfl⟩
theorem zm5{n x y:Nat}{t:List Nat}:¬zag (zcj n) x t y:=by
 rintro⟨s,hs,h⟩;obtain⟨h1,h2,_⟩:=zgd hs;rcases h with⟨_,h⟩|⟨_,_,a,h,_⟩
 ·rw[h2]at h;cases h
 ·rw[h1]at h;cases h
theorem z5b(n:Nat):LGood (zcj n):=by
 refine⟨fun e=>?_,fun s hs a ha=>?_,fun s hs a ha=>?_⟩
 ·have:=congrArg List.length e;rw[zd5]at this;simp at this
 ·obtain⟨j,hj⟩:=List.mem_iff_getElem?.1 hs;rw[(zgd hj).1]at ha;cases ha
 ·obtain⟨j,hj⟩:=List.mem_iff_getElem?.1 hs;rw[(zgd hj).2.1]at ha;cases ha
def zdh(rss:zc0)(star:Bool):List Lst:=if star then zha (zbg (zcj (rss.length+1)) 0 rss) rss.length else zbg (zcj rss.length) 0 rss
def xE(rss:zc0)(star:Bool):Edge:=if star then stE rss.length else noE
def endN(rss:zc0)(star:Bool):Nat:=if star then rss.length+1 else rss.length
theorem zuk{rss:zc0}{star:Bool}(hr:OkR rss){t:List Nat}{y:Nat}:Way (zag (zdh rss star)) 0 t y↔Way (orE (zag (zbg (zcj (endN rss star)) 0 rss)) (xE rss star)) 0 t y:=by
 cases star
 ·exact zI3.symm
 ·refine Way.iff fun x t y=>z3c ?_ x t y
  have h1:=(zi2 rss (zcj (rss.length+1)) 0 hr).1;rw[zd5]at h1;omega
theorem zJi(rss:zc0)(star:Bool):InE (xE rss star) (zcj (endN rss star)).length:=by
 rw[zd5];cases star
 ·exact zG4 _
 ·rintro x t y ⟨rfl,⟨_,rfl⟩|⟨rfl,_⟩⟩
  ·exact⟨by show rss.length<rss.length+1+1;omega,by show rss.length+1<rss.length+1+1;omega⟩
  ·exact⟨by show rss.length<rss.length+1+1;omega,by show rss.length<rss.length+1+1;omega⟩
theorem zug{rss:zc0}{star:Bool}:0+rss.length<(zcj (endN rss star)).length:=by
 rw[zd5];cases star
 ·show 0+rss.length<rss.length+1;omega
 ·show 0+rss.length<rss.length+1+1;omega
def endP(rss:zc0)(star:Bool)(v:List Nat)(y:Nat):Prop:=if star then(y=rss.length∨y=rss.length+1)∧∀c∈v,c≤255 else v=[]∧y=rss.length
theorem zJh{rss:zc0}{star:Bool}{v:List Nat}{y:Nat}:Way (xE rss star) rss.length v y↔endP rss star v y:=by
 cases star
 ·constructor
  ·intro h
   cases h with
   |nil=>exact⟨rfl,rfl⟩
   |cons h _=>exact h.elim
  ·rintro⟨rfl,rfl⟩;exact .nil _
 ·have key:∀{a y:Nat}{v:List Nat},Way (stE rss.length) a v y→(a=rss.length→(y=rss.length∨y=rss.length+1)∧∀c∈v,c≤255)∧(a=rss.length+1→v=[]∧y=a):=by
   intro a y v h
   induction h with
   |nil x=>exact⟨fun h=>⟨.inl h,fun c hc=>absurd hc List.not_mem_nil⟩,fun _=>⟨rfl,rfl⟩⟩
   |
    @cons x y z t u h1 _ ih=>
    obtain⟨rfl,⟨rfl,rfl⟩|⟨rfl,c,rfl,hc⟩⟩:=h1
    ·refine⟨fun _=>?_,fun h=>by omega⟩;obtain⟨rfl,rfl⟩:=ih.2 rfl;exact⟨.inr rfl,fun c hc=>absurd hc (by simp)⟩
    ·refine⟨fun _=>?_,fun h=>by omega⟩;obtain⟨h3,h4⟩:=ih.1 rfl;refine⟨h3,fun d hd=>?_⟩;rcases List.mem_cons.1 (show d∈c::u from hd)with rfl|hd
     ·exact hc
     ·exact h4 d hd
  constructor
  ·exact fun h=>(key h).1 rfl
  ·rintro⟨h1,h2⟩;have k:∀v:List Nat,(∀c∈v,c≤255)→Way (stE rss.length) rss.length v rss.length:=by
    intro v
    induction v with
    |nil=>exact fun _=>.nil _
    |cons c v ih=>exact fun h=>Way.cons (t:=[c]) ⟨rfl,.inr ⟨rfl,c,rfl,h c (List.mem_cons_self ..)⟩⟩ (ih fun d hd=>h d (List.mem_cons_of_mem _ hd))
   rcases h1 with rfl|rfl
   ·exact k v h2
   ·have:=(k v h2).trans (.one (y:=rss.length+1) (t:=[]) ⟨rfl,.inl ⟨rfl,rfl⟩⟩);rwa[List.append_nil]at this
theorem zAa:∀{rss:zc0}{i x y:Nat}{t:List Nat},chE i rss x t y→i≤x∧i<y
 |[],_,_,_,_,h=>h.elim
 |
  rs::rss,i,x,y,t,h=>by
  rcases h with⟨rfl,rfl,_⟩|h
  ·omega
  ·have:=zAa h;omega
theorem zA8:∀(rss:zc0) (i:Nat) (X:Edge),(∀x t y,X x t y→i+rss.length≤x∧i+rss.length≤y)→∀{t:List Nat}{y:Nat},Way (orE (chE i rss) X) i t y↔(∃k,k<rss.length∧y=i+k∧Sg (rss.take k) t)∨∃u v,t=u++v∧Sg rss u∧Way X (i+rss.length) v y
 |
  [],i,X,_,t,y=>by
  have e:Way (orE (chE i []) X) i t y↔Way X i t y:=Way.iff fun _ _ _=>⟨fun h=>h.elim False.elim id,.inr⟩
  rw[e];constructor
  ·exact fun h=>.inr ⟨[],t,rfl,rfl,h⟩
  ·rintro(⟨k,h,_⟩|⟨u,v,rfl,h,hw⟩)
   ·simp at h
   ·have h:u=[]:=h;subst h;exact hw
 |
  rs::rss,i,X,hX,t,y=>by
  rw[List.length_cons]at hX;have ih:=fun{t:List Nat}{y:Nat}=>zA8 rss (i+1) X (fun x t y h=>by have:=hX x t y h;omega) (t:=t) (y:=y)
  have hup:∀{a b:Nat}{t:List Nat},Way (orE (chE i (rs::rss)) X) a t b→i+1≤a→Way (orE (chE (i+1) rss) X) a t b:=by
   intro a b t h
   induction h with
   |nil=>exact fun _=>.nil _
   |
    cons h1 _ ih=>
    intro ha
    rcases h1 with(⟨rfl,_⟩|h1)|h1
    ·omega
    ·have:=zAa h1;exact .cons (.inl h1) (ih (by omega))
    ·have:=hX _ _ _ h1;exact .cons (.inr h1) (ih (by omega))
  have hdn:∀{a b:Nat}{t:List Nat},Way (orE (chE (i+1) rss) X) a t b→Way (orE (chE i (rs::rss)) X) a t b:=fun h=>h.mono fun _ _ _ h=>h.elim (fun h=>.inl (.inr h)) .inr
  constructor
  ·intro h
   cases h with
   |nil=>exact .inl ⟨0,by simp,rfl,rfl⟩
   |
    @cons _ z _ u v h1 h2=>
    rcases h1 with(⟨_,rfl,hf⟩|h1)|h1
    ·rcases ih.1 (hup h2 (Nat.le_refl _))with⟨k,hk,rfl,hs⟩|⟨u',v',rfl,hs,hw⟩
     ·exact .inl ⟨k+1,by rw[List.length_cons];omega,by omega,u,v,rfl,hf,hs⟩
     ·refine .inr ⟨u++u',v',by rw[List.append_assoc],⟨u,u',rfl,hf,hs⟩,?_⟩;rw[List.length_cons,show i+(rss.length+1)=i+1+rss.length by omega];exact hw
    ·have:=zAa h1;omega
    ·have:=hX _ _ _ h1;omega
  ·rintro(⟨k,hk,rfl,hs⟩|⟨u,v,rfl,⟨u1,u2,rfl,hf,hs⟩,hw⟩)
   ·cases k with
    |
     zero=>
     have hs:t=[]:=hs;subst hs;exact .nil _
    |
     succ k=>
     obtain⟨u,v,rfl,hf,hs⟩:=hs;refine .cons (.inl (.inl ⟨rfl,rfl,hf⟩)) (hdn (ih.2 (.inl ⟨k,by rw[List.length_cons]at hk;omega,by omega,hs⟩)))
   ·rw[List.append_assoc];refine .cons (.inl (.inl ⟨rfl,rfl,hf⟩)) (hdn (ih.2 (.inr ⟨u2,v,rfl,hs,?_⟩)));rw[List.length_cons,show i+(rss.length+1)=i+1+rss.length by omega]at hw;exact hw
def atB(rss:zc0)(star:Bool)(t:List Nat)(y:Nat):Prop:=(y<rss.length∧Sg (rss.take y) t)∨∃u v,t=u++v∧Sg rss u∧endP rss star v y
theorem znc{rss:zc0}{star:Bool}{t:List Nat}{y:Nat}:Way (orE (zag (zcj (endN rss star))) (orE (chE 0 rss) (xE rss star))) 0 t y↔atB rss star t y:=by
 have e:Way (orE (zag (zcj (endN rss star))) (orE (chE 0 rss) (xE rss star))) 0 t y↔Way (orE (chE 0 rss) (xE rss star)) 0 t y:=Way.iff fun _ _ _=>⟨fun h=>h.elim (fun h=>absurd h zm5) id,.inr⟩
 rw[e,zA8 rss 0 _ fun x t y h=>by
  cases star
  ·exact h.elim
  ·obtain⟨rfl,⟨_,rfl⟩|⟨rfl,_⟩⟩:=h<;>omega]
 unfold atB;rw[Nat.zero_add];simp only[zJh];refine or_congr ⟨?_,?_⟩ Iff.rfl
 ·rintro⟨k,hk,rfl,hs⟩;rw[Nat.zero_add];exact⟨hk,hs⟩
 ·rintro⟨hk,hs⟩;exact⟨y,hk,by omega,hs⟩
theorem zz7{rss:zc0}{star:Bool}(hr:OkR rss){t:List Nat}{y:Nat}(hy:y<endN rss star+1):Way (zag (zdh rss star)) 0 t y↔atB rss star t y:=by
 have hb:= @zug rss star;have hl:=zd5 (endN rss star);rw[zuk hr,zpf rss _ 0 _ hr hb (fun x t y h=>absurd h zm5) (zJi rss star) (by omega) (by omega),znc]
theorem zB6{rss:zc0}{star:Bool}(hr:OkR rss){t:List Nat}{y:Nat}(hy:endN rss star+1≤y):Way (zag (zdh rss star)) 0 t y↔∃(k:Nat) (rs:List (List (Int×Int))) (t' u:List Nat),rss[k]? =some rs∧t=t'++u∧Sg (rss.take k) t'∧zg2 (offN (endN rss star+1) rss k) rs u y:=by
 have hb:= @zug rss star;have hl:=zd5 (endN rss star);rw[zuk hr,zx1 rss _ 0 _ hr hb (fun x t y h=>absurd h zm5) (zJi rss star) (by omega) (by omega)];constructor
 ·rintro⟨k,rs,t',u,h0,rfl,h1,h2⟩;rw[znc]at h1;rw[hl]at h2;have hk:=(List.getElem?_eq_some_iff.1 h0).1;rcases h1 with⟨_,h1⟩|⟨a,b,rfl,h3,h4⟩
  ·rw[Nat.zero_add]at h1;exact⟨k,rs,t',u,h0,rfl,h1,h2⟩
  ·exfalso
   cases star
   ·have:=h4.2;omega
   ·have:=h4.1;omega
 ·rintro⟨k,rs,t',u,h0,rfl,h1,h2⟩;refine⟨k,rs,t',u,h0,rfl,?_,by rw[hl];exact h2⟩;rw[znc];have hk:=(List.getElem?_eq_some_iff.1 h0).1;exact .inl ⟨by omega,by rw[Nat.zero_add];exact h1⟩
theorem zB7{rss:zc0}{star:Bool}(hr:OkR rss):endN rss star+1≤(zdh rss star).length∧(zdh rss star).length≤61*rss.length+2:=by
 have h:=zi2 rss (zcj (endN rss star)) 0 hr;rw[zd5]at h;cases star
 ·have h:rss.length+1≤(zbg (zcj rss.length) 0 rss).length∧(zbg (zcj rss.length) 0 rss).length≤rss.length+1+60*rss.length:=h;show rss.length+1≤(zbg (zcj rss.length) 0 rss).length∧(zbg (zcj rss.length) 0 rss).length≤_;omega
 ·have h:rss.length+1+1≤(zbg (zcj (rss.length+1)) 0 rss).length∧(zbg (zcj (rss.length+1)) 0 rss).length≤rss.length+1+1+60*rss.length:=h;show rss.length+1+1≤(zha (zbg (zcj (rss.length+1)) 0 rss) rss.length).length∧(zha (zbg (zcj (rss.length+1)) 0 rss) rss.length).length≤_;rw[zk1];omega
theorem z5i{rss:zc0}(star:Bool)(hr:OkR rss):LGood (zdh rss star):=by
 have h:=zs7 rss _ 0 hr (@zug rss star) (z5b _);cases star
 ·exact h
 ·refine z3b ?_ h;have h1:=(zi2 rss (zcj (rss.length+1)) 0 hr).1;rw[zd5]at h1;show rss.length+1<(zbg (zcj (rss.length+1)) 0 rss).length;omega
theorem zz8{rss:zc0}{star:Bool}{z:Nat}:(∃s,(zdh rss star)[z]? =some s∧s.fin=true)↔z=endN rss star:=by
 have h:(∃s,(zdh rss star)[z]? =some s∧s.fin=true)↔∃s,(zcj (endN rss star))[z]? =some s∧s.fin=true:=by
  cases star
  ·exact zph rss _ 0
  ·exact z6f.trans (zph rss _ 0)
 rw[h];constructor
 ·rintro⟨s,h1,h2⟩;exact(zgd h1).2.2.1 h2
 ·rintro rfl;have hl:=zd5 (endN rss star);obtain⟨s,hs⟩:∃s,(zcj (endN rss star))[endN rss star]? =some s:=⟨(zcj (endN rss star))[endN rss star]'(by omega),List.getElem?_eq_getElem _⟩;exact⟨s,hs,(zgd hs).2.2.2 rfl⟩
theorem z35{rss:zc0}{star:Bool}(hr:OkR rss)(t:List UInt8):zg9 (zdh rss star) t=true↔∃u v,zaf t=u++v∧Sg rss u∧(star=true∨v=[]):=by
 have h:zg9 (zdh rss star) t=true↔∃z s,(zdh rss star)[z]? =some s∧s.fin=true∧Way (zag (zdh rss star)) 0 (zaf t) z:=z66;have h2:(∃z s,(zdh rss star)[z]? =some s∧s.fin=true∧Way (zag (zdh rss star)) 0 (zaf t) z)↔Way (zag (zdh rss star)) 0 (zaf t) (endN rss star):=by
  constructor
  ·rintro⟨z,s,h1,h2,h3⟩;obtain rfl:=zz8.1 ⟨s,h1,h2⟩;exact h3
  ·intro h
   obtain⟨s,h1,h2⟩:=zz8.2 (rfl:endN rss star=endN rss star);exact⟨_,s,h1,h2,h⟩
 rw[h,h2,zz7 hr (by omega)];have hb:∀c∈zaf t,c≤255:=fun c hc=>by
  obtain⟨b,_,rfl⟩:=List.mem_map.1 hc;have:=b.toNat_lt;omega
 constructor
 ·rintro(⟨h1,_⟩|⟨u,v,h1,h2,h3⟩)
  ·cases star
   ·exact absurd h1 (by show¬rss.length<rss.length;omega)
   ·exact absurd h1 (by show¬rss.length+1<rss.length;omega)
  ·refine⟨u,v,h1,h2,?_⟩;cases star
   ·exact .inr h3.1
   ·exact .inl rfl
 ·rintro⟨u,v,h1,h2,h3⟩;refine .inr ⟨u,v,h1,h2,?_⟩;cases star
  ·rcases h3 with h3|h3
   ·cases h3
   ·exact⟨h3,rfl⟩
  ·exact⟨.inr rfl,fun c hc=>hb c (by rw[h1];exact List.mem_append_right _ hc)⟩
end
section
open Sp
theorem zAb{rs:List (List (Int×Int))}(h:rs.length≤1):(zs8 rs).length≤40:=by
 have k:∀d,(zlg (zhk rs d)).length≤3^d:=fun d=>by
  have h1:=zo4 (cs:=zhk rs d) (m:=3) fun c hc=>by
   unfold zhk at hc;obtain⟨k,_,rfl⟩:=List.mem_map.1 hc;rw[zs5];have:=List.length_filter_le (fun r=>decide (d<r.length)) rs;omega
  rwa[zhj]at h1
 have k1:=k 1;have k2:=k 2;have k3:=k 3;unfold zs8;rw[List.length_cons,List.length_map,List.length_append,List.length_append];omega
open Classical in
noncomputable def zz1(n N:Nat)(rss:zc0)(k:Nat):List (List Int):=setL n (fun y=>y=k)::(zs8 (rss[k]?.getD [])).map fun m=>setL n fun y=>∃u,m=some u∧zg2 (offN N rss k) (rss[k]?.getD []) u y
open Classical in
noncomputable def zx3(n N:Nat)(rss:zc0):List (List Int):=setL n (fun _=>False)::setL n (fun y=>y=rss.length∨y=rss.length+1)::(List.range (rss.length+1)).flatMap (zz1 n N rss)
theorem z1i{β:Type}(f:Nat→List β)(K a b:Nat)(ha:∀k,k≠K→(f k).length≤a)(hb:(f K).length≤b):∀n,((List.range n).flatMap f).length≤n*a+if K<n then b else 0
 |0=>by simp
 |
  n+1=>by
  have ih:=z1i f K a b ha hb n;rw[List.range_succ,List.flatMap_append,List.length_append,Nat.add_mul];have e:([n].flatMap f).length=(f n).length:=by simp
  rw[e];by_cases h:n=K
  ·subst h;rw[if_neg (by omega)]at ih;rw[if_pos (by omega)];omega
  ·have:=ha n h;split at ih
   ·rw[if_pos (by omega)];omega
   ·split<;>omega
theorem zAc{n N:Nat}{rss:zc0}{K:Nat}(hr:OkR rss)(hK:∀k,k≠K→(rss[k]?.getD []).length≤1):(zx3 n N rss).length≤(rss.length+1)*41+4645:=by
 have h:=z1i (zz1 n N rss) K 41 4643 (fun k hk=>by
  unfold zz1;rw[List.length_cons,List.length_map];have:=zAb (hK k hk);omega) (by
  unfold zz1;rw[List.length_cons,List.length_map];have h1:RowsU (rss[K]?.getD []):=by
   cases h:rss[K]? with
   |none=>exact⟨fun r hr=>absurd hr List.not_mem_nil,fun r hr=>absurd hr List.not_mem_nil,fun r hr=>absurd hr List.not_mem_nil,fun r hr=>absurd hr List.not_mem_nil,by simp,by simp,by simp⟩
   |
    some rs=>
    obtain⟨lo,hi,rfl⟩:=hr rs (List.mem_of_getElem? h);exact zx7 lo hi
  have:=z56 h1;omega) (rss.length+1)
 unfold zx3;rw[List.length_cons,List.length_cons];split at h<;>omega
theorem zB8{rss:zc0}{star:Bool}{K:Nat}(hr:OkR rss)(hK:∀k,k≠K→(rss[k]?.getD []).length≤1)(f:Nat):
  ((subW (zdh rss star)).run f 0 [setL (zdh rss star).length (Clo (zdh rss star) fun x=>x=0)]).length≤(rss.length+1)*41+4645:=by
 obtain⟨n,hn⟩:∃n,(zdh rss star).length=n:=⟨_,rfl⟩;obtain⟨N,hN⟩:∃N,endN rss star+1=N:=⟨_,rfl⟩;have hNm:rss.length+1≤N:=by rw[←hN];cases star<;>simp[endN]
 refine Nat.le_trans (zI7 (zx3 n N rss) (fun t=>?_) f) (zAc hr hK);rw[hn];have hb:∀y,y<N→(Way (zag (zdh rss star)) 0 t y↔atB rss star t y):=fun y hy=>zz7 hr (by omega)
 have hm:∀y,N≤y→(Way (zag (zdh rss star)) 0 t y↔∃(k:Nat) (rs:List (List (Int×Int))) (t' u:List Nat),rss[k]? =some rs∧t=t'++u∧Sg (rss.take k) t'∧zg2 (offN N rss k) rs u y):=fun y hy=>by
  rw[zB6 hr (by omega),hN]
 have hp:∀{k:Nat}{rs:List (List (Int×Int))}{u:List Nat}{y:Nat},rss[k]? =some rs→zg2 (offN N rss k) rs u y→Prt u:=fun h0 h=>by
  obtain⟨lo,hi,rfl⟩:=hr _ (List.mem_of_getElem? h0);exact z8a (fun _ h=>h) h
 have hge:∀{k:Nat}{rs:List (List (Int×Int))}{u:List Nat}{y:Nat},zg2 (offN N rss k) rs u y→N≤y:=fun h=>Nat.le_trans zy2 (zke h).1
 by_cases h1:∃k t' u,k<rss.length∧t=t'++u∧Sg (rss.take k) t'∧Prt u
 ·obtain⟨k,t',u,hk,rfl,hs,hu⟩:=h1;obtain⟨rs,hrs⟩:∃rs,rss[k]? =some rs:=⟨rss[k],List.getElem?_eq_getElem hk⟩;obtain⟨lo,hi,ers⟩:=hr rs (List.mem_of_getElem? hrs);have hR:RowsU rs:=by rw[ers];exact zx7 lo hi
  have hset:setL n (fun y=>Way (zag (zdh rss star)) 0 (t'++u) y)=setL n fun y=>zg2 (offN N rss k) rs u y:=zib fun y hy=>by
   by_cases hyN:y<N
   ·rw[hb y hyN];constructor
    ·rintro(⟨h2,h3⟩|⟨a,b,h2,h3,_⟩)
     ·have:=(at_one hr (by omega) (by omega) hs h3 (.inr hu) (.inl rfl) (by rw[List.append_nil])).2.2;exact absurd this (zFk hu)
     ·exact(zAj hr hk hs (.inr hu) h3 h2).elim
    ·intro h
     have:=hge h;omega
   ·rw[hm y (by omega)];constructor
    ·rintro⟨k',rs',a,b,h2,h3,h4,h5⟩;have hk':=(List.getElem?_eq_some_iff.1 h2).1;obtain⟨rfl,rfl,rfl⟩:=at_one hr (by omega) (by omega) hs h4 (.inr hu) (.inr (hp h2 h5)) h3;rw[hrs]at h2;injection h2 with h2
     rw[h2];exact h5
    ·exact fun h=>⟨k,rs,t',u,hrs,rfl,hs,h⟩
  rw[hset];unfold zx3;refine List.mem_cons_of_mem _ (List.mem_cons_of_mem _ (List.mem_flatMap.2 ⟨k,List.mem_range.2 (by omega),?_⟩));unfold zz1;rw[hrs];refine List.mem_cons_of_mem _ ?_;by_cases h3:∃y,zg2 (offN N rss k) rs u y
  ·obtain⟨y0,h3⟩:=h3;obtain⟨_,hu3⟩:=zre hR (fun _ h=>h) h3;have hu0:0<u.length:=List.length_pos_iff.2 (zFk hu);refine List.mem_map.2 ⟨some (repU (zhk rs u.length) u),?_,zib fun y _=>?_⟩
   ·unfold zs8;refine List.mem_cons_of_mem _ (List.mem_map_of_mem ?_);have hm:=zve (cs:=zhk rs u.length) (u:=u) (zhj rs u.length) fun c hc=>by
     unfold zhk at hc;obtain⟨k,_,rfl⟩:=List.mem_map.1 hc;exact List.mem_cons_self ..
    have h3:u.length=1∨u.length=2∨u.length=3:=by omega
    rw[List.mem_append,List.mem_append];rcases h3 with h3|h3|h3<;>rw[h3]at hm⊢
    ·exact .inl (.inl hm)
    ·exact .inl (.inr hm)
    ·exact .inr hm
   ·constructor
    ·rintro⟨v,hv,h⟩;injection hv with hv
     rw[←hv]at h;exact(zu2 hR.ok fun _ h=>h).2 h
    ·exact fun h=>⟨_,rfl,(zu2 hR.ok fun _ h=>h).1 h⟩
  ·refine List.mem_map.2 ⟨none,List.mem_cons_self ..,zib fun y _=>⟨?_,fun h=>absurd ⟨y,h⟩ h3⟩⟩;rintro⟨u',h,_⟩;cases h
 ·have hnm:∀y,N≤y→¬Way (zag (zdh rss star)) 0 t y:=fun y hy h=>by
   obtain⟨k,rs,t',u,h0,h2,h3,h4⟩:=(hm y hy).1 h;exact h1 ⟨k,t',u,(List.getElem?_eq_some_iff.1 h0).1,h2,h3,hp h0 h4⟩
  have hset:∀P:Nat→Prop,(∀y,N≤y→¬P y)→(∀y,y<N→(atB rss star t y↔P y))→setL n (fun y=>Way (zag (zdh rss star)) 0 t y)=setL n P:=fun P h2 h3=>zib fun y _=>by
   by_cases hyN:y<N
   ·rw[hb y hyN];exact h3 y hyN
   ·exact⟨fun h=>absurd h (hnm y (by omega)),fun h=>absurd h (h2 y (by omega))⟩
  by_cases h2:∃k,k<rss.length∧Sg (rss.take k) t
  ·obtain⟨k,hk,hs⟩:=h2;rw[hset (fun y=>y=k) (fun y hy=>by omega) fun y hy=>⟨?_,?_⟩]
   ·unfold zx3;refine List.mem_cons_of_mem _ (List.mem_cons_of_mem _ (List.mem_flatMap.2 ⟨k,List.mem_range.2 (by omega),?_⟩));unfold zz1;exact List.mem_cons_self ..
   ·rintro(⟨h3,h4⟩|⟨a,b,h3,h4,_⟩)
    ·exact(at_one hr (by omega) (by omega) hs h4 (.inl rfl) (.inl rfl) rfl).1.symm
    ·exact(zAj hr hk hs (.inl rfl) h4 (by rw[List.append_nil];exact h3)).elim
   ·rintro rfl;exact .inl ⟨hk,hs⟩
  ·by_cases h3:∃u v,t=u++v∧Sg rss u∧(star=true∧(∀c∈v,c≤255)∨star=false∧v=[])
   ·obtain⟨u,v,h3,h4,h5⟩:=h3;rcases h5 with⟨rfl,h5⟩|⟨rfl,rfl⟩
    ·rw[hset (fun y=>y=rss.length∨y=rss.length+1) (fun y hy h=>by have:rss.length+1+1=N:=hN;omega) fun y hy=>⟨?_,?_⟩]
     ·unfold zx3;exact List.mem_cons_of_mem _ (List.mem_cons_self ..)
     ·rintro(⟨h6,h7⟩|⟨a,b,_,_,h6⟩)
      ·exact absurd ⟨y,h6,h7⟩ h2
      ·exact h6.1
     ·exact fun h=>.inr ⟨u,v,h3,h4,h,h5⟩
    ·rw[hset (fun y=>y=rss.length) (fun y hy h=>by omega) fun y hy=>⟨?_,?_⟩]
     ·unfold zx3;refine List.mem_cons_of_mem _ (List.mem_cons_of_mem _ (List.mem_flatMap.2 ⟨rss.length,List.mem_range.2 (by omega),?_⟩));unfold zz1;exact List.mem_cons_self ..
     ·rintro(⟨h6,h7⟩|⟨a,b,_,_,h6⟩)
      ·exact absurd ⟨y,h6,h7⟩ h2
      ·exact h6.2
     ·rintro rfl;exact .inr ⟨u,[],h3,h4,rfl,rfl⟩
   ·rw[hset (fun _=>False) (fun y hy h=>h) fun y hy=>⟨?_,False.elim⟩]
    ·unfold zx3;exact List.mem_cons_self ..
    ·rintro(⟨h6,h7⟩|⟨a,b,h6,h7,h8⟩)
     ·exact absurd ⟨y,h6,h7⟩ h2
     ·refine absurd ⟨a,b,h6,h7,?_⟩ h3;cases star
      ·exact .inr ⟨rfl,h8.1⟩
      ·exact .inl ⟨rfl,h8.2⟩
theorem zDi{q:List (Int×Int)}{K:Nat}(h:∀k p,k≠K→q[k]? =some p→p.1=p.2):∀k,k≠K→((rowsOf q)[k]?.getD []).length≤1:=fun k hk=>by
 unfold rowsOf;rw[List.getElem?_map];cases hq:q[k]? with
 |none=>simp
 |
  some p=>
  have:=h k p hk hq;show(allP p.1 p.2).length≤1;rw[this];exact zJe _
end
section
open Sp
def zcf(c:Int):Int×Int:=if c=63 then(0,1114111)else(c,c)
abbrev zdf(q:List Int):zc0:=rowsOf (q.map zcf)
theorem zdj(q:List Int):(zdf q).length=q.length:=by
 show((q.map zcf).map _).length=_;rw[List.length_map,List.length_map]
theorem zC7{q:List Int}{j:Nat}{c:Int}(h:q[j]? =some c):(zdf q)[j]? =some (allP (zcf c).1 (zcf c).2):=by
 show((q.map zcf).map _)[j]? =_;rw[List.getElem?_map,List.getElem?_map,h];rfl
theorem zie(q:List Int):OkR (zdf q):=zo2 _
theorem z77{q:List Int}{K:Nat}(h:∀k c,k≠K→q[k]? =some c→c≠63):∀k,k≠K→((zdf q)[k]?.getD []).length≤1:=zDi fun k p hk hp=>by
 rw[List.getElem?_map]at hp;obtain⟨c,hc,rfl⟩:=Option.map_eq_some_iff.1 hp;unfold zcf;rw[if_neg (h k c hk hc)]
theorem zpi:∀(rss:zc0) (l:List Lst) (i:Nat) (rs:List (List (Int×Int))),zbg l i (rss++[rs])=za6 (zbg l i rss) (i+rss.length) (i+rss.length+1) rs
 |[],_,_,_=>rfl
 |
  r::rss,l,i,rs=>by
  show zbg (za6 l i (i+1) r) (i+1) (rss++[rs])=_;rw[zpi rss,List.length_cons,show i+1+rss.length=i+(rss.length+1) by omega];rfl
def stg(q:List Int)(star:Bool)(j:Nat):List Lst:=if j≤q.length then zbg (zcj (endN (zdf q) star)) 0 ((zdf q).take j)else zdh (zdf q) star
theorem zBh(q:List Int)(star:Bool):stg q star 0=zcj (endN (zdf q) star):=by
 unfold stg;rw[if_pos (Nat.zero_le _)];rfl
theorem zBi{q:List Int}{star:Bool}{j:Nat}{c:Int}(h:q[j]? =some c):stg q star (j+1)=za6 (stg q star j) j (j+1) (allP (zcf c).1 (zcf c).2):=by
 have hj:=(List.getElem?_eq_some_iff.1 h).1;have hr:=zC7 h;obtain⟨hj2,e⟩:=List.getElem?_eq_some_iff.1 hr;unfold stg;rw[if_pos (by omega),if_pos (by omega),List.take_succ_eq_append_getElem hj2,e,zpi,List.length_take,Nat.zero_add,Nat.min_eq_left (by omega)]
theorem zBj{q:List Int}{star:Bool}(h:star=false):stg q star q.length=zdh (zdf q) star:=by
 subst h;unfold stg;rw[if_pos (Nat.le_refl _),←zdj q,List.take_length];rfl
theorem zzd{q:List Int}:stg q true (q.length+1)=zha (stg q true q.length) q.length:=by
 unfold stg;rw[if_neg (by omega),if_pos (Nat.le_refl _)];have e:=zdj q;have e2:(zdf q).take q.length=zdf q:=by rw[←e,List.take_length]
 rw[e2];show zha (zbg (zcj ((zdf q).length+1)) 0 (zdf q)) (zdf q).length=zha (zbg (zcj ((zdf q).length+1)) 0 (zdf q)) q.length;rw[e]
def FewS(K:Nat)(l:List Lst):Prop:=∀s∈l,s.arcs.length≤K∧s.free.length≤0
theorem FewS.more{K K':Nat}{l:List Lst}(h:FewS K l)(hk:K≤K'):FewS K' l:=fun s hs=>⟨Nat.le_trans (h s hs).1 hk,(h s hs).2⟩
theorem FewS.add{K:Nat}{l:List Lst}(h:FewS K l)(a:Nat)(z:Arc3):FewS (K+1) (zde l a z):=fun s hs=>by
 obtain⟨j,hj⟩:=List.mem_iff_getElem?.1 hs;by_cases e:a=j
 ·subst e;have hja:a<l.length:=by rw[←zce l a z];exact(List.getElem?_eq_some_iff.1 hj).1
  rw[zi5 _ (List.getElem?_eq_getElem hja)]at hj;injection hj with hj
  subst hj;have:=h l[a] (List.getElem_mem _);refine⟨?_,this.2⟩;rw[List.length_append,List.length_singleton];omega
 ·rw[zi4 _ e]at hj;have:=h s (List.mem_of_getElem? hj);exact⟨by omega,this.2⟩
theorem FewS.bare{K:Nat}{l:List Lst}(h:FewS K l):FewS K (l++[⟨false,[],[]⟩]):=fun s hs=>by
 rcases List.mem_append.1 hs with hs|hs
 ·exact h s hs
 ·rw[List.mem_singleton.1 hs];exact⟨Nat.zero_le _,Nat.zero_le _⟩
theorem FewS.row:∀(r:List (Int×Int)){K:Nat}{l:List Lst} (a b:Nat),FewS K l→FewS (K+r.length) (leadRow l a b r)
 |[],_,_,_,_,h=>h
 |[p],_,_,a,b,h=>h.add a _
 |
  p::q::r,K,l,a,b,h=>by
  have:=FewS.row (q::r) l.length b ((h.bare).add a (p.1,p.2,(l.length:Int)));rw[List.length_cons,show K+((q::r).length+1)=K+1+(q::r).length by omega];exact this
theorem FewS.rows:∀(rs:List (List (Int×Int))){K:Nat}{l:List Lst} (a b:Nat),(∀r∈rs,r.length≤4)→FewS K l→FewS (K+4*rs.length) (za6 l a b rs)
 |[],_,_,_,_,_,h=>h
 |
  r::rs,K,l,a,b,hr,h=>by
  show FewS _ (za6 (leadRow l a b r) a b rs);have h1:=hr r (List.mem_cons_self ..);have h2:=FewS.rows rs a b (fun q hq=>hr q (List.mem_cons_of_mem _ hq)) (h.row r a b);exact h2.more (by rw[List.length_cons];omega)
theorem FewS.chain:∀(rss:zc0){K:Nat}{l:List Lst} (i:Nat),OkR rss→FewS K l→FewS (K+80*rss.length) (zbg l i rss)
 |[],_,_,_,_,h=>h
 |
  rs::rss,K,l,i,hr,h=>by
  show FewS _ (zbg (za6 l i (i+1) rs) (i+1) rss);obtain⟨lo,hi,rfl⟩:=hr.head;have h1:=Sp.all_len lo hi;have h2:=FewS.chain rss (i+1) hr.tail (h.rows (allP lo hi) i (i+1) fun r hr=>(all_ok lo hi r hr).2.1);exact h2.more (by rw[List.length_cons];omega)
theorem zF0(n:Nat):FewS 0 (zcj n):=fun s hs=>by
 obtain⟨j,hj⟩:=List.mem_iff_getElem?.1 hs;obtain⟨h1,h2,_⟩:=zgd hj;rw[h1,h2];exact⟨Nat.le_refl _,Nat.le_refl _⟩
theorem zt4{q:List Int}{star:Bool}{j:Nat}(hj:j≤q.length):FewS (80*q.length) (stg q star j):=by
 unfold stg;rw[if_pos hj];have h1:OkR ((zdf q).take j):=fun rs h=>zie q rs (List.mem_of_mem_take h)
 have h2:=FewS.chain ((zdf q).take j) 0 h1 (zF0 (endN (zdf q) star));refine h2.more ?_;rw[List.length_take,zdj];omega
theorem z6c{q:List Int}{star:Bool}{j:Nat}(hj:j≤q.length):endN (zdf q) star+1≤(stg q star j).length∧(stg q star j).length≤endN (zdf q) star+1+60*j:=by
 unfold stg;rw[if_pos hj];have h1:OkR ((zdf q).take j):=fun rs h=>zie q rs (List.mem_of_mem_take h)
 have h2:=zi2 ((zdf q).take j) (zcj (endN (zdf q) star)) 0 h1;rw[zd5,List.length_take,zdj]at h2;omega
def zFb(q:List Int)(star:Bool)(D:List St):Prop:=D.length≤20000∧Good D∧∀t:List UInt8,zee D t=zg9 (zdh (zdf q) star) t
end
end Go.Proofs.YtaociahafamncaaGreatDoor
