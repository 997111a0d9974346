/- Folded. -/
import Derived.Test.YtaociahafamncaaGreatDoorHW27
set_option maxRecDepth 100000
set_option maxHeartbeats 40000000
namespace Go.Proofs.YtaociahafamncaaGreatDoor
section
open Sp
def noE:Edge:=fun _ _ _=>False
theorem noE_way{E:Edge}{x y:Nat}{t:List Nat}:Way (orE E noE) x t y↔Way E x t y:=Way.iff fun _ _ _=>⟨fun h=>h.elim id False.elim,.inl⟩
theorem noE_in(n:Nat):InE noE n:=fun _ _ _ h=>h.elim
theorem addArc_fin(l:List Lst)(x:Nat)(a:Arc3):(addArc l x a).map (·.fin)=l.map (·.fin):=by
 apply List.ext_getElem?
 intro j
 rw[List.getElem?_map,List.getElem?_map];by_cases e:x=j
 ·subst e;cases h:l[x]? with
  |
   none=>
   rw[List.getElem?_eq_none (by rw[addArc_len];exact List.getElem?_eq_none_iff.1 h)]
  |some s=>rw[addArc_at _ h];rfl
 ·rw[addArc_ne _ e]
theorem leadRow_fin:∀(r:List (Int×Int)) (l:List Lst) (a b:Nat),(leadRow l a b r).map (·.fin)=l.map (·.fin)++List.replicate (r.length-1) false
 |[],l,a,b=>by simp[leadRow]
 |
  [p],l,a,b=>by
  have:=addArc_fin l a (p.1,p.2,(b:Int));simp[leadRow,this]
 |
  p::q::r,l,a,b=>by
  rw[leadRow,leadRow_fin (q::r),addArc_fin,List.map_append,List.append_assoc];simp only[List.length_cons,Nat.add_sub_cancel,List.map_cons,List.map_nil];rfl
theorem leadRows_fin:∀(rs:List (List (Int×Int))) (l:List Lst) (a b:Nat),(leadRows l a b rs).map (·.fin)=l.map (·.fin)++List.replicate (midsN rs) false
 |[],l,a,b=>by simp[leadRows,midsN]
 |
  r::rs,l,a,b=>by
  show(leadRows (leadRow l a b r) a b rs).map (·.fin)=_;rw[leadRows_fin rs,leadRow_fin,List.append_assoc,midsN,List.replicate_append_replicate]
theorem fin_iff{l:List Lst}{a b:Nat}{rs:List (List (Int×Int))}{z:Nat}:(∃s,(leadRows l a b rs)[z]? =some s∧s.fin=true)↔∃s,l[z]? =some s∧s.fin=true:=by
 have k:∀(m:List Lst),(∃s,m[z]? =some s∧s.fin=true)↔(m.map (·.fin))[z]? =some true:=fun m=>by
  rw[List.getElem?_map];exact Option.map_eq_some_iff.symm
 rw[k,k,leadRows_fin];by_cases h:z<(l.map (·.fin)).length
 ·rw[List.getElem?_append_left h]
 ·rw[List.getElem?_append_right (by omega),List.getElem?_eq_none (l:=l.map (·.fin)) (by omega),List.getElem?_replicate];split
  ·simp
  ·simp
def endS:Lst:=⟨true,[],[]⟩
end
section
def OvT(l:List Lst)(B:List Bool)(c:Int)(i k x:Nat):Prop:=∃(z:Nat) (s:Lst),B[z]? =some true∧l[z]? =some s∧((z<i∧∃a∈s.arcs,a.1≤c∧c≤a.2.1∧a.2.2=(x:Int))∨(z=i∧∃a∈s.arcs.take k,a.1≤c∧c≤a.2.1∧a.2.2=(x:Int)))
structure OvR(l:List Lst)(B:List Bool)(c:Int)(L:List Bool)(i k:Nat):Prop where
 len:L.length=l.length
 iff:∀x:Nat,L[x]? =some true↔OvT l B c i k x
theorem OvR.start(l:List Lst)(B:List Bool)(c:Int):OvR l B c (List.replicate l.length false) 0 0:=by
 refine⟨List.length_replicate,fun x=>⟨fun h=>?_,fun h=>?_⟩⟩
 ·rw[List.getElem?_replicate]at h;split at h<;>cases h
 ·obtain⟨z,s,_,_,h1|⟨_,a,ha,_⟩⟩:=h
  ·omega
  ·simp at ha
section
variable {l:List Lst}{B L:List Bool}{c:Int}{i k:Nat}{s:Lst}{a:Arc3}
theorem OvT.one(hs:l[i]? =some s)(hb:B[i]? =some true)(ha:s.arcs[k]? =some a)(x:Nat):OvT l B c i (k+1) x↔OvT l B c i k x∨(a.1≤c∧c≤a.2.1∧a.2.2=(x:Int)):=by
 have ht:s.arcs.take (k+1)=s.arcs.take k++[a]:=by rw[List.take_add_one,ha];rfl
 constructor
 ·rintro⟨z,s',h1,h2,h3|⟨rfl,b,hb',h4⟩⟩
  ·exact .inl ⟨z,s',h1,h2,.inl h3⟩
  ·rw[hs]at h2;injection h2 with h2
   subst h2;rw[ht]at hb';rcases List.mem_append.1 hb' with hb'|hb'
   ·exact .inl ⟨z,s,h1,hs,.inr ⟨rfl,b,hb',h4⟩⟩
   ·rw[List.mem_singleton.1 hb']at h4;exact .inr h4
 ·rintro(⟨z,s',h1,h2,h3|⟨rfl,b,hb',h4⟩⟩|h4)
  ·exact⟨z,s',h1,h2,.inl h3⟩
  ·rw[hs]at h2;injection h2 with h2
   subst h2;exact⟨z,s,h1,hs,.inr ⟨rfl,b,by rw[ht];exact List.mem_append_left _ hb',h4⟩⟩
  ·exact⟨i,s,hb,hs,.inr ⟨rfl,a,by rw[ht];exact List.mem_append_right _ (List.mem_singleton.2 rfl),h4⟩⟩
theorem OvR.skip(h:OvR l B c L i k)(hs:l[i]? =some s)(hb:B[i]? =some true)(ha:s.arcs[k]? =some a)(hn:¬(a.1≤c∧c≤a.2.1)):OvR l B c L i (k+1):=by
 refine⟨h.len,fun x=>?_⟩;rw[OvT.one hs hb ha,h.iff];exact⟨.inl,fun h=>h.elim id fun h=>absurd ⟨h.1,h.2.1⟩ hn⟩
theorem OvR.take{t:Nat}(h:OvR l B c L i k)(hs:l[i]? =some s)(hb:B[i]? =some true)(ha:s.arcs[k]? =some a)(hn:a.1≤c∧c≤a.2.1)(ht:a.2.2=(t:Int))(htl:t<l.length):OvR l B c (L.set t true) i (k+1):=by
 refine⟨by rw[List.length_set];exact h.len,fun x=>?_⟩;rw[OvT.one hs hb ha,←h.iff,List.getElem?_set];by_cases e:t=x
 ·subst e;rw[if_pos rfl,if_pos (by rw[h.len];exact htl)];exact⟨fun _=>.inr ⟨hn.1,hn.2,ht⟩,fun _=>rfl⟩
 ·rw[if_neg e];exact⟨.inl,fun h=>h.elim id fun h=>absurd (by have:=h.2.2;omega) e⟩
theorem OvR.next(h:OvR l B c L i k)(he:∀s,l[i]? =some s→B[i]? =some true→s.arcs.length≤k):OvR l B c L (i+1) 0:=by
 refine⟨h.len,fun x=>?_⟩;rw[h.iff];constructor
 ·rintro⟨z,s,h1,h2,⟨h3,h4⟩|⟨rfl,b,hb,h4⟩⟩
  ·exact⟨z,s,h1,h2,.inl ⟨by omega,h4⟩⟩
  ·exact⟨z,s,h1,h2,.inl ⟨by omega,b,List.mem_of_mem_take hb,h4⟩⟩
 ·rintro⟨z,s,h1,h2,⟨h3,h4⟩|⟨_,b,hb,_⟩⟩
  ·by_cases e:z<i
   ·exact⟨z,s,h1,h2,.inl ⟨e,h4⟩⟩
   ·obtain rfl:z=i:=by omega
    obtain⟨a,ha,h5⟩:=h4;exact⟨z,s,h1,h2,.inr ⟨rfl,a,by rw[List.take_of_length_le (he s h2 h1)];exact ha,h5⟩⟩
  ·simp at hb
end
theorem OvR.done{l:List Lst}{B L:List Bool}{c:Nat}(h:OvR l B (c:Int) L l.length 0):(fun y:Nat=>L[y]? =some true)=ovP l (fun y=>B[y]? =some true) c:=by
 funext x
 apply propext
 show L[x]? =some true↔_;rw[h.iff];constructor
 ·rintro⟨z,s,h1,h2,⟨h3,h4⟩|⟨_,b,hb,_⟩⟩
  ·exact⟨z,s,h1,h2,h4⟩
  ·simp at hb
 ·rintro⟨z,s,h1,h2,h4⟩;exact⟨z,s,h1,h2,.inl ⟨(List.getElem?_eq_some_iff.1 h2).1,h4⟩⟩
end
section
open Go.RowKit Go.Maps
def runZ(l:List Lst)(s:List Nat):Nat→Prop:=runP l (Clo l fun x=>x=0) s
noncomputable def looseTakes(l:List Lst)(t:List UInt8):Bool:=endB l (runZ l (bytesN t))
end
section
open Go.RowKit
open Sp
theorem LGood.arc_add{l:List Lst}{a b:Nat}{lo hi:Int}(h:LGood l)(hb:b<l.length)(h0:0≤lo)(h1:lo≤hi)(h2:hi≤255):LGood (addArc l a (lo,hi,(b:Int))):=by
 have hlen:=addArc_len l a (lo,hi,(b:Int));have key:∀s∈addArc l a (lo,hi,(b:Int)),∃s0∈l,s.free=s0.free∧∀z∈s.arcs,z∈s0.arcs∨z=(lo,hi,(b:Int)):=by
  intro s hs
  obtain⟨j,hj⟩:=List.mem_iff_getElem?.1 hs;by_cases e:a=j
  ·subst e;have hja:a<l.length:=by rw[←hlen];exact(List.getElem?_eq_some_iff.1 hj).1
   rw[addArc_at _ (List.getElem?_eq_getElem hja)]at hj;injection hj with hj
   subst hj;refine⟨l[a],List.getElem_mem _,rfl,fun z hz=>?_⟩;rcases List.mem_append.1 hz with hz|hz
   ·exact .inl hz
   ·exact .inr (List.mem_singleton.1 hz)
  ·rw[addArc_ne _ e]at hj;exact⟨s,List.mem_of_getElem? hj,rfl,fun z hz=>.inl hz⟩
 refine⟨fun e=>?_,fun s hs z hz=>?_,fun s hs t ht=>?_⟩
 ·have:=congrArg List.length e;rw[hlen,List.length_nil]at this;omega
 ·obtain⟨s0,hs0,_,k⟩:=key s hs;rw[hlen];rcases k z hz with hz|rfl
  ·exact h.arc s0 hs0 z hz
  ·exact⟨h0,h1,h2,by show 0≤(b:Int);omega,by show(b:Int)<_;omega⟩
 ·obtain⟨s0,hs0,k,_⟩:=key s hs;rw[hlen];exact h.fre s0 hs0 t (by rw[←k];exact ht)
theorem LGood.bare{l:List Lst}(h:LGood l):LGood (l++[⟨false,[],[]⟩]):=by
 have hlen:((l++[⟨false,[],[]⟩]:List Lst).length:Int)=(l.length:Int)+1:=by rw[List.length_append];rfl
 refine⟨by simp,fun s hs z hz=>?_,fun s hs t ht=>?_⟩
 ·rcases List.mem_append.1 hs with hs|hs
  ·have:=h.arc s hs z hz;omega
  ·rw[List.mem_singleton]at hs;subst hs;cases hz
 ·rcases List.mem_append.1 hs with hs|hs
  ·have:=h.fre s hs t ht;omega
  ·rw[List.mem_singleton]at hs;subst hs;cases ht
theorem LGood.row:∀(r:List (Int×Int)){l:List Lst}{a b:Nat},LGood l→b<l.length→(∀p∈r,0≤p.1∧p.1≤p.2∧p.2≤255)→LGood (leadRow l a b r)
 |[],_,_,_,h,_,_=>h
 |
  [p],l,a,b,h,hb,hr=>by
  obtain⟨h0,h1,h2⟩:=hr p (List.mem_cons_self ..);exact h.arc_add hb h0 h1 h2
 |
  p::q::r,l,a,b,h,hb,hr=>by
  obtain⟨h0,h1,h2⟩:=hr p (List.mem_cons_self ..);rw[leadRow];refine LGood.row (q::r) (h.bare.arc_add (b:=l.length) ?_ h0 h1 h2) ?_ fun z hz=>hr z (List.mem_cons_of_mem _ hz)
  ·rw[List.length_append];simp
  ·rw[addArc_len,List.length_append];omega
theorem LGood.rows:∀(rs:List (List (Int×Int))){l:List Lst}{a b:Nat},LGood l→b<l.length→(∀r∈rs,∀p∈r,0≤p.1∧p.1≤p.2∧p.2≤255)→LGood (leadRows l a b rs)
 |[],_,_,_,h,_,_=>h
 |
  r::rs,l,a,b,h,hb,hr=>by
  show LGood (leadRows (leadRow l a b r) a b rs);exact LGood.rows rs (h.row r hb (hr r (List.mem_cons_self ..))) (by rw[leadRow_len];omega) fun q hq=>hr q (List.mem_cons_of_mem _ hq)
theorem tight_takes{l:List Lst}{dd out:List St}(hl:LeastIs (auOf dd) 0 out)(hq:Leq (auOf dd) 0 ⟨finS l,stepS l⟩ (setL l.length (Clo l fun x=>x=0)))(hlen:out.length≤20000)(t:List UInt8):takesB out t=looseTakes l t:=by
 have hg:=hl.good hlen;unfold takesB;rw[decide_eq_true ((good_iff _).2 hg),Bool.true_and,(hl.leq.trans hq) (bytesN t),acc_run l (bytesN t) _ fun c hc=>by
  unfold bytesN at hc;obtain⟨b,_,rfl⟩:=List.mem_map.1 hc;exact b.toNat_lt]
 rfl
end
section
open Sp
def chainL:List Lst→Nat→Rowss→List Lst
 |l,_,[]=>l
 |l,i,rs::rss=>chainL (leadRows l i (i+1) rs) (i+1) rss
def chE:Nat→Rowss→Edge
 |_,[]=>noE
 |i,rs::rss=>orE (oneE i (i+1) fun t=>∃r∈rs,fitN r t) (chE (i+1) rss)
def offN:Nat→Rowss→Nat→Nat
 |N,rs::rss,k+1=>offN (N+midsN rs) rss k
 |N,_,_=>N
theorem offN_ge:∀{rss:Rowss}{N k:Nat},N≤offN N rss k
 |[],_,k=>by cases k<;>exact Nat.le_refl _
 |_::_,_,0=>Nat.le_refl _
 |rs::rss,N,k+1=>Nat.le_trans (Nat.le_add_right N (midsN rs)) (offN_ge (rss:=rss) (k:=k))
theorem chE_in:∀(rss:Rowss) (i:Nat),InE (chE i rss) (i+rss.length+1)
 |[],_=>noE_in _
 |
  rs::rss,i=>by
  have h:=chE_in rss (i+1);rw[List.length_cons];exact(InE.one (by omega) (by omega)).or (h.more (by omega))
theorem OkR.ne{rs:List (List (Int×Int))}{rss:Rowss}(h:OkR (rs::rss)):∀r∈rs,r≠[]:=by
 obtain⟨lo,hi,rfl⟩:=h.head;exact all_ne lo hi
theorem orE_swap{E A B X:Edge}{x z:Nat}{s:List Nat}:Way (orE E (orE A (orE B X))) x s z↔Way (orE E (orE (orE A B) X)) x s z:=Way.iff fun _ _ _=>
 ⟨fun h=>h.elim .inl fun h=>h.elim (fun h=>.inr (.inl (.inl h))) fun h=>h.elim (fun h=>.inr (.inl (.inr h))) fun h=>.inr (.inr h),
  fun h=>h.elim .inl fun h=>h.elim (fun h=>h.elim (fun h=>.inr (.inl h)) fun h=>.inr (.inr (.inl h))) fun h=>.inr (.inr (.inr h))⟩
theorem chain_way:∀(rss:Rowss) (l:List Lst) (i:Nat) (X:Edge),OkR rss→i+rss.length<l.length→InE (edgeL l) l.length→InE X l.length→∀{x z:Nat}{s:List Nat},x<l.length→z<l.length→
  (Way (orE (edgeL (chainL l i rss)) X) x s z↔Way (orE (edgeL l) (orE (chE i rss) X)) x s z)
 |[],l,i,X,_,_,_,_,x,z,s,_,_=>Way.iff fun _ _ _=>⟨fun h=>h.elim .inl fun h=>.inr (.inr h),fun h=>h.elim .inl fun h=>h.elim False.elim .inr⟩
 |
  rs::rss,l,i,X,hr,hi,hl,hX,x,z,s,hx,hz=>by
  rw[List.length_cons]at hi;have hlen:=leadRows_len rs l i (i+1);show Way (orE (edgeL (chainL (leadRows l i (i+1) rs) (i+1) rss)) X) x s z↔Way (orE (edgeL l) (orE (orE (oneE i (i+1) fun t=>∃r∈rs,fitN r t) (chE (i+1) rss)) X)) x s z;rw[chain_way rss (leadRows l i (i+1) rs) (i+1) X hr.tail (by omega) (leadRows_in rs l i (i+1) (by omega) (by omega) hl) (hX.more (by omega)) (by omega) (by omega),
   leadRows_way rs l i (i+1) (orE (chE (i+1) rss) X) hr.ne (by omega) (by omega) hl (((chE_in rss (i+1)).more (by omega)).or hX) hx hz,orE_swap]
theorem chain_mid:∀(rss:Rowss) (l:List Lst) (i:Nat) (X:Edge),OkR rss→i+rss.length<l.length→InE (edgeL l) l.length→InE X l.length→∀{x y:Nat}{t:List Nat},x<l.length→l.length≤y→
  (Way (orE (edgeL (chainL l i rss)) X) x t y↔∃(k:Nat) (rs:List (List (Int×Int))) (t' u:List Nat),rss[k]? =some rs∧t=t'++u∧Way (orE (edgeL l) (orE (chE i rss) X)) x t' (i+k)∧midsP (offN l.length rss k) rs u y)
 |
  [],l,i,X,_,_,hl,hX,x,y,t,hx,hy=>by
  constructor
  ·intro h
   exfalso
   have key:∀{a b:Nat}{t:List Nat},Way (orE (edgeL l) X) a t b→a<l.length→b<l.length:=by
    intro a b t h
    induction h with
    |nil=>exact id
    |cons h1 _ ih=>exact fun _=>ih ((hl.or hX) _ _ _ h1).2
   have:=key (show Way (orE (edgeL l) X) x t y from h) hx;omega
  ·rintro⟨k,rs,_,_,h,_⟩;simp at h
 |
  rs::rss,l,i,X,hr,hi,hl,hX,x,y,t,hx,hy=>by
  rw[List.length_cons]at hi;have hlen:=leadRows_len rs l i (i+1);have hl':=leadRows_in rs l i (i+1) (by omega) (by omega) hl;have hX':InE (orE (chE (i+1) rss) X) l.length:=((chE_in rss (i+1)).more (by omega)).or hX;have hw:∀{z:Nat}{s:List Nat},z<l.length→(Way (orE (edgeL (leadRows l i (i+1) rs)) (orE (chE (i+1) rss) X)) x s z↔Way (orE (edgeL l) (orE (chE i (rs::rss)) X)) x s z):=fun{z s} hz=>by
   rw[leadRows_way rs l i (i+1) (orE (chE (i+1) rss) X) hr.ne (by omega) (by omega) hl hX' hx hz,orE_swap];rfl
  show Way (orE (edgeL (chainL (leadRows l i (i+1) rs) (i+1) rss)) X) x t y↔_;by_cases hyl:y<(leadRows l i (i+1) rs).length
  ·rw[chain_way rss (leadRows l i (i+1) rs) (i+1) X hr.tail (by omega) hl' (hX.more (by omega)) (by omega) hyl,
    mids_way (by omega) (by omega) hl hX' hx hy]
   constructor
   ·rintro⟨t',u,rfl,h1,h2⟩;exact⟨0,rs,t',u,rfl,rfl,(hw (by omega)).1 h1,h2⟩
   ·rintro⟨k,rs',t',u,h0,rfl,h1,h2⟩;cases k with
    |
     zero=>
     injection h0 with h0
     subst h0;exact⟨t',u,rfl,(hw (by omega)).2 h1,h2⟩
    |
     succ k=>
     exfalso
     have h3:=(midsP_in h2).1;have h4:l.length+midsN rs≤offN l.length (rs::rss) (k+1):=offN_ge (rss:=rss) (k:=k);omega
  ·rw[chain_mid rss (leadRows l i (i+1) rs) (i+1) X hr.tail (by omega) hl' (hX.more (by omega)) (by omega) (by omega)];constructor
   ·rintro⟨k,rs',t',u,h0,rfl,h1,h2⟩;have hk:=(List.getElem?_eq_some_iff.1 h0).1;refine⟨k+1,rs',t',u,h0,rfl,?_,?_⟩
    ·rw[show i+(k+1)=i+1+k by omega];exact(hw (by omega)).1 h1
    ·rw[hlen]at h2;exact h2
   ·rintro⟨k,rs',t',u,h0,rfl,h1,h2⟩;cases k with
    |
     zero=>
     exfalso
     injection h0 with h0
     subst h0;have h3:=(midsP_in h2).2;have h4:offN l.length (rs::rss) 0=l.length:=rfl;omega
    |
     succ k=>
     have h0:rss[k]? =some rs':=h0;have hk:=(List.getElem?_eq_some_iff.1 h0).1;refine⟨k,rs',t',u,h0,rfl,?_,?_⟩
     ·rw[show i+1+k=i+(k+1) by omega];exact(hw (by omega)).2 h1
     ·rw[hlen];exact h2
theorem chain_len:∀(rss:Rowss) (l:List Lst) (i:Nat),OkR rss→l.length≤(chainL l i rss).length∧(chainL l i rss).length≤l.length+60*rss.length
 |[],_,_,_=>⟨Nat.le_refl _,by simp[chainL]⟩
 |
  rs::rss,l,i,hr=>by
  obtain⟨h1,h2⟩:=chain_len rss (leadRows l i (i+1) rs) (i+1) hr.tail;rw[leadRows_len]at h1 h2;have hm:midsN rs≤60:=by
   obtain⟨lo,hi,rfl⟩:=hr.head;have k:∀{rs:List (List (Int×Int))},(∀r∈rs,r.length≤4)→midsN rs≤3*rs.length:=by
    intro rs
    induction rs with
    |nil=>exact fun _=>Nat.le_refl _
    |
     cons r rs ih=>
     intro h
     have h1:=h r (List.mem_cons_self ..);have h2:=ih fun r hr=>h r (List.mem_cons_of_mem _ hr)
     rw[midsN,List.length_cons];omega
   have h2:=k fun r hr=>(all_ok lo hi r hr).2.1
   have h3:=Sp.all_len lo hi;omega
  rw[List.length_cons];show l.length≤(chainL (leadRows l i (i+1) rs) (i+1) rss).length∧(chainL (leadRows l i (i+1) rs) (i+1) rss).length≤_;omega
theorem chain_fin:∀(rss:Rowss) (l:List Lst) (i:Nat){z:Nat},(∃s,(chainL l i rss)[z]? =some s∧s.fin=true)↔∃s,l[z]? =some s∧s.fin=true
 |[],_,_,_=>Iff.rfl
 |rs::rss,l,i,_=>(chain_fin rss (leadRows l i (i+1) rs) (i+1)).trans fin_iff
theorem chain_good:∀(rss:Rowss) (l:List Lst) (i:Nat),OkR rss→i+rss.length<l.length→LGood l→LGood (chainL l i rss)
 |[],_,_,_,_,h=>h
 |
  rs::rss,l,i,hr,hi,h=>by
  rw[List.length_cons]at hi;have hlen:=leadRows_len rs l i (i+1);refine chain_good rss _ _ hr.tail (by omega) (h.rows rs (by omega) ?_);obtain⟨lo,hi,rfl⟩:=hr.head;exact fun r hr=>(all_ok lo hi r hr).2.2
def starL(l:List Lst)(i:Nat):List Lst:=l.modify i fun s=>⟨s.fin,s.arcs++[(0,255,(i:Int))],s.free++[((i:Int)+1)]⟩
def stE(m:Nat):Edge:=fun x t y=>x=m∧((t=[]∧y=m+1)∨(y=m∧∃c:Nat,t=[c]∧c≤255))
theorem starL_len(l:List Lst)(i:Nat):(starL l i).length=l.length:=List.length_modify ..
theorem starL_at{l:List Lst}{a:Nat}{s:Lst}(h:l[a]? =some s):(starL l a)[a]? =some ⟨s.fin,s.arcs++[(0,255,(a:Int))],s.free++[((a:Int)+1)]⟩:=by
 unfold starL;rw[List.getElem?_modify,h];show some (if a=a then _ else _)=_;rw[if_pos rfl]
theorem starL_ne{l:List Lst}{a x:Nat}(h:a≠x):(starL l a)[x]? =l[x]? :=by
 unfold starL;rw[List.getElem?_modify];cases l[x]? with
 |none=>rfl
 |
  some s=>
  show some (if a=x then _ else _)=_;rw[if_neg h]
theorem starL_edge{l:List Lst}{a:Nat}(ha:a<l.length)(x:Nat)(t:List Nat)(y:Nat):edgeL (starL l a) x t y↔orE (edgeL l) (stE a) x t y:=by
 by_cases e:a=x
 ·subst e;obtain⟨s0,hs0⟩:∃s,l[a]? =some s:=⟨l[a],List.getElem?_eq_getElem ha⟩;have hs1:=starL_at hs0;constructor
  ·rintro⟨s,hs,h⟩;rw[hs1]at hs;injection hs with hs
   subst hs;rcases h with⟨h1,h2⟩|⟨c,rfl,z,hz,h1,h2,h3⟩
   ·rcases List.mem_append.1 h2 with h2|h2
    ·exact .inl ⟨s0,hs0,.inl ⟨h1,h2⟩⟩
    ·have h2:=List.mem_singleton.1 h2;exact .inr ⟨rfl,.inl ⟨h1,by omega⟩⟩
   ·rcases List.mem_append.1 hz with hz|hz
    ·exact .inl ⟨s0,hs0,.inr ⟨c,rfl,z,hz,h1,h2,h3⟩⟩
    ·rw[List.mem_singleton]at hz;subst hz;have h2:(c:Int)≤255:=h2;have h3:(a:Int)=(y:Int):=h3;exact .inr ⟨rfl,.inr ⟨by omega,c,rfl,by omega⟩⟩
  ·rintro(⟨s,hs,h⟩|⟨_,⟨rfl,rfl⟩|⟨rfl,c,rfl,h1⟩⟩)
   ·rw[hs0]at hs;injection hs with hs
    subst hs;rcases h with⟨h1,h2⟩|⟨c,rfl,z,hz,h1⟩
    ·exact⟨_,hs1,.inl ⟨h1,List.mem_append_left _ h2⟩⟩
    ·exact⟨_,hs1,.inr ⟨c,rfl,z,List.mem_append_left _ hz,h1⟩⟩
   ·exact⟨_,hs1,.inl ⟨rfl,List.mem_append_right _ (List.mem_singleton.2 (by omega))⟩⟩
   ·exact⟨_,hs1,.inr ⟨c,rfl,_,List.mem_append_right _ (List.mem_singleton.2 rfl),by show(0:Int)≤_;omega,by show(c:Int)≤255;omega,rfl⟩⟩
 ·unfold edgeL orE stE;rw[starL_ne e];exact⟨.inl,fun h=>h.elim id fun h=>absurd h.1.symm e⟩
theorem starL_fin{l:List Lst}{a z:Nat}:(∃s,(starL l a)[z]? =some s∧s.fin=true)↔∃s,l[z]? =some s∧s.fin=true:=by
 by_cases e:a=z
 ·subst e;cases h:l[a]? with
  |
   none=>
   rw[List.getElem?_eq_none (by rw[starL_len];exact List.getElem?_eq_none_iff.1 h)]
  |
   some s=>
   rw[starL_at h];constructor
   ·rintro⟨_,h1,h2⟩;injection h1 with h1
    subst h1;exact⟨s,rfl,h2⟩
   ·rintro⟨_,h1,h2⟩;injection h1 with h1
    subst h1;exact⟨_,rfl,h2⟩
 ·rw[starL_ne e]
theorem starL_good{l:List Lst}{a:Nat}(ha:a+1<l.length)(h:LGood l):LGood (starL l a):=by
 have hlen:=starL_len l a;have key:∀s∈starL l a,∃s0∈l,(∀z∈s.free,z∈s0.free∨z=(a:Int)+1)∧∀z∈s.arcs,z∈s0.arcs∨z=(0,255,(a:Int)):=by
  intro s hs
  obtain⟨j,hj⟩:=List.mem_iff_getElem?.1 hs;by_cases e:a=j
  ·subst e;have hja:a<l.length:=by omega
   rw[starL_at (List.getElem?_eq_getElem hja)]at hj;injection hj with hj
   subst hj;refine⟨l[a],List.getElem_mem _,fun z hz=>?_,fun z hz=>?_⟩
   ·rcases List.mem_append.1 hz with hz|hz
    ·exact .inl hz
    ·exact .inr (List.mem_singleton.1 hz)
   ·rcases List.mem_append.1 hz with hz|hz
    ·exact .inl hz
    ·exact .inr (List.mem_singleton.1 hz)
  ·rw[starL_ne e]at hj;exact⟨s,List.mem_of_getElem? hj,fun z hz=>.inl hz,fun z hz=>.inl hz⟩
 refine⟨fun e=>?_,fun s hs z hz=>?_,fun s hs t ht=>?_⟩
 ·have:=congrArg List.length e;rw[hlen,List.length_nil]at this;omega
 ·obtain⟨s0,hs0,_,k⟩:=key s hs;rw[hlen];rcases k z hz with hz|rfl
  ·exact h.arc s0 hs0 z hz
  ·exact⟨by show(0:Int)≤0;omega,by show(0:Int)≤255;omega,by show(255:Int)≤255;omega,by show 0≤(a:Int);omega,by show(a:Int)<_;omega⟩
 ·obtain⟨s0,hs0,k,_⟩:=key s hs;rw[hlen];rcases k t ht with ht|rfl
  ·exact h.fre s0 hs0 t ht
  ·omega
def baseL(n:Nat):List Lst:=List.replicate n ⟨false,[],[]⟩++[endS]
theorem baseL_len(n:Nat):(baseL n).length=n+1:=by
 unfold baseL;rw[List.length_append,List.length_replicate];rfl
theorem baseL_get{n x:Nat}{s:Lst}(h:(baseL n)[x]? =some s):s.arcs=[]∧s.free=[]∧(s.fin=true↔x=n):=by
 unfold baseL at h;by_cases hx:x<n
 ·rw[List.getElem?_append_left (by rw[List.length_replicate];exact hx),List.getElem?_replicate,if_pos hx]at h;injection h with h
  subst h;exact⟨rfl,rfl,fun h=>(Bool.false_ne_true h).elim,fun h=>by omega⟩
 ·rw[List.getElem?_append_right (by rw[List.length_replicate];omega),List.length_replicate]at h;have hx2:=(List.getElem?_eq_some_iff.1 h).1;simp at hx2
  obtain rfl:x=n:=by omega
  rw[Nat.sub_self]at h;injection h with h
  subst h;exact⟨rfl,rfl,fun _=>rfl,fun _=>rfl⟩
theorem baseL_edge{n x y:Nat}{t:List Nat}:¬edgeL (baseL n) x t y:=by
 rintro⟨s,hs,h⟩;obtain⟨h1,h2,_⟩:=baseL_get hs;rcases h with⟨_,h⟩|⟨_,_,a,h,_⟩
 ·rw[h2]at h;cases h
 ·rw[h1]at h;cases h
theorem baseL_good(n:Nat):LGood (baseL n):=by
 refine⟨fun e=>?_,fun s hs a ha=>?_,fun s hs a ha=>?_⟩
 ·have:=congrArg List.length e;rw[baseL_len]at this;simp at this
 ·obtain⟨j,hj⟩:=List.mem_iff_getElem?.1 hs;rw[(baseL_get hj).1]at ha;cases ha
 ·obtain⟨j,hj⟩:=List.mem_iff_getElem?.1 hs;rw[(baseL_get hj).2.1]at ha;cases ha
def wildL(rss:Rowss)(star:Bool):List Lst:=if star then starL (chainL (baseL (rss.length+1)) 0 rss) rss.length else chainL (baseL rss.length) 0 rss
def xE(rss:Rowss)(star:Bool):Edge:=if star then stE rss.length else noE
def endN(rss:Rowss)(star:Bool):Nat:=if star then rss.length+1 else rss.length
theorem wild_way1{rss:Rowss}{star:Bool}(hr:OkR rss){t:List Nat}{y:Nat}:Way (edgeL (wildL rss star)) 0 t y↔Way (orE (edgeL (chainL (baseL (endN rss star)) 0 rss)) (xE rss star)) 0 t y:=by
 cases star
 ·exact noE_way.symm
 ·refine Way.iff fun x t y=>starL_edge ?_ x t y
  have h1:=(chain_len rss (baseL (rss.length+1)) 0 hr).1;rw[baseL_len]at h1;omega
theorem xE_in(rss:Rowss)(star:Bool):InE (xE rss star) (baseL (endN rss star)).length:=by
 rw[baseL_len];cases star
 ·exact noE_in _
 ·rintro x t y ⟨rfl,⟨_,rfl⟩|⟨rfl,_⟩⟩
  ·exact⟨by show rss.length<rss.length+1+1;omega,by show rss.length+1<rss.length+1+1;omega⟩
  ·exact⟨by show rss.length<rss.length+1+1;omega,by show rss.length<rss.length+1+1;omega⟩
theorem base_len{rss:Rowss}{star:Bool}:0+rss.length<(baseL (endN rss star)).length:=by
 rw[baseL_len];cases star
 ·show 0+rss.length<rss.length+1;omega
 ·show 0+rss.length<rss.length+1+1;omega
def endP(rss:Rowss)(star:Bool)(v:List Nat)(y:Nat):Prop:=if star then(y=rss.length∨y=rss.length+1)∧∀c∈v,c≤255 else v=[]∧y=rss.length
theorem xE_way{rss:Rowss}{star:Bool}{v:List Nat}{y:Nat}:Way (xE rss star) rss.length v y↔endP rss star v y:=by
 cases star
 ·constructor
  ·intro h
   cases h with
   |nil=>exact⟨rfl,rfl⟩
   |cons h _=>exact h.elim
  ·rintro⟨rfl,rfl⟩;exact .nil _
 ·have key:∀{a y:Nat}{v:List Nat},Way (stE rss.length) a v y→(a=rss.length→(y=rss.length∨y=rss.length+1)∧∀c∈v,c≤255)∧(a=rss.length+1→v=[]∧y=a):=by
   intro a y v h
   induction h with
   |nil x=>exact⟨fun h=>⟨.inl h,fun c hc=>absurd hc List.not_mem_nil⟩,fun _=>⟨rfl,rfl⟩⟩
   |
    @cons x y z t u h1 _ ih=>
    obtain⟨rfl,⟨rfl,rfl⟩|⟨rfl,c,rfl,hc⟩⟩:=h1
    ·refine⟨fun _=>?_,fun h=>by omega⟩;obtain⟨rfl,rfl⟩:=ih.2 rfl;exact⟨.inr rfl,fun c hc=>absurd hc (by simp)⟩
    ·refine⟨fun _=>?_,fun h=>by omega⟩;obtain⟨h3,h4⟩:=ih.1 rfl;refine⟨h3,fun d hd=>?_⟩;rcases List.mem_cons.1 (show d∈c::u from hd)with rfl|hd
     ·exact hc
     ·exact h4 d hd
  constructor
  ·exact fun h=>(key h).1 rfl
  ·rintro⟨h1,h2⟩;have k:∀v:List Nat,(∀c∈v,c≤255)→Way (stE rss.length) rss.length v rss.length:=by
    intro v
    induction v with
    |nil=>exact fun _=>.nil _
    |cons c v ih=>exact fun h=>Way.cons (t:=[c]) ⟨rfl,.inr ⟨rfl,c,rfl,h c (List.mem_cons_self ..)⟩⟩ (ih fun d hd=>h d (List.mem_cons_of_mem _ hd))
   rcases h1 with rfl|rfl
   ·exact k v h2
   ·have:=(k v h2).trans (.one (y:=rss.length+1) (t:=[]) ⟨rfl,.inl ⟨rfl,rfl⟩⟩);rwa[List.append_nil]at this
theorem chE_ge:∀{rss:Rowss}{i x y:Nat}{t:List Nat},chE i rss x t y→i≤x∧i<y
 |[],_,_,_,_,h=>h.elim
 |
  rs::rss,i,x,y,t,h=>by
  rcases h with⟨rfl,rfl,_⟩|h
  ·omega
  ·have:=chE_ge h;omega
theorem chE_way:∀(rss:Rowss) (i:Nat) (X:Edge),(∀x t y,X x t y→i+rss.length≤x∧i+rss.length≤y)→∀{t:List Nat}{y:Nat},Way (orE (chE i rss) X) i t y↔(∃k,k<rss.length∧y=i+k∧Sg (rss.take k) t)∨∃u v,t=u++v∧Sg rss u∧Way X (i+rss.length) v y
 |
  [],i,X,_,t,y=>by
  have e:Way (orE (chE i []) X) i t y↔Way X i t y:=Way.iff fun _ _ _=>⟨fun h=>h.elim False.elim id,.inr⟩
  rw[e];constructor
  ·exact fun h=>.inr ⟨[],t,rfl,rfl,h⟩
  ·rintro(⟨k,h,_⟩|⟨u,v,rfl,h,hw⟩)
   ·simp at h
   ·have h:u=[]:=h;subst h;exact hw
 |
  rs::rss,i,X,hX,t,y=>by
  rw[List.length_cons]at hX;have ih:=fun{t:List Nat}{y:Nat}=>chE_way rss (i+1) X (fun x t y h=>by have:=hX x t y h;omega) (t:=t) (y:=y)
  have hup:∀{a b:Nat}{t:List Nat},Way (orE (chE i (rs::rss)) X) a t b→i+1≤a→Way (orE (chE (i+1) rss) X) a t b:=by
   intro a b t h
   induction h with
   |nil=>exact fun _=>.nil _
   |
    cons h1 _ ih=>
    intro ha
    rcases h1 with(⟨rfl,_⟩|h1)|h1
    ·omega
    ·have:=chE_ge h1;exact .cons (.inl h1) (ih (by omega))
    ·have:=hX _ _ _ h1;exact .cons (.inr h1) (ih (by omega))
  have hdn:∀{a b:Nat}{t:List Nat},Way (orE (chE (i+1) rss) X) a t b→Way (orE (chE i (rs::rss)) X) a t b:=fun h=>h.mono fun _ _ _ h=>h.elim (fun h=>.inl (.inr h)) .inr
  constructor
  ·intro h
   cases h with
   |nil=>exact .inl ⟨0,by simp,rfl,rfl⟩
   |
    @cons _ z _ u v h1 h2=>
    rcases h1 with(⟨_,rfl,hf⟩|h1)|h1
    ·rcases ih.1 (hup h2 (Nat.le_refl _))with⟨k,hk,rfl,hs⟩|⟨u',v',rfl,hs,hw⟩
     ·exact .inl ⟨k+1,by rw[List.length_cons];omega,by omega,u,v,rfl,hf,hs⟩
     ·refine .inr ⟨u++u',v',by rw[List.append_assoc],⟨u,u',rfl,hf,hs⟩,?_⟩;rw[List.length_cons,show i+(rss.length+1)=i+1+rss.length by omega];exact hw
    ·have:=chE_ge h1;omega
    ·have:=hX _ _ _ h1;omega
  ·rintro(⟨k,hk,rfl,hs⟩|⟨u,v,rfl,⟨u1,u2,rfl,hf,hs⟩,hw⟩)
   ·cases k with
    |
     zero=>
     have hs:t=[]:=hs;subst hs;exact .nil _
    |
     succ k=>
     obtain⟨u,v,rfl,hf,hs⟩:=hs;refine .cons (.inl (.inl ⟨rfl,rfl,hf⟩)) (hdn (ih.2 (.inl ⟨k,by rw[List.length_cons]at hk;omega,by omega,hs⟩)))
   ·rw[List.append_assoc];refine .cons (.inl (.inl ⟨rfl,rfl,hf⟩)) (hdn (ih.2 (.inr ⟨u2,v,rfl,hs,?_⟩)));rw[List.length_cons,show i+(rss.length+1)=i+1+rss.length by omega]at hw;exact hw
def atB(rss:Rowss)(star:Bool)(t:List Nat)(y:Nat):Prop:=(y<rss.length∧Sg (rss.take y) t)∨∃u v,t=u++v∧Sg rss u∧endP rss star v y
theorem wild_base{rss:Rowss}{star:Bool}{t:List Nat}{y:Nat}:Way (orE (edgeL (baseL (endN rss star))) (orE (chE 0 rss) (xE rss star))) 0 t y↔atB rss star t y:=by
 have e:Way (orE (edgeL (baseL (endN rss star))) (orE (chE 0 rss) (xE rss star))) 0 t y↔Way (orE (chE 0 rss) (xE rss star)) 0 t y:=Way.iff fun _ _ _=>⟨fun h=>h.elim (fun h=>absurd h baseL_edge) id,.inr⟩
 rw[e,chE_way rss 0 _ fun x t y h=>by
  cases star
  ·exact h.elim
  ·obtain⟨rfl,⟨_,rfl⟩|⟨rfl,_⟩⟩:=h<;>omega]
 unfold atB;rw[Nat.zero_add];simp only[xE_way];refine or_congr ⟨?_,?_⟩ Iff.rfl
 ·rintro⟨k,hk,rfl,hs⟩;rw[Nat.zero_add];exact⟨hk,hs⟩
 ·rintro⟨hk,hs⟩;exact⟨y,hk,by omega,hs⟩
theorem wild_way{rss:Rowss}{star:Bool}(hr:OkR rss){t:List Nat}{y:Nat}(hy:y<endN rss star+1):Way (edgeL (wildL rss star)) 0 t y↔atB rss star t y:=by
 have hb:= @base_len rss star;have hl:=baseL_len (endN rss star);rw[wild_way1 hr,chain_way rss _ 0 _ hr hb (fun x t y h=>absurd h baseL_edge) (xE_in rss star) (by omega) (by omega),wild_base]
theorem wild_mid{rss:Rowss}{star:Bool}(hr:OkR rss){t:List Nat}{y:Nat}(hy:endN rss star+1≤y):Way (edgeL (wildL rss star)) 0 t y↔∃(k:Nat) (rs:List (List (Int×Int))) (t' u:List Nat),rss[k]? =some rs∧t=t'++u∧Sg (rss.take k) t'∧midsP (offN (endN rss star+1) rss k) rs u y:=by
 have hb:= @base_len rss star;have hl:=baseL_len (endN rss star);rw[wild_way1 hr,chain_mid rss _ 0 _ hr hb (fun x t y h=>absurd h baseL_edge) (xE_in rss star) (by omega) (by omega)];constructor
 ·rintro⟨k,rs,t',u,h0,rfl,h1,h2⟩;rw[wild_base]at h1;rw[hl]at h2;have hk:=(List.getElem?_eq_some_iff.1 h0).1;rcases h1 with⟨_,h1⟩|⟨a,b,rfl,h3,h4⟩
  ·rw[Nat.zero_add]at h1;exact⟨k,rs,t',u,h0,rfl,h1,h2⟩
  ·exfalso
   cases star
   ·have:=h4.2;omega
   ·have:=h4.1;omega
 ·rintro⟨k,rs,t',u,h0,rfl,h1,h2⟩;refine⟨k,rs,t',u,h0,rfl,?_,by rw[hl];exact h2⟩;rw[wild_base];have hk:=(List.getElem?_eq_some_iff.1 h0).1;exact .inl ⟨by omega,by rw[Nat.zero_add];exact h1⟩
theorem wild_len{rss:Rowss}{star:Bool}(hr:OkR rss):endN rss star+1≤(wildL rss star).length∧(wildL rss star).length≤61*rss.length+2:=by
 have h:=chain_len rss (baseL (endN rss star)) 0 hr;rw[baseL_len]at h;cases star
 ·have h:rss.length+1≤(chainL (baseL rss.length) 0 rss).length∧(chainL (baseL rss.length) 0 rss).length≤rss.length+1+60*rss.length:=h;show rss.length+1≤(chainL (baseL rss.length) 0 rss).length∧(chainL (baseL rss.length) 0 rss).length≤_;omega
 ·have h:rss.length+1+1≤(chainL (baseL (rss.length+1)) 0 rss).length∧(chainL (baseL (rss.length+1)) 0 rss).length≤rss.length+1+1+60*rss.length:=h;show rss.length+1+1≤(starL (chainL (baseL (rss.length+1)) 0 rss) rss.length).length∧(starL (chainL (baseL (rss.length+1)) 0 rss) rss.length).length≤_;rw[starL_len];omega
theorem wild_good{rss:Rowss}(star:Bool)(hr:OkR rss):LGood (wildL rss star):=by
 have h:=chain_good rss _ 0 hr (@base_len rss star) (baseL_good _);cases star
 ·exact h
 ·refine starL_good ?_ h;have h1:=(chain_len rss (baseL (rss.length+1)) 0 hr).1;rw[baseL_len]at h1;show rss.length+1<(chainL (baseL (rss.length+1)) 0 rss).length;omega
theorem wild_fin{rss:Rowss}{star:Bool}{z:Nat}:(∃s,(wildL rss star)[z]? =some s∧s.fin=true)↔z=endN rss star:=by
 have h:(∃s,(wildL rss star)[z]? =some s∧s.fin=true)↔∃s,(baseL (endN rss star))[z]? =some s∧s.fin=true:=by
  cases star
  ·exact chain_fin rss _ 0
  ·exact starL_fin.trans (chain_fin rss _ 0)
 rw[h];constructor
 ·rintro⟨s,h1,h2⟩;exact(baseL_get h1).2.2.1 h2
 ·rintro rfl;have hl:=baseL_len (endN rss star);obtain⟨s,hs⟩:∃s,(baseL (endN rss star))[endN rss star]? =some s:=⟨(baseL (endN rss star))[endN rss star]'(by omega),List.getElem?_eq_getElem _⟩;exact⟨s,hs,(baseL_get hs).2.2.2 rfl⟩
theorem wild_takes{rss:Rowss}{star:Bool}(hr:OkR rss)(t:List UInt8):looseTakes (wildL rss star) t=true↔∃u v,bytesN t=u++v∧Sg rss u∧(star=true∨v=[]):=by
 have h:looseTakes (wildL rss star) t=true↔∃z s,(wildL rss star)[z]? =some s∧s.fin=true∧Way (edgeL (wildL rss star)) 0 (bytesN t) z:=takes_way;have h2:(∃z s,(wildL rss star)[z]? =some s∧s.fin=true∧Way (edgeL (wildL rss star)) 0 (bytesN t) z)↔Way (edgeL (wildL rss star)) 0 (bytesN t) (endN rss star):=by
  constructor
  ·rintro⟨z,s,h1,h2,h3⟩;obtain rfl:=wild_fin.1 ⟨s,h1,h2⟩;exact h3
  ·intro h
   obtain⟨s,h1,h2⟩:=wild_fin.2 (rfl:endN rss star=endN rss star);exact⟨_,s,h1,h2,h⟩
 rw[h,h2,wild_way hr (by omega)];have hb:∀c∈bytesN t,c≤255:=fun c hc=>by
  obtain⟨b,_,rfl⟩:=List.mem_map.1 hc;have:=b.toNat_lt;omega
 constructor
 ·rintro(⟨h1,_⟩|⟨u,v,h1,h2,h3⟩)
  ·cases star
   ·exact absurd h1 (by show¬rss.length<rss.length;omega)
   ·exact absurd h1 (by show¬rss.length+1<rss.length;omega)
  ·refine⟨u,v,h1,h2,?_⟩;cases star
   ·exact .inr h3.1
   ·exact .inl rfl
 ·rintro⟨u,v,h1,h2,h3⟩;refine .inr ⟨u,v,h1,h2,?_⟩;cases star
  ·rcases h3 with h3|h3
   ·cases h3
   ·exact⟨h3,rfl⟩
  ·exact⟨.inr rfl,fun c hc=>hb c (by rw[h1];exact List.mem_append_right _ hc)⟩
end
end Go.Proofs.YtaociahafamncaaGreatDoor
