/- Folded. -/
import Derived.Test.YtaociahafamncaaGreatDoorHW18
set_option maxRecDepth 100000
set_option maxHeartbeats 40000000
namespace Go.Proofs.YtaociahafamncaaGreatDoor
section
open Go.RowKit
structure Cls(d:List St)(cls:Nat→Nat)(rep:Nat→Nat):Prop where
 good:Good d
 iff:∀x,x<d.length→∀y,y<d.length→(cls x=cls y↔Leq (auOf d) x (auOf d) y)
 rep_:∀x,x<d.length→(auOf d).live x→rep (cls x)<d.length∧cls (rep (cls x))=cls x
def addC(cls rep:Nat→Nat)(met:List Nat)(k:Nat):List Nat:=if(findI (fun z=>decide (cls z=k)) met).isSome then met else met++[rep k]
def numK(cls:Nat→Nat)(met:List Nat)(k:Nat):Nat:=(findI (fun z=>decide (cls z=k)) met).getD 0
noncomputable def gOf(d:List St)(cls:Nat→Nat)(x:Nat)(c:Nat):Option Nat:=((auOf d).stepL x c).map cls
def metA(cls rep:Nat→Nat)(met:List Nat)(A:List Arc3):List Nat:=A.foldl (fun m a=>addC cls rep m a.2.2.toNat) met
theorem metA_snoc(cls rep:Nat→Nat)(met:List Nat)(A:List Arc3)(a:Arc3):metA cls rep met (A++[a])=addC cls rep (metA cls rep met A) a.2.2.toNat:=by
 unfold metA;rw[List.foldl_append];rfl
section
variable {d:List St}{cls rep:Nat→Nat}
theorem addC_pre(met:List Nat)(k:Nat):∃more,addC cls rep met k=met++more:=by
 unfold addC;split
 ·exact⟨[],by simp⟩
 ·exact⟨_,rfl⟩
theorem metA_pre(met:List Nat)(A:List Arc3):∃more,metA cls rep met A=met++more:=by
 induction A using rev_ind with
 |h0=>exact⟨[],by simp[metA]⟩
 |
  h1 l a ih=>
  obtain⟨m1,h1⟩:=ih;rw[metA_snoc];obtain⟨m2,h2⟩:=addC_pre (cls:=cls) (rep:=rep) (metA cls rep met l) a.2.2.toNat
  exact⟨m1++m2,by rw[h2,h1,List.append_assoc]⟩
theorem find_more{met more:List Nat}{k i:Nat}(h:findI (fun z=>decide (cls z=k)) met=some i):findI (fun z=>decide (cls z=k)) (met++more)=some i:=by
 rw[findI_append,h]
theorem addC_has{met:List Nat}{k:Nat}(hr:cls (rep k)=k):∃i,findI (fun z=>decide (cls z=k)) (addC cls rep met k)=some i:=by
 unfold addC;split
 ·rename_i h
  exact Option.isSome_iff_exists.1 h
 ·rename_i h
  rw[findI_append];cases hf:findI (fun z=>decide (cls z=k)) met with
  |some i=>rw[hf]at h;exact absurd rfl h
  |none=>exact⟨met.length,by simp[findI,hr]⟩
theorem addC_again{met:List Nat}{k i:Nat}(h:findI (fun z=>decide (cls z=k)) met=some i):addC cls rep met k=met:=by
 unfold addC;rw[h];rfl
theorem gOf_rep(h:Cls d cls rep){x c k:Nat}(hx:x<d.length)(hg:gOf d cls x c=some k):∃y,(auOf d).stepL x c=some y∧y<d.length∧(auOf d).live y∧cls y=k∧rep k<d.length∧cls (rep k)=k:=by
 obtain⟨y,h1,h2⟩:=Option.map_eq_some_iff.1 hg;obtain⟨h3,h4,_⟩:=stepL_in h.good.within hx h1;have:=h.rep_ y h3 h4;rw[h2]at this;exact⟨y,h1,h3,h4,h2,this⟩
open Classical in
noncomputable def repL(d:List St)(cls rep:Nat→Nat)(y:Nat):Nat:=if y<d.length∧(auOf d).live y then rep (cls y)else y
theorem repL_leq(h:Cls d cls rep)(y:Nat):Leq (auOf d) (repL d cls rep y) (auOf d) y:=by
 unfold repL;split
 ·rename_i hy
  have:=h.rep_ y hy.1 hy.2;exact(h.iff _ this.1 y hy.1).1 this.2
 ·exact Leq.refl _ _
theorem leastW_eqv{σ:Type}{M:Au σ}{r:σ→σ}{z y:σ}{p:Prop}[hp:Decidable p](h:Leq M z M y↔p):(leastW M r).eqv z y=decide p:=by
 have e:(leastW M r).eqv z y= @decide (Leq M z M y) (Classical.propDecidable _):=rfl;rw[e];exact decide_eq_decide.2 h
theorem metA_runs(h:Cls d cls rep){x:Nat}(hx:x<d.length){met:List Nat}(hm:∀z∈met,z<d.length):∀n,n≤256→metA cls rep met (runs (gOf d cls x) n)=(leastW (auOf d) (repL d cls rep)).row x met n∧∀z∈metA cls rep met (runs (gOf d cls x) n),z<d.length
 |0,_=>⟨rfl,hm⟩
 |
  n+1,hn=>by
  obtain⟨ih,ih2⟩:=metA_runs h hx hm n (by omega);have hstep:(leastW (auOf d) (repL d cls rep)).step x n=(auOf d).stepL x n:=rfl;rw[runs,Bfs.row,hstep];cases hg:gOf d cls x n with
  |
   none=>
   have hs:(auOf d).stepL x n=none:=Option.map_eq_none_iff.1 hg;rw[hs];exact⟨ih,ih2⟩
  |
   some k=>
   obtain⟨y,h1,h2,h3,h4,h5,h6⟩:=gOf_rep h hx hg;rw[h1];simp only
   have hgrow:metA cls rep met (growA (runs (gOf d cls x) n) n k)=addC cls rep (metA cls rep met (runs (gOf d cls x) n)) k:=by
    unfold growA;split
    ·rename_i a ha
     by_cases hj:a.2.1+1=(n:Int)∧a.2.2=(k:Int)
     ·rw[if_pos hj,metA_snoc];obtain⟨l,hl⟩:=List.getLast?_eq_some_iff.1 ha;rw[hl,List.dropLast_concat,metA_snoc,hj.2,Int.toNat_natCast];obtain⟨i,hi⟩:=addC_has (met:=metA cls rep met l) h6;rw[addC_again hi]
     ·rw[if_neg hj,metA_snoc,Int.toNat_natCast]
    ·rename_i hn
     rw[List.getLast?_eq_none_iff.1 hn];show addC cls rep met _=_;rw[Int.toNat_natCast];rfl
   have hfind:findI (fun z=>(leastW (auOf d) (repL d cls rep)).eqv z y) ((leastW (auOf d) (repL d cls rep)).row x met n)=findI (fun z=>decide (cls z=k)) (metA cls rep met (runs (gOf d cls x) n)):=by
    rw[←ih];have:∀l:List Nat,(∀z∈l,z<d.length)→findI (fun z=>(leastW (auOf d) (repL d cls rep)).eqv z y) l=findI (fun z=>decide (cls z=k)) l:=by
     intro l
     induction l with
     |nil=>intro _;rfl
     |
      cons z r ihl=>
      intro hl
      rw[findI,findI,ihl fun u hu=>hl u (List.mem_cons_of_mem _ hu)];have e:(leastW (auOf d) (repL d cls rep)).eqv z y=decide (cls z=k):=by
       rw[←h4];exact leastW_eqv ((h.iff z (hl z (List.mem_cons_self ..)) y h2).symm)
      rw[e]
    exact this _ ih2
   rw[hgrow,hfind];unfold addC;cases hf:findI (fun z=>decide (cls z=k)) (metA cls rep met (runs (gOf d cls x) n))with
   |
    some i=>
    simp only[Option.isSome_some,if_true];exact⟨ih,ih2⟩
   |
    none=>
    simp only[Option.isSome_none,Bool.false_eq_true,if_false];refine⟨?_,fun z hz=>?_⟩
    ·have:(leastW (auOf d) (repL d cls rep)).rep y=rep k:=by
      show repL d cls rep y=_;unfold repL;rw[if_pos ⟨h2,h3⟩,h4]
     rw[this,ih]
    ·rcases List.mem_append.1 hz with hz|hz
     ·exact ih2 z hz
     ·rw[List.mem_singleton.1 hz];exact h5
def Apart(cls:Nat→Nat)(met:List Nat):Prop:=met.Pairwise fun x y=>cls x≠cls y
theorem addC_apart{met:List Nat}{k:Nat}(h:Apart cls met)(hr:cls (rep k)=k):Apart cls (addC cls rep met k):=by
 unfold addC;split
 ·exact h
 ·rename_i hn
  refine List.pairwise_append.2 ⟨h,List.pairwise_singleton _ _,fun x hx y hy=>?_⟩;rw[List.mem_singleton.1 hy,hr];have hf:findI (fun z=>decide (cls z=k)) met=none:=by
   cases hf:findI (fun z=>decide (cls z=k)) met with
   |none=>rfl
   |some i=>rw[hf]at hn;exact absurd rfl hn
  have:=findI_none.1 hf x hx;exact of_decide_eq_false this
theorem apart_few{met:List Nat}{cnt:Nat}(h:Apart cls met)(hc:∀z∈met,cls z<cnt):met.length≤cnt:=by
 have hn:(met.map cls).Nodup:=by
  unfold List.Nodup;rw[List.pairwise_map];exact h
 have:∀(m:Nat) (l:List Nat),l.Nodup→(∀z∈l,z<m)→l.length≤m:=by
  intro m
  induction m with
  |zero=>intro l _ hl;cases l with
   |nil=>exact Nat.le_refl _
   |cons a r=>exact absurd (hl a (List.mem_cons_self ..)) (Nat.not_lt_zero _)
  |
   succ m ih=>
   intro l hnd hl
   have h1:=ih (l.erase m) (hnd.erase _) fun z hz=>by
    have:=(List.Nodup.mem_erase_iff hnd).1 hz;have:=hl z this.2;omega
   rw[List.length_erase]at h1;split at h1<;>omega
 have:=this cnt (met.map cls) hn fun z hz=>by
  obtain⟨y,hy,rfl⟩:=List.mem_map.1 hz;exact hc y hy
 rwa[List.length_map]at this
theorem numK_more{met more:List Nat}{k i:Nat}(h:findI (fun z=>decide (cls z=k)) met=some i):numK cls (met++more) k=numK cls met k:=by
 unfold numK;rw[find_more h,h]
theorem metA_has(h:Cls d cls rep){x:Nat}(hx:x<d.length){met:List Nat}:∀(A:List Arc3),(∀a∈A,∃c k,gOf d cls x c=some k∧a.2.2=(k:Int))→∀a∈A,∃i,findI (fun z=>decide (cls z=a.2.2.toNat)) (metA cls rep met A)=some i:=by
 intro A
 induction A using rev_ind with
 |h0=>intro _ a ha;cases ha
 |
  h1 l b ih=>
  intro hA a ha
  rw[metA_snoc];rcases List.mem_append.1 ha with ha|ha
  ·obtain⟨i,hi⟩:=ih (fun u hu=>hA u (List.mem_append_left _ hu)) a ha;obtain⟨m,hm⟩:=addC_pre (cls:=cls) (rep:=rep) (metA cls rep met l) b.2.2.toNat
   rw[hm];exact⟨i,find_more hi⟩
  ·rw[List.mem_singleton.1 ha];obtain⟨c,k,hg,hk⟩:=hA b (by simp);obtain⟨y,_,_,_,_,_,h6⟩:=gOf_rep h hx hg;rw[hk,Int.toNat_natCast];exact addC_has h6
def numA(cls:Nat→Nat)(met:List Nat)(A:List Arc3):List Arc3:=A.map fun a=>(a.1,a.2.1,(numK cls met a.2.2.toNat:Int))
theorem numA_more{met more:List Nat}{A:List Arc3}(h:∀a∈A,∃i,findI (fun z=>decide (cls z=a.2.2.toNat)) met=some i):numA cls (met++more) A=numA cls met A:=by
 unfold numA;refine List.map_congr_left fun a ha=>?_
 obtain⟨i,hi⟩:=h a ha;rw[numK_more hi]
theorem numA_runs(h:Cls d cls rep){x:Nat}(hx:x<d.length){met:List Nat}(hm:∀z∈met,z<d.length)(hall:∀c k,c<256→gOf d cls x c=some k→∃i,findI (fun z=>decide (cls z=k)) met=some i):
  numA cls met (runs (gOf d cls x) 256)=runs ((leastW (auOf d) (repL d cls rep)).num met x) 256:=by
 have hnum:∀c,c<256→(gOf d cls x c).map (numK cls met)=(leastW (auOf d) (repL d cls rep)).num met x c:=by
  intro c hc
  have e:(leastW (auOf d) (repL d cls rep)).num met x c=((auOf d).stepL x c).bind fun y=>findI (fun z=>(leastW (auOf d) (repL d cls rep)).eqv z y) met:=rfl
  rw[e];cases hg:gOf d cls x c with
  |
   none=>
   have hs:(auOf d).stepL x c=none:=Option.map_eq_none_iff.1 hg;rw[hs];rfl
  |
   some k=>
   obtain⟨y,h1,h2,h3,h4,h5,h6⟩:=gOf_rep h hx hg;rw[h1];show some (numK cls met k)=findI (fun z=>(leastW (auOf d) (repL d cls rep)).eqv z y) met;have:∀l:List Nat,(∀z∈l,z<d.length)→findI (fun z=>(leastW (auOf d) (repL d cls rep)).eqv z y) l=findI (fun z=>decide (cls z=k)) l:=by
    intro l
    induction l with
    |nil=>intro _;rfl
    |
     cons z r ihl=>
     intro hl
     rw[findI,findI,ihl fun u hu=>hl u (List.mem_cons_of_mem _ hu)];have e:(leastW (auOf d) (repL d cls rep)).eqv z y=decide (cls z=k):=by
      rw[←h4];exact leastW_eqv ((h.iff z (hl z (List.mem_cons_self ..)) y h2).symm)
     rw[e]
   rw[this met hm];obtain⟨i,hi⟩:=hall c k hc hg;unfold numK;rw[hi];rfl
 rw[←runs_congr 256 hnum];have hmap:=runs_map (gOf d cls x) (numK cls met) 256 fun c hc c' hc' k k' hk hk' e=>by
  obtain⟨i,hi⟩:=hall c k hc hk;obtain⟨j,hj⟩:=hall c' k' hc' hk';unfold numK at e;rw[hi,hj]at e;have e:i=j:=e;subst e;obtain⟨z,h1,h2⟩:=findI_some hi;obtain⟨z',h1',h2'⟩:=findI_some hj;rw[h1]at h1';injection h1' with h1'
  subst h1';have h2:=of_decide_eq_true h2;have h2':=of_decide_eq_true h2';rw[←h2,h2']
 rw[hmap];rfl
end
def LeastIs{σ:Type}(M:Au σ)(x:σ)(out:List St):Prop:=
 (M.live x∧∃r:σ→σ,(∀y,Leq M (r y) M y)∧∃f,((leastW M r).run f 0 [x])[f]? =none∧out=leastOf M r f x)∨(¬M.live x∧out=[(false,[])])
theorem leastOf_end{σ:Type}(M:Au σ)(r:σ→σ){f:Nat}{x:σ}(h:((leastW M r).run f 0 [x])[f]? =none)(k:Nat):leastOf M r (f+k) x=leastOf M r f x:=by
 unfold leastOf;rw[Bfs.run_end _ (by rw[Nat.zero_add];exact h)]
theorem LeastIs.eq{σ τ:Type}{M:Au σ}{N:Au τ}{x:σ}{y:τ}{a b:List St}(ha:LeastIs M x a)(hb:LeastIs N y b)(h:Leq M x N y):a=b:=by
 rcases ha with⟨hl,r,hr,f,hf,rfl⟩|⟨hl,rfl⟩
 ·rcases hb with⟨hl',q,hq,g,hg,rfl⟩|⟨hl',_⟩
  ·rw[←leastOf_end M r hf g,←leastOf_end N q hg f,Nat.add_comm g f];exact leastOf_eq hr hq _ h
  ·exact absurd (h.live.1 hl) hl'
 ·rcases hb with⟨hl',_⟩|⟨_,rfl⟩
  ·exact absurd (h.live.2 hl') hl
  ·rfl
structure NumP(d:List St)(cls rep:Nat→Nat)(i:Nat)(met:List Nat)(out:List St):Prop where
 run:met=(leastW (auOf d) (repL d cls rep)).run i 0 [0]
 lt:∀z∈met,z<d.length
 ap:Apart cls met
 has:∀(j x:Nat),j<i→met[j]? =some x→∀c k,c<256→gOf d cls x c=some k→∃q,findI (fun z=>decide (cls z=k)) met=some q
 out_:out=(met.take i).map fun x=>((auOf d).fin x,numA cls met (runs (gOf d cls x) 256))
 le:i≤met.length
theorem NumP.start{d:List St}{cls rep:Nat→Nat}(h:Cls d cls rep):NumP d cls rep 0 [0] []:=by
 refine⟨rfl,fun z hz=>?_,List.pairwise_singleton _ _,fun j x hj=>absurd hj (Nat.not_lt_zero _),rfl,Nat.zero_le _⟩;rw[List.mem_singleton.1 hz];exact List.length_pos_iff.2 h.good.ne
theorem runs_gOf{d:List St}{cls:Nat→Nat}{x:Nat}:∀a∈runs (gOf d cls x) 256,∃c k,gOf d cls x c=some k∧a.2.2=(k:Int):=fun a ha=>by
 obtain⟨c,k,_,h1,h2⟩:=runs_mem _ 256 a ha;exact⟨c,k,h1,h2⟩
theorem look_runs{g:Nat→Option Nat}{c k:Nat}(hc:c<256)(hg:g c=some k):∃a∈runs g 256,a.2.2=(k:Int):=by
 have h:=(runs_asc g 256).2 c;rw[if_pos hc,hg]at h;obtain⟨a,ha,hk,_⟩:=lookA_some h;exact⟨a,ha,hk⟩
theorem metA_apart{d:List St}{cls rep:Nat→Nat}(h:Cls d cls rep){x:Nat}(hx:x<d.length){met:List Nat}(ha:Apart cls met):∀A:List Arc3,(∀a∈A,∃c k,gOf d cls x c=some k∧a.2.2=(k:Int))→Apart cls (metA cls rep met A):=by
 intro A
 induction A using rev_ind with
 |h0=>intro _;exact ha
 |
  h1 l b ih=>
  intro hA
  rw[metA_snoc];obtain⟨c,k,h1,h2⟩:=hA b (by simp);obtain⟨_,_,_,_,_,_,h6⟩:=gOf_rep h hx h1;refine addC_apart (ih fun a ha=>hA a (List.mem_append_left _ ha)) ?_;rw[h2,Int.toNat_natCast];exact h6
theorem metA_lt{d:List St}{cls rep:Nat→Nat}(h:Cls d cls rep){x:Nat}(hx:x<d.length){met:List Nat}(hm:∀z∈met,z<d.length):∀A:List Arc3,(∀a∈A,∃c k,gOf d cls x c=some k∧a.2.2=(k:Int))→∀z∈metA cls rep met A,z<d.length:=by
 intro A
 induction A using rev_ind with
 |h0=>intro _;exact hm
 |
  h1 l b ih=>
  intro hA z hz
  rw[metA_snoc]at hz;obtain⟨c,k,h1,h2⟩:=hA b (by simp);obtain⟨_,_,_,_,_,h5,_⟩:=gOf_rep h hx h1;unfold addC at hz;split at hz
  ·exact ih (fun a ha=>hA a (List.mem_append_left _ ha)) z hz
  ·rcases List.mem_append.1 hz with hz|hz
   ·exact ih (fun a ha=>hA a (List.mem_append_left _ ha)) z hz
   ·rw[List.mem_singleton.1 hz,h2,Int.toNat_natCast];exact h5
theorem NumP.step{d:List St}{cls rep:Nat→Nat}(hc:Cls d cls rep){i x:Nat}{met:List Nat}{out:List St}(h:NumP d cls rep i met out)(hx:met[i]? =some x):NumP d cls rep (i+1) (metA cls rep met (runs (gOf d cls x) 256)) (out++[((auOf d).fin x,numA cls (metA cls rep met (runs (gOf d cls x) 256)) (runs (gOf d cls x) 256))]):=by
 have hxd:=h.lt x (List.mem_of_getElem? hx);obtain⟨hrow,hlt⟩:=metA_runs hc hxd h.lt 256 (Nat.le_refl _);obtain⟨more,hmore⟩:=metA_pre (cls:=cls) (rep:=rep) met (runs (gOf d cls x) 256);have hil:=(List.getElem?_eq_some_iff.1 hx).1;have hgot:=metA_has hc hxd (met:=met) (runs (gOf d cls x) 256) runs_gOf;refine⟨?_,hlt,metA_apart hc hxd h.ap _ runs_gOf,fun j y hj hy c k hck hg=>?_,?_,by rw[hmore,List.length_append];omega⟩
 ·rw[Bfs.run_succ,Nat.zero_add,←h.run,hx];exact hrow
 ·by_cases hji:j<i
  ·rw[hmore,List.getElem?_append_left (by omega)]at hy;obtain⟨q,hq⟩:=h.has j y hji hy c k hck hg;rw[hmore];exact⟨q,find_more hq⟩
  ·obtain rfl:j=i:=by omega
   rw[hmore,List.getElem?_append_left (by omega),hx]at hy;injection hy with hy
   subst hy;obtain⟨a,ha,hak⟩:=look_runs hck hg;obtain⟨q,hq⟩:=hgot a ha;rw[hak,Int.toNat_natCast]at hq;exact⟨q,hq⟩
 ·have htake:(metA cls rep met (runs (gOf d cls x) 256)).take (i+1)=met.take i++[x]:=by
   rw[hmore,List.take_append_of_le_length (by omega),List.take_add_one,hx];rfl
  rw[htake,List.map_append,h.out_];congr 1
  refine List.map_congr_left fun y hy=>?_
  obtain⟨j,hj⟩:=List.mem_iff_getElem?.1 hy;rw[List.getElem?_take]at hj;split at hj
  ·rename_i hji
   rw[hmore];rw[numA_more fun a ha=>by
    obtain⟨c,k,hg,hk⟩:=runs_gOf a ha;have hc256:c<256:=by
     obtain⟨c',k',h1,h2,h3⟩:=runs_mem _ 256 a ha;have hl:=(runs_asc (gOf d cls y) 256).2 c;apply Classical.byContradiction
     intro hn
     obtain⟨u,hu,_⟩:=Option.map_eq_some_iff.1 hg;unfold Au.stepL at hu;cases hs:(auOf d).step y c with
     |none=>rw[hs]at hu;cases hu
     |
      some v=>
      have hs2:(d[y]?).bind (fun s=>(lookA s.2 c).map Int.toNat)=some v:=hs;obtain⟨s,h4,h5⟩:=Option.bind_eq_some_iff.1 hs2;obtain⟨t,h6,_⟩:=Option.map_eq_some_iff.1 h5;obtain⟨b,hb,_,hb1,hb2⟩:=lookA_some h6;have:=(hc.good.asc s (List.mem_of_getElem? h4)).ok b hb;omega
    obtain⟨q,hq⟩:=h.has j y hji hj c k hc256 hg;rw[hk,Int.toNat_natCast];exact⟨q,hq⟩]
  ·cases hj
theorem NumP.last{d:List St}{cls rep:Nat→Nat}(hc:Cls d cls rep){i:Nat}{met:List Nat}{out:List St}(h:NumP d cls rep i met out)(hi:i=met.length)(hl:(auOf d).live 0):LeastIs (auOf d) 0 out:=by
 refine .inl ⟨hl,repL d cls rep,repL_leq hc,i,?_,?_⟩
 ·rw[←h.run,List.getElem?_eq_none_iff];omega
 ·rw[h.out_,List.take_of_length_le (by omega)];unfold leastOf Bfs.out;rw[←h.run];refine List.map_congr_left fun x hx=>?_
  have hxd:=h.lt x hx;obtain⟨j,hj⟩:=List.mem_iff_getElem?.1 hx;have hjl:=(List.getElem?_eq_some_iff.1 hj).1;rw[numA_runs hc hxd h.lt fun c k hck hg=>h.has j x (by omega) hj c k hck hg]
end
section
open Go.RowKit
structure Plain{σ:Type}[DecidableEq σ](W:Bfs σ):Prop where
 eqv:∀z y,W.eqv z y=decide (z=y)
 rep:∀x,W.rep x=x
section
variable {σ:Type} [DecidableEq σ]{W:Bfs σ}
def findE{σ:Type}[DecidableEq σ](y:σ)(met:List σ):Option Nat:=findI (fun z=>decide (z=y)) met
theorem Plain.find(h:Plain W)(y:σ)(met:List σ):findI (fun z=>W.eqv z y) met=findE y met:=by
 unfold findE;congr 1
 funext z
 exact h.eqv z y
theorem Plain.refl(h:Plain W)(x:σ):W.eqv (W.rep x) x=true:=by rw[h.rep,h.eqv];simp
theorem findE_more{y:σ}{met more:List σ}{i:Nat}(h:findE y met=some i):findE y (met++more)=some i:=by
 unfold findE at h⊢;rw[findI_append,h]
theorem findE_new{y:σ}{met:List σ}(h:findE y met=none):findE y (met++[y])=some met.length:=by
 unfold findE at h⊢;rw[findI_append,h];simp[findI]
theorem Plain.row_range(h:Plain W)(x:σ)(met:List σ)(b:Nat):∀m,(∀c,b≤c→c<b+(m+1)→W.step x c=W.step x b)→W.row x met (b+(m+1))=match W.step x b with
  |none=>W.row x met b
  |some y=>match findE y (W.row x met b)with
   |some _=>W.row x met b
   |none=>W.row x met b++[y]
 |
  0,_=>by
  show W.row x met (b+1)=_;rw[Bfs.row];cases hs:W.step x b with
  |none=>rfl
  |
   some y=>
   simp only
   rw[h.find,h.rep];cases findE y (W.row x met b)<;>rfl
 |
  m+1,hc=>by
  have ih:=h.row_range x met b m fun c h1 h2=>hc c h1 (by omega)
  show W.row x met (b+(m+1)+1)=_;rw[Bfs.row,hc (b+(m+1)) (by omega) (by omega),ih];cases hs:W.step x b with
  |none=>rfl
  |
   some y=>
   simp only
   cases hf:findE y (W.row x met b)with
   |
    some i=>
    simp only
    rw[h.find,hf]
   |
    none=>
    simp only
    rw[h.find,findE_new hf]
theorem Plain.row_has(h:Plain W)(x:σ)(met:List σ)(b:Nat){c:Nat}(hc:c<b){y:σ}(hy:W.step x c=some y):∃i,findE y (W.row x met b)=some i:=by
 obtain⟨z,hz,he⟩:=W.row_met h.refl x met b c hc y hy;rw[h.eqv,decide_eq_true_eq]at he;subst he;cases hf:findE z (W.row x met b)with
 |some i=>exact⟨i,rfl⟩
 |
  none=>
  have:=findI_none.1 hf z hz;simp at this
theorem Plain.num(h:Plain W)(met:List σ)(x:σ)(c:Nat):W.num met x c=(W.step x c).bind fun y=>findE y met:=by
 unfold Bfs.num;cases W.step x c with
 |none=>rfl
 |some y=>exact h.find y met
theorem Plain.runs_range(h:Plain W)(x:σ)(met:List σ)(b m:Nat)(hc:∀c,b≤c→c<b+(m+1)→W.step x c=W.step x b){y:σ}(hy:W.step x b=some y){i:Nat}(hi:findE y (W.row x met (b+(m+1)))=some i):
  runs (W.num (W.row x met (b+(m+1))) x) (b+(m+1))=joinA (runs (W.num (W.row x met b) x) b) ((b:Int),((b+m:Nat):Int),(i:Int)):=by
 have hpre:∃more,W.row x met (b+(m+1))=W.row x met b++more:=by
  rw[h.row_range x met b m hc,hy];simp only
  split
  ·exact⟨[],by simp⟩
  ·exact⟨_,rfl⟩
 have e1:runs (W.num (W.row x met (b+(m+1))) x) b=runs (W.num (W.row x met b) x) b:=by
  refine runs_congr b fun c hcb=>?_
  rw[h.num,h.num];cases hs:W.step x c with
  |none=>rfl
  |
   some z=>
   obtain⟨j,hj⟩:=h.row_has x met b hcb hs;obtain⟨more,hm⟩:=hpre;simp only[Option.bind_some];rw[hm,findE_more hj,hj]
 rw[runs_const (W.num (W.row x met (b+(m+1))) x) b i m fun c h1 h2=>by rw[h.num,hc c h1 h2,hy];exact hi,e1]
theorem Plain.runs_skip(h:Plain W)(x:σ)(met:List σ)(b m:Nat)(hc:∀c,b≤c→c<b+(m+1)→W.step x c=W.step x b)(hy:W.step x b=none):
  W.row x met (b+(m+1))=W.row x met b∧runs (W.num (W.row x met (b+(m+1))) x) (b+(m+1))=runs (W.num (W.row x met b) x) b:=by
 have e1:W.row x met (b+(m+1))=W.row x met b:=by rw[h.row_range x met b m hc,hy]
 rw[e1];refine⟨rfl,runs_none _ b (m+1) fun c h1 h2=>?_⟩;rw[h.num,hc c h1 h2,hy];rfl
structure MadeP(W:Bfs σ)(fin fin0:σ→Bool)(x0:σ)(i:Nat)(met:List σ)(ds:List St):Prop where
 run:met=W.run i 0 [x0]
 le:i≤met.length
 out_:ds=((met.take i).map fun x=>((fin x,runs (W.num met x) 256):St))++(met.drop i).map fun x=>(fin0 x,[])
 has:∀(j:Nat) x,j<i→met[j]? =some x→∀c y,c<256→W.step x c=some y→∃q,findE y met=some q
theorem MadeP.start(W:Bfs σ)(fin fin0:σ→Bool)(x0:σ):MadeP W fin fin0 x0 0 [x0] [(fin0 x0,[])]:=⟨rfl,Nat.zero_le _,rfl,fun _ _ hj=>absurd hj (Nat.not_lt_zero _)⟩
structure MidP(W:Bfs σ)(fin fin0:σ→Bool)(x0:σ)(i:Nat)(met:List σ)(x:σ)(b:Nat)(met1:List σ)(arcs:List Arc3)(fc:Bool)(ds:List St):Prop where
 got:met[i]? =some x
 row:met1=W.row x met b
 arcs_:arcs=runs (W.num met1 x) b
 out_:ds=((met.take i).map fun x=>((fin x,runs (W.num met x) 256):St))++(fc,[])::(met1.drop (i+1)).map fun x=>(fin0 x,[])
theorem MadeP.enter{fin fin0:σ→Bool}{x0 x:σ}{i:Nat}{met:List σ}{ds:List St}(h:MadeP W fin fin0 x0 i met ds)(hx:met[i]? =some x):MidP W fin fin0 x0 i met x 0 met [] (fin0 x) ds:=by
 refine⟨hx,rfl,rfl,?_⟩;rw[h.out_];congr 1
 obtain⟨h1,h2⟩:=List.getElem?_eq_some_iff.1 hx;rw[List.drop_eq_getElem_cons h1,h2,List.map_cons]
end
theorem MidP.fin{σ:Type}{W:Bfs σ}{fin fin0:σ→Bool}{x0 x:σ}{i b:Nat}{met met1:List σ}{arcs:List Arc3}{fc:Bool}{ds:List St}(h:MidP W fin fin0 x0 i met x b met1 arcs fc ds)(hi:i≤met.length)(fc':Bool):MidP W fin fin0 x0 i met x b met1 arcs fc' (ds.set i (fc',[])):=by
 refine⟨h.got,h.row,h.arcs_,?_⟩;rw[h.out_,List.set_append_right _ _ (by rw[List.length_map,List.length_take];omega),List.length_map,List.length_take,Nat.min_eq_left hi,Nat.sub_self];rfl
section
variable {σ:Type} [DecidableEq σ]{W:Bfs σ}
theorem MidP.skip{fin fin0:σ→Bool}{x0 x:σ}{i b m:Nat}{met met1:List σ}{arcs:List Arc3}{fc:Bool}{ds:List St}(hW:Plain W)(h:MidP W fin fin0 x0 i met x b met1 arcs fc ds)(hc:∀c,b≤c→c<b+(m+1)→W.step x c=W.step x b)(hy:W.step x b=none):MidP W fin fin0 x0 i met x (b+(m+1)) met1 arcs fc ds:=by
 obtain⟨e1,e2⟩:=hW.runs_skip x met b m hc hy;refine⟨h.got,by rw[e1];exact h.row,?_,h.out_⟩;rw[h.arcs_,h.row,←e2,e1]
theorem MidP.old{fin fin0:σ→Bool}{x0 x y:σ}{i b m q:Nat}{met met1:List σ}{arcs:List Arc3}{fc:Bool}{ds:List St}(hW:Plain W)(h:MidP W fin fin0 x0 i met x b met1 arcs fc ds)(hc:∀c,b≤c→c<b+(m+1)→W.step x c=W.step x b)(hy:W.step x b=some y)(hq:findE y met1=some q):MidP W fin fin0 x0 i met x (b+(m+1)) met1 (joinA arcs ((b:Int),((b+m:Nat):Int),(q:Int))) fc ds:=by
 have e1:W.row x met (b+(m+1))=met1:=by
  rw[hW.row_range x met b m hc,hy];simp only
  rw[←h.row,hq]
 refine⟨h.got,e1.symm,?_,h.out_⟩;have e2:=hW.runs_range x met b m hc hy (i:=q) (by rw[e1];exact hq);rw[e1,←h.row,←h.arcs_]at e2;exact e2.symm
theorem MidP.new{fin fin0:σ→Bool}{x0 x y:σ}{i b m:Nat}{met met1:List σ}{arcs:List Arc3}{fc:Bool}{ds:List St}(hW:Plain W)(h:MidP W fin fin0 x0 i met x b met1 arcs fc ds)(hc:∀c,b≤c→c<b+(m+1)→W.step x c=W.step x b)(hy:W.step x b=some y)(hq:findE y met1=none):MidP W fin fin0 x0 i met x (b+(m+1)) (met1++[y]) (joinA arcs ((b:Int),((b+m:Nat):Int),(met1.length:Int))) fc (ds++[(fin0 y,[])]):=by
 have e1:W.row x met (b+(m+1))=met1++[y]:=by
  rw[hW.row_range x met b m hc,hy];simp only
  rw[←h.row,hq]
 have hil:=(List.getElem?_eq_some_iff.1 h.got).1;have hle:i+1≤met1.length:=by
  obtain⟨more,hm⟩:=W.row_pre x met b;rw[h.row,hm,List.length_append];omega
 refine⟨h.got,e1.symm,?_,?_⟩
 ·have e2:=hW.runs_range x met b m hc hy (i:=met1.length) (by rw[e1];exact findE_new hq);rw[e1,←h.row,←h.arcs_]at e2;exact e2.symm
 ·rw[h.out_,List.drop_append_of_le_length hle,List.map_append];simp
theorem MidP.leave{fin fin0:σ→Bool}{x0 x:σ}{i:Nat}{met met1:List σ}{arcs:List Arc3}{ds ds0:List St}(hW:Plain W)(h0:MadeP W fin fin0 x0 i met ds0)(h:MidP W fin fin0 x0 i met x 256 met1 arcs (fin x) ds):MadeP W fin fin0 x0 (i+1) met1 (ds.set i (fin x,arcs)):=by
 obtain⟨more,hm⟩:=W.row_pre x met 256;have hil:=(List.getElem?_eq_some_iff.1 h.got).1;rw[←h.row]at hm;refine⟨?_,by rw[hm,List.length_append];omega,?_,fun j y hj hy c z hcz hs=>?_⟩
 ·rw[h.row,Bfs.run_succ,Nat.zero_add,←h0.run,h.got]
 ·rw[h.out_,List.set_append_right _ _ (by rw[List.length_map,List.length_take];omega),List.length_map,List.length_take,Nat.min_eq_left h0.le,Nat.sub_self,List.set_cons_zero];have htake:met1.take (i+1)=met.take i++[x]:=by
   rw[hm,List.take_append_of_le_length (by omega),List.take_add_one,h.got];rfl
  rw[htake,List.map_append,List.append_assoc];have e1:((met.take i).map fun x=>((fin x,runs (W.num met x) 256):St))=(met.take i).map fun x=>((fin x,runs (W.num met1 x) 256):St):=by
   refine List.map_congr_left fun y hy=>?_
   obtain⟨j,hj⟩:=List.mem_iff_getElem?.1 hy;rw[List.getElem?_take]at hj;split at hj
   ·rename_i hji
    have:runs (W.num met y) 256=runs (W.num met1 y) 256:=by
     refine runs_congr 256 fun c hc=>?_
     rw[hW.num,hW.num];cases hs:W.step y c with
     |none=>rfl
     |
      some z=>
      obtain⟨q,hq⟩:=h0.has j y hji hj c z hc hs;simp only[Option.bind_some];rw[hm,findE_more hq,hq]
    rw[this]
   ·cases hj
  rw[e1,h.arcs_];rfl
 ·by_cases hji:j<i
  ·rw[hm,List.getElem?_append_left (by omega)]at hy;obtain⟨q,hq⟩:=h0.has j y hji hy c z hcz hs;rw[hm];exact⟨q,findE_more hq⟩
  ·obtain rfl:j=i:=by omega
   rw[hm,List.getElem?_append_left hil,h.got]at hy;injection hy with hy
   subst hy;have:=hW.row_has x met 256 hcz hs;rw[←h.row]at this;exact this
end
theorem run_le{σ:Type}(W:Bfs σ)(x0:σ)(f:Nat):∀k,(W.run f 0 [x0]).length≤(W.run (f+k) 0 [x0]).length
 |0=>Nat.le_refl _
 |
  k+1=>by
  refine Nat.le_trans (run_le W x0 f k) ?_;rw[←Nat.add_assoc,W.run_succ];split
  ·rename_i x _
   obtain⟨more,hm⟩:=W.row_pre x (W.run (f+k) 0 [x0]) 256;rw[hm,List.length_append];omega
  ·exact Nat.le_refl _
section
variable {σ:Type} [DecidableEq σ]{W:Bfs σ}
theorem MadeP.last{fin fin0:σ→Bool}{x0:σ}{i:Nat}{met:List σ}{ds:List St}(hW:Plain W)(h:MadeP W fin fin0 x0 i met ds)(hi:i=met.length):ds=W.out fin met∧(∀x∈met,W.Met met x)∧∀f,(W.run f 0 [x0]).length≤met.length:=by
 subst hi;refine⟨?_,fun x hx c hc y hy=>?_,fun f=>?_⟩
 ·have:=h.out_;rw[List.take_length,List.drop_length]at this;rw[this];show _++[]=_;rw[List.append_nil];rfl
 ·obtain⟨j,hj⟩:=List.mem_iff_getElem?.1 hx;obtain⟨q,hq⟩:=h.has j x (List.getElem?_eq_some_iff.1 hj).1 hj c y hc hy;obtain⟨z,hz,he⟩:=findI_some hq;have he:=of_decide_eq_true he;subst he;exact⟨z,List.mem_of_getElem? hz,by rw[hW.eqv];simp⟩
 ·rcases Nat.le_total f met.length with hf|hf
  ·obtain⟨k,hk⟩:∃k,met.length=f+k:=⟨met.length-f,by omega⟩;have h1:=run_le W x0 f k;rw[←hk]at h1;exact Nat.le_trans h1 (by rw[←h.run];exact Nat.le_refl _)
  ·obtain⟨k,rfl⟩:∃k,f=met.length+k:=⟨f-met.length,by omega⟩;have h1:=W.run_end (f:=met.length) (i:=0) (met:=[x0]) (by rw[Nat.zero_add,←h.run,List.getElem?_eq_none_iff];exact Nat.le_refl _) k;rw[h1,←h.run];exact Nat.le_refl _
end
end
section
open Go.RowKit
theorem set_grown(w:World)(a:Addr)(u:Value):w.grownBy (w.setCell a u) (some a.block):=
 ⟨rfl,rfl,rfl,by simp[World.setCell],fun k _ hk=>Below.heap_setCell _ _ _ k (fun e=>hk (by rw[e]))⟩
theorem blk_set{w:World}{b j:Nat}{C:Array Value}{t:TypeId}{f:Nat×Nat}(h:w.heap[b]? =some (.cells C t f))(v:Value):(w.setCell ⟨b,j,none⟩ v).heap[b]? =some (.cells (C.setIfInBounds j v) t f):=by
 simp[World.setCell,Array.getElem?_modify,h]
theorem grown_through{a b c:World}{row:Option Nat}(hb:Below a.heap.size a b)(hg:b.grownBy c row):a.grownBy c row:=
 ⟨hg.os.trans hb.os,hg.tape.trans hb.tape,hg.output.trans hb.output,Nat.le_trans hb.size hg.size,fun k hk h=>(hg.block k (Nat.lt_of_lt_of_le hk hb.size) h).trans (hb.block k hk)⟩
theorem step_pushg{P:Program}{ops:Array Oper}{o:Oper}{a:Act}{K:Act→World→Prop}{Q:Exit→Act→World→Prop}{E:Prop}(wx:World)(cs:Array Value)(hgd:o.guard=none)(s x:Operand)(t:TypeId)
  (ho:o.op=.call {callee:=.builtin .append,args:= #[s,x],argTypes:= #[t,t]})
  {base e size bytes:Nat} (he:Elem P t e size bytes) (v:Value) (n:Nat) (xs:List Value) (hs:a.eval s=v) (hown:wx.ownsRow base e size v n xs)
  {nb m:Nat} (hx:a.eval x=.slice (some ⟨nb,0,none⟩) m m) (hxc:wx.heap[nb]? =some (.cells cs e (0,0)))
  (hl:cs.size=m*size) (h1:∀u∈cs.toList,u.oneCell'=true) (hm:0<m)
  (h63:n+m≤maxLen) (hbytes:(n+m)*bytes≤140737488355328) (hbase:base≤wx.heap.size)
  (h:∀g cap w',w'.ownsRow base e size (.slice (some ⟨g,0,none⟩) (n+m) cap) (n+m) (xs++cs.toList)→wx.grownBy w' v.ownBlock→(v.ownBlock=some g∨wx.heap.size≤g)→K (a.put o.dst (.slice (some ⟨g,0,none⟩) (n+m) cap)) w'):
  if Region.wanted o (yielded ops a.tmps)=true then Oper.wp P o a wx K Q else E:=by
 obtain⟨ht,i,z,hi,hz,hsz,hby,hzs,hpos⟩:=he;refine step_append_lies wx hgd s x t ho base e i z size bytes ht hi hz hsz hby hzs hpos v n xs hs hown ⟨nb,0,none⟩ m m cs.toList hx (by simpa using hl) ?_ h1 hm h63 hbytes hbase _ rfl ?_
 ·intro j u hu
  rw[Addr.add_lit,Nat.zero_add,cell_of_row _ nb j cs e (0,0) hxc];simpa using hu
 ·intro g cap w' h2 h3 h4 _
  exact h g cap w' h2 h3 (h4.elim .inl fun e=>.inr (by omega))
theorem own_lower{w:World}{b b' e s n:Nat}{v:Value}{xs:List Value}(h:w.ownsRow b e s v n xs)(hb:b'≤b):w.ownsRow b' e s v n xs:=by
 refine⟨h.1,?_⟩;rcases h.2 with hn|⟨g,cap,cur,rfl,hg,rest⟩
 ·exact .inl hn
 ·exact .inr ⟨g,cap,cur,rfl,by omega,rest⟩
theorem own_set{w:World}{b e s n k j:Nat}{v u:Value}{xs:List Value}(h:w.ownsRow b e s v n xs)(hb:k<b):(w.setCell ⟨k,j,none⟩ u).ownsRow b e s v n xs:=by
 refine h.kept (set_grown _ _ _) ?_;cases hv:v.ownBlock with
 |none=>exact .inl rfl
 |
  some g=>
  refine .inr fun e=>?_
  injection e with e
  have:=(h.lt g hv).1;simp at e
  omega
theorem below_set{w w':World}{B k j:Nat}{u:Value}(h:Below B w w')(hk:B≤k)(hB:B≤w.heap.size):Below B w (w'.setCell ⟨k,j,none⟩ u):=h.grown (set_grown _ _ _) (Nat.le_trans hB h.size) (fun q hq=>by injection hq with hq;simp at hq;omega)
theorem free_at{w:World}{b:Nat}{C:Array Value}{t:TypeId}(h:w.heap[b]? =some (.cells C t (0,0)))(j:Nat):w.frozen? ⟨b,j,none⟩=false:=by simp[World.frozen?,h]
theorem own_put{W:World}{base e s n c g j:Nat}{u:Value}{xs:List Value}(h:W.ownsRow base e s (.slice (some ⟨g,0,none⟩) n c) n xs):(W.setCell ⟨g,j,none⟩ u).ownsRow base e s (.slice (some ⟨g,0,none⟩) n c) n (xs.set j u):=by
 obtain⟨h0,h⟩:=h;refine⟨by rw[List.length_set];exact h0,?_⟩;rcases h with⟨hv,_⟩|⟨g',cap,cur,hv,hb,hg,h1,h2,h3,h4⟩
 ·cases hv
 ·injection hv with hv1 _ hv3
  injection hv1 with hv1
  injection hv1 with hv1 _ _
  subst hv1 hv3;refine .inr ⟨g,c,_,rfl,hb,blk_set hg u,h1,h2,by simpa using h3,?_⟩;rw[←h4,Array.toList_setIfInBounds,List.take_set]
end
section
open Go.RowKit
theorem el_arc:Elem Tryz.prog 72 76 3 24:=Elem.mk_ Tryz.underlying72 (z:=.agg #[.int .i64 0,.int .i64 0,.int .i64 0]) (by kernel_rfl) rfl (by omega)
def JoinPost(w:World)(base:Nat)(v:Value)(l:List Arc3):Ending→World→Prop:=fun e w'=>∃v',e=.returned v'∧w'.ownsRow base 76 3 v' l.length (arcsC l)∧w.grownBy w' v.ownBlock∧(v'.ownBlock=v.ownBlock∨∃g,v'.ownBlock=some g∧w.heap.size≤g)
theorem join_any(w:World)(base:Nat)(hbase:base≤w.heap.size)(A:Option Addr)(n c:Nat)(l:List Arc3)(hown:w.ownsRow base 76 3 (.slice A n c) n (arcsC l))(hn:n≤1099511627776)(lo hi tt:Int)(hlo:0≤lo∧lo≤256)(hh:∀a∈l,0≤a.2.1∧a.2.1≤256):
  Calls Tryz.prog 32 #[.slice A n c,.agg #[.int .i64 lo,.int .i64 hi,.int .i64 tt]] w (JoinPost w base (.slice A n c) (joinA l (lo,hi,tt))):=by
 have hll:l.length=n:=by have:=hown.1;rw[arcsC_len]at this;omega
 have HO:=Lib.hid hown;have HBW:Hid (Below base w (w.alloc (.cells #[.int .i64 lo,.int .i64 hi,.int .i64 tt] 76))):=(Below.refl _ _).alloc hbase _;have HO1:=Lib.hid (own_kept hown (bnew (brefl w) (.cells #[.int .i64 lo,.int .i64 hi,.int .i64 tt] 76)));have HGA:Hid (w.grownBy (w.alloc (.cells #[.int .i64 lo,.int .i64 hi,.int .i64 tt] 76)) (Value.slice A n c).ownBlock):=World.grownBy_alloc w _ _;have hblk:=heap_alloc_new w (.cells #[.int .i64 lo,.int .i64 hi,.int .i64 tt] 76);have e0:(w.alloc (.cells #[.int .i64 lo,.int .i64 hi,.int .i64 tt] 76)).cell? ⟨w.heap.size,0,none⟩=some (.int .i64 lo):=cell_of_row _ w.heap.size 0 _ _ (0,0) hblk;have e1:(w.alloc (.cells #[.int .i64 lo,.int .i64 hi,.int .i64 tt] 76)).cell? ⟨w.heap.size,1,none⟩=some (.int .i64 hi):=cell_of_row _ w.heap.size 1 _ _ (0,0) hblk;have e2:(w.alloc (.cells #[.int .i64 lo,.int .i64 hi,.int .i64 tt] 76)).cell? ⟨w.heap.size,2,none⟩=some (.int .i64 tt):=cell_of_row _ w.heap.size 2 _ _ (0,0) hblk;obtain⟨hlo0,hlo1⟩:=hlo;by_cases h0:n=0
 ·subst h0;have hl0:l=[]:=List.eq_nil_of_length_eq_zero hll;have HJ:Hid ((joinA l (lo,hi,tt)).length=0+1∧arcsC (joinA l (lo,hi,tt))=arcsC l++[.int .i64 lo,.int .i64 hi,.int .i64 tt]):=by
   rw[hl0];exact⟨rfl,rfl⟩
  clear hh hl0 hown hblk hll;go_enter Tryz.func32,Tryz.ntmps32
  go_wp2_with fail;generalize w.alloc (.cells #[.int .i64 lo,.int .i64 hi,.int .i64 tt] 76)=W1 at*;go_region
  have HO2:Hid (W1.drew.ownsRow base 76 3 (.slice A 0 c) 0 (arcsC l)):=HO1.out;have HGA2:Hid (w.grownBy W1.drew (Value.slice A 0 c).ownBlock):=⟨HGA.out.os,HGA.out.tape,HGA.out.output,HGA.out.size,HGA.out.block⟩;have HBW2:Hid (Below base w W1.drew):=Below.drew HBW.out;have d0:W1.drew.cell? ⟨w.heap.size,0,none⟩=some (.int .i64 lo):=e0;have d1:W1.drew.cell? ⟨w.heap.size,1,none⟩=some (.int .i64 hi):=e1;have d2:W1.drew.cell? ⟨w.heap.size,2,none⟩=some (.int .i64 tt):=e2;generalize W1.drew=W2 at*;clear e0 e1 e2;go_wp2_with (at_builtin;refine wpList_push w W2 _ rfl _ _ _ rfl el_arc _ _ _ rfl HO2.out rfl (by simp) rfl (by simp[Value.oneCell']) (by unfold maxLen;omega) (by omega) (Nat.le_trans hbase HBW2.out.size) HBW2.out ?_;intro v9 w9 hown9 _ hg9 hor9;have HO9:=Lib.hid hown9;have HG9:=Lib.hid hg9;have HR9:=Lib.hid hor9;clear hown9 hg9 hor9)
  go_ret;exact⟨v9,rfl,by rw[HJ.out.1,HJ.out.2];exact HO9.out,HGA2.out.trans HG9.out,HR9.out.imp id fun⟨g,h1,h2⟩=>⟨g,h1,Nat.le_trans HBW2.out.size h2⟩⟩
 obtain⟨m,b,rfl⟩:∃m b,l=m++[b]:=⟨l.dropLast,l.getLast (by intro e;rw[e]at hll;exact h0 hll.symm),(List.dropLast_concat_getLast _).symm⟩;rw[List.length_append,List.length_singleton]at hll;have hb:=hh b (by simp);obtain⟨k,hk⟩:∃k,m.length=k:=⟨_,rfl⟩;have hidx:(n:Int)-1=(k:Int):=by omega
 obtain⟨g,rfl,hbg,hgl⟩:=own_head HO1.out (by omega);have hcell:∀j u,(arcC b)[j]? =some u→j<3→(w.alloc (.cells #[.int .i64 lo,.int .i64 hi,.int .i64 tt] 76)).cell? ⟨g,k*3+j,none⟩=some u:=fun j u hu hj=>by
  have:=HO1.out.cells (g:=g) rfl (k*3+j) u (by unfold arcsC;rw[flat_at arcC 3 (fun _=>rfl) (m++[b]) k j b (by rw[←hk];simp) hj];exact hu);rwa[Addr.add_lit,Nat.zero_add]at this
 have f1:=hcell 1 _ rfl (by omega);have f2:=hcell 2 _ rfl (by omega);have hfr:(w.alloc (.cells #[.int .i64 lo,.int .i64 hi,.int .i64 tt] 76)).frozen? ⟨g,k*3+1,none⟩=false:=by
  rcases HO1.out.2 with⟨hv,_⟩|⟨g',cap,cur,hv,_,hg,_⟩
  ·cases hv
  ·injection hv with hv _ _
   injection hv with hv
   injection hv with hv _ _
   subst hv;exact free_at hg _
 have i0:(0:Int)≤(k:Int):=by omega
 have i1:(k:Int)<(n:Int):=by omega
 have q0:decide ((k:Int)≥0)=true:=decide_eq_true (by omega);have HLAST:(m++[b]).getLast? =some b:=by simp
 obtain⟨blo,bhi,bto⟩:=b;simp only at hb hcell f1 f2 HLAST;have hwr:IntKind.i64.wrap (bhi+1)=bhi+1:=IntWalk.i64_in _ (by omega);clear hown hblk hh hcell;by_cases hj:bto=tt∧bhi+1=lo
 ·have HJ:Hid (joinA (m++[(blo,bhi,bto)]) (lo,hi,tt)=m++[(blo,hi,bto)]):=by
   show _=_;unfold joinA;rw[HLAST];simp only
   rw[if_pos hj,List.dropLast_concat]
  have q1:(bto==tt)=true:=by simpa using hj.1
  have q2:(bhi+1==lo)=true:=by simpa using hj.2
  have HSET:Hid (((w.alloc (.cells #[.int .i64 lo,.int .i64 hi,.int .i64 tt] 76)).setCell ⟨g,k*3+1,none⟩ (.int .i64 hi)).ownsRow base 76 3 (.slice (some ⟨g,0,none⟩) n c) n (arcsC (m++[(blo,hi,bto)]))):=by
   have h1:=own_put (j:=k*3+1) (u:=.int .i64 hi) HO1.out;have h2:(arcsC (m++[(blo,bhi,bto)])).set (k*3+1) (.int .i64 hi)=arcsC (m++[(blo,hi,bto)]):=by
    rw[arcsC_app,arcsC_app,List.set_append,if_neg (by rw[arcsC_len];omega),arcsC_len,hk,Nat.add_sub_cancel_left];rfl
   rw[h2]at h1;exact h1
  have HLN:Hid ((m++[(blo,hi,bto)]).length=n):=by show _=_;rw[List.length_append,List.length_singleton];omega
  have HGS:Hid (w.grownBy ((w.alloc (.cells #[.int .i64 lo,.int .i64 hi,.int .i64 tt] 76)).setCell ⟨g,k*3+1,none⟩ (.int .i64 hi)) (Value.slice (some ⟨g,0,none⟩) n c).ownBlock):=HGA.out.trans (set_grown _ ⟨g,k*3+1,none⟩ _);clear hj HLAST hll hk;go_enter Tryz.func32,Tryz.ntmps32
  go_wp2_with fail;generalize w.alloc (.cells #[.int .i64 lo,.int .i64 hi,.int .i64 tt] 76)=W1 at*;go_region
  all_goals
   go_wp2_with fail;go_ret;exact⟨_,rfl,by rw[HJ.out,HLN.out];exact HSET.out,⟨HGS.out.os,HGS.out.tape,HGS.out.output,HGS.out.size,HGS.out.block⟩,.inl rfl⟩
 ·have HJ:Hid ((joinA (m++[(blo,bhi,bto)]) (lo,hi,tt)).length=n+1∧arcsC (joinA (m++[(blo,bhi,bto)]) (lo,hi,tt))=arcsC (m++[(blo,bhi,bto)])++[.int .i64 lo,.int .i64 hi,.int .i64 tt]):=by
   have e:joinA (m++[(blo,bhi,bto)]) (lo,hi,tt)=m++[(blo,bhi,bto)]++[(lo,hi,tt)]:=by
    unfold joinA;rw[HLAST];simp only
    rw[if_neg hj]
   rw[e,arcsC_app];exact⟨by rw[List.length_append,List.length_append];simp only[List.length_singleton];omega,rfl⟩
  by_cases hj1:bto=tt
  ·have q1:(bto==tt)=true:=by simpa using hj1
   have q2:(bhi+1==lo)=false:=by simpa using fun e=>hj ⟨hj1,e⟩
   clear hj HLAST hll hk hj1 hfr;go_enter Tryz.func32,Tryz.ntmps32
   go_wp2_with fail;generalize w.alloc (.cells #[.int .i64 lo,.int .i64 hi,.int .i64 tt] 76)=W1 at*;go_region
   have HO2:Hid (W1.drew.ownsRow base 76 3 (.slice (some ⟨g,0,none⟩) n c) n (arcsC (m++[(blo,bhi,bto)]))):=HO1.out;have HGA2:Hid (w.grownBy W1.drew (Value.slice (some ⟨g,0,none⟩) n c).ownBlock):=⟨HGA.out.os,HGA.out.tape,HGA.out.output,HGA.out.size,HGA.out.block⟩;have HBW2:Hid (Below base w W1.drew):=Below.drew HBW.out;have d0:W1.drew.cell? ⟨w.heap.size,0,none⟩=some (.int .i64 lo):=e0;have d1:W1.drew.cell? ⟨w.heap.size,1,none⟩=some (.int .i64 hi):=e1;have d2:W1.drew.cell? ⟨w.heap.size,2,none⟩=some (.int .i64 tt):=e2;generalize W1.drew=W2 at*;clear e0 f1 f2 e1 e2;go_wp2_with (at_builtin;refine wpList_push w W2 _ rfl _ _ _ rfl el_arc _ _ _ rfl HO2.out rfl (by simp) rfl (by simp[Value.oneCell']) (by unfold maxLen;omega) (by omega) (Nat.le_trans hbase HBW2.out.size) HBW2.out ?_;intro v9 w9 hown9 _ hg9 hor9;have HO9:=Lib.hid hown9;have HG9:=Lib.hid hg9;have HR9:=Lib.hid hor9;clear hown9 hg9 hor9)
   go_ret;exact⟨v9,rfl,by rw[HJ.out.1,HJ.out.2];exact HO9.out,HGA2.out.trans HG9.out,HR9.out.imp id fun⟨g,h1,h2⟩=>⟨g,h1,Nat.le_trans HBW2.out.size h2⟩⟩
  ·have q1:(bto==tt)=false:=by simpa using hj1
   clear hj HLAST hll hk hj1 hfr;go_enter Tryz.func32,Tryz.ntmps32
   go_wp2_with fail;generalize w.alloc (.cells #[.int .i64 lo,.int .i64 hi,.int .i64 tt] 76)=W1 at*;go_region
   have HO2:Hid (W1.drew.ownsRow base 76 3 (.slice (some ⟨g,0,none⟩) n c) n (arcsC (m++[(blo,bhi,bto)]))):=HO1.out;have HGA2:Hid (w.grownBy W1.drew (Value.slice (some ⟨g,0,none⟩) n c).ownBlock):=⟨HGA.out.os,HGA.out.tape,HGA.out.output,HGA.out.size,HGA.out.block⟩;have HBW2:Hid (Below base w W1.drew):=Below.drew HBW.out;have d0:W1.drew.cell? ⟨w.heap.size,0,none⟩=some (.int .i64 lo):=e0;have d1:W1.drew.cell? ⟨w.heap.size,1,none⟩=some (.int .i64 hi):=e1;have d2:W1.drew.cell? ⟨w.heap.size,2,none⟩=some (.int .i64 tt):=e2;generalize W1.drew=W2 at*;clear e0 f1 f2 e1 e2;go_wp2_with (at_builtin;refine wpList_push w W2 _ rfl _ _ _ rfl el_arc _ _ _ rfl HO2.out rfl (by simp) rfl (by simp[Value.oneCell']) (by unfold maxLen;omega) (by omega) (Nat.le_trans hbase HBW2.out.size) HBW2.out ?_;intro v9 w9 hown9 _ hg9 hor9;have HO9:=Lib.hid hown9;have HG9:=Lib.hid hg9;have HR9:=Lib.hid hor9;clear hown9 hg9 hor9)
   go_ret;exact⟨v9,rfl,by rw[HJ.out.1,HJ.out.2];exact HO9.out,HGA2.out.trans HG9.out,HR9.out.imp id fun⟨g,h1,h2⟩=>⟨g,h1,Nat.le_trans HBW2.out.size h2⟩⟩
end
end Go.Proofs.YtaociahafamncaaGreatDoor
