/- Folded. -/
import Derived.Test.YtaociahafamncaaGreatDoorHM35
set_option maxRecDepth 100000
set_option maxHeartbeats 40000000
set_option linter.unusedVariables false
namespace Go.Proofs.YtaociahafamncaaGreatDoor
section
open Go.RowKit
def zd4(d:List St)(z:Int):List Arc3:=((d[z.toNat]?).map (·.2)).getD []
def finD(d:List St)(z:Int):Bool:=((d[z.toNat]?).map (·.1)).getD false
def zvh:Option Int→Option Int→Option (List Int)
 |some p,some q=>some [p,q]
 |_,_=>none
def zt5(a b:List St):List Int→Nat→Option (List Int)
 |[x,y],c=>zvh (lookA (zd4 a x) c) (lookA (zd4 b y) c)
 |_,_=>none
def finP(a b:List St):List Int→Bool
 |[x,y]=>finD a x&&finD b y
 |_=>false
def zci(a b:List St):Bfs (List Int):=⟨zt5 a b,fun z y=>decide (z=y),id⟩
theorem zd0(a b:List St):Plain (zci a b):=⟨fun _ _=>rfl,fun _=>rfl⟩
theorem z0a(a b:List St):∀(s:List Nat) (x y:Int),(⟨finP a b,zt5 a b⟩:Au (List Int)).acc [x,y] s=((auOf a).acc x.toNat s&&(auOf b).acc y.toNat s)
 |[],x,y=>rfl
 |
  c::r,x,y=>by
  have st:∀(d:List St) (z:Int),(auOf d).step z.toNat c=(lookA (zd4 d z) c).map Int.toNat:=fun d z=>by
   show(d[z.toNat]?).bind _=_;unfold zd4;cases d[z.toNat]? with
   |none=>rfl
   |some s=>rfl
  rw[Au.acc,Au.acc,Au.acc];by_cases hc:c<256
  ·rw[if_pos hc,if_pos hc,if_pos hc,st,st];have e:(⟨finP a b,zt5 a b⟩:Au (List Int)).step [x,y] c=zvh (lookA (zd4 a x) c) (lookA (zd4 b y) c):=rfl;rw[e];cases lookA (zd4 a x) c with
   |none=>simp[zvh]
   |
    some p=>
    cases lookA (zd4 b y) c with
    |none=>simp[zvh]
    |some q=>exact z0a a b r p q
  ·rw[if_neg hc,if_neg hc,if_neg hc];rfl
theorem Asc.look{l:List Arc3}{n:Int}(h:Asc l n){p:Arc3}{c:Int}(hp:p∈l)(h1:p.1≤c)(h2:c≤p.2.1):lookA l c=some p.2.2:=by
 induction l with
 |nil=>cases hp
 |
  cons a r ih=>
  rw[zli];obtain⟨ha,hr⟩:=List.pairwise_cons.1 h.lt;rcases List.mem_cons.1 hp with rfl|hp
  ·rw[if_pos ⟨h1,h2⟩]
  ·have:=ha p hp;rw[if_neg (by omega)];exact ih ⟨hr,fun a ha=>h.ok a (List.mem_cons_of_mem _ ha)⟩ hp
theorem zhd{l:List Arc3}{c t:Int}(h:lookA l c=some t):∃p∈l,p.1≤c∧c≤p.2.1∧p.2.2=t:=by
 unfold lookA at h;obtain⟨a,ha,rfl⟩:=Option.map_eq_some_iff.1 h;have:=List.find?_some ha;simp at this
 exact⟨a,List.mem_of_find?_eq_some ha,this.1,this.2,rfl⟩
theorem zx4{l:List Arc3}{n:Int}(h:Asc l n){i j:Nat}{p q:Arc3}(hi:l[i]? =some p)(hj:l[j]? =some q)(hij:i<j):p.2.1<q.1:=by
 obtain⟨h1,rfl⟩:=List.getElem?_eq_some_iff.1 hi;obtain⟨h2,rfl⟩:=List.getElem?_eq_some_iff.1 hj;exact List.pairwise_iff_getElem.1 h.lt i j h1 h2 hij
structure PosP(pa qa:List Arc3)(k j b:Nat):Prop where
 gone:∀(k' j':Nat) p q,pa[k']? =some p→qa[j']? =some q→(k'<k∨k'=k∧j'<j)→max p.1 q.1≤min p.2.1 q.2.1→min p.2.1 q.2.1<(b:Int)
 left:∀(k' j':Nat) p q,pa[k']? =some p→qa[j']? =some q→(k<k'∨k=k'∧j≤j')→(b:Int)≤max p.1 q.1
 le:b≤256
section
variable {pa qa:List Arc3}{k j b:Nat}
theorem PosP.start(hp:Asc pa 256):PosP pa qa 0 0 0:=⟨fun k' j' p q _ _ h=>by omega,fun k' j' p q h1 h2 _=>by
 have:=hp.ok p (List.mem_of_getElem? h1);omega,by omega⟩
theorem PosP.pass{p q:Arc3}(h:PosP pa qa k j b)(hp:pa[k]? =some p)(hq:qa[j]? =some q)(hn:¬max p.1 q.1≤min p.2.1 q.2.1):PosP pa qa k (j+1) b:=by
 refine⟨fun k' j' p' q' h1 h2 h3 h4=>?_,fun k' j' p' q' h1 h2 h3=>h.left k' j' p' q' h1 h2 (by omega),h.le⟩;by_cases e:k'=k∧j'=j
 ·obtain⟨rfl,rfl⟩:=e;rw[hp]at h1;rw[hq]at h2
  injection h1 with h1;injection h2 with h2
  subst h1 h2;exact absurd h4 hn
 ·exact h.gone k' j' p' q' h1 h2 (by omega) h4
theorem PosP.take{p q:Arc3}{u v:Nat}(hpa:Asc pa 256)(hqa:Asc qa 256)(h:PosP pa qa k j b)(hp:pa[k]? =some p)(hq:qa[j]? =some q)(hu:max p.1 q.1=(u:Int))(hv:min p.2.1 q.2.1=(v:Int))(hn:u≤v):PosP pa qa k (j+1) (v+1):=by
 have o1:=hpa.ok p (List.mem_of_getElem? hp);have hb:=h.left k j p q hp hq (.inr ⟨rfl,Nat.le_refl _⟩);refine⟨fun k' j' p' q' h1 h2 h3 h4=>?_,fun k' j' p' q' h1 h2 h3=>?_,by omega⟩
 ·by_cases e:k'=k∧j'=j
  ·obtain⟨rfl,rfl⟩:=e;rw[hp]at h1;rw[hq]at h2
   injection h1 with h1;injection h2 with h2
   subst h1 h2;omega
  ·have:=h.gone k' j' p' q' h1 h2 (by omega) h4;omega
 ·by_cases e:k<k'
  ·have:=zx4 hpa hp h1 e;omega
  ·have:=zx4 hqa hq h2 (show j<j' by omega);omega
theorem PosP.next(h:PosP pa qa k j b)(hj:qa.length≤j):PosP pa qa (k+1) 0 b:=
 ⟨fun k' j' p q h1 h2 h3 h4=>h.gone k' j' p q h1 h2 (by have:=(List.getElem?_eq_some_iff.1 h2).1;omega) h4,fun k' j' p q h1 h2 h3=>h.left k' j' p q h1 h2 (by omega),h.le⟩
variable {a b':List St}{x y:Int}
theorem PosP.gap{p q:Arc3}{u v c:Nat}(hpa:Asc pa 256)(hqa:Asc qa 256)(h:PosP pa qa k j b)(hp:pa[k]? =some p)(hq:qa[j]? =some q)(hu:max p.1 q.1=(u:Int))(hv:min p.2.1 q.2.1=(v:Int))(hn:u≤v)(h1:b≤c)(h2:c<u):zvh (lookA pa c) (lookA qa c)=none:=by
 cases hs:lookA pa c with
 |none=>rfl
 |
  some s=>
  cases ht:lookA qa c with
  |none=>rfl
  |
   some t=>
   obtain⟨p',a1,a2,a3,_⟩:=zhd hs;obtain⟨q',b1,b2,b3,_⟩:=zhd ht;obtain⟨k',hk'⟩:=List.mem_iff_getElem?.1 a1;obtain⟨j',hj'⟩:=List.mem_iff_getElem?.1 b1;exfalso
   by_cases e:k'<k∨k'=k∧j'<j
   ·have:=h.gone k' j' p' q' hk' hj' e (by omega);omega
   ·by_cases e':k'=k∧j'=j
    ·obtain⟨rfl,rfl⟩:=e';rw[hp]at hk';rw[hq]at hj'
     injection hk' with h1;injection hj' with h2
     subst h1 h2;omega
    ·have:=(h.take hpa hqa hp hq hu hv hn).left k' j' p' q' hk' hj' (by omega);omega
theorem PosP.rest{c:Nat}(h:PosP pa qa k 0 b)(hk:pa.length≤k)(h1:b≤c):zvh (lookA pa c) (lookA qa c)=none:=by
 cases hs:lookA pa c with
 |none=>rfl
 |
  some s=>
  cases ht:lookA qa c with
  |none=>rfl
  |
   some t=>
   obtain⟨p',a1,a2,a3,_⟩:=zhd hs;obtain⟨q',b1,b2,b3,_⟩:=zhd ht;obtain⟨k',hk'⟩:=List.mem_iff_getElem?.1 a1;obtain⟨j',hj'⟩:=List.mem_iff_getElem?.1 b1;have:=(List.getElem?_eq_some_iff.1 hk').1;have:=h.gone k' j' p' q' hk' hj' (by omega) (by omega);omega
end
section
variable {a e:List St}{fin fin0:List Int→Bool}{x0:List Int}{i k j b:Nat}{x y:Int}{met met1:List (List Int)}{arcs:List Arc3}{fc:Bool}{ds:List St}
theorem MidP.pass_{b2:Nat}(h:MidP (zci a e) fin fin0 x0 i met [x,y] b met1 arcs fc ds)(hb:b≤b2)(hn:∀c:Nat,b≤c→c<b2→zvh (lookA (zd4 a x) c) (lookA (zd4 e y) c)=none):MidP (zci a e) fin fin0 x0 i met [x,y] b2 met1 arcs fc ds:=by
 rcases Nat.lt_or_ge b b2 with hl|hl
 ·obtain⟨m,rfl⟩:∃m,b2=b+(m+1):=⟨b2-b-1,by omega⟩;exact h.skip (zd0 a e) (fun c h1 h2=>(hn c h1 h2).trans (hn b (Nat.le_refl _) (by omega)).symm) (hn b (Nat.le_refl _) (by omega))
 ·obtain rfl:b=b2:=by omega
  exact h
theorem MidP.meet{p q:Arc3}{u v:Nat}(hpa:Asc (zd4 a x) 256)(hqa:Asc (zd4 e y) 256)(hP:PosP (zd4 a x) (zd4 e y) k j b)(hp:(zd4 a x)[k]? =some p)(hq:(zd4 e y)[j]? =some q)(hu:max p.1 q.1=(u:Int))(hv:min p.2.1 q.2.1=(v:Int))(hn:u≤v)
  (h:MidP (zci a e) fin fin0 x0 i met [x,y] b met1 arcs fc ds):
  (∀n,ze2 [p.2.2,q.2.2] met1=some n→MidP (zci a e) fin fin0 x0 i met [x,y] (v+1) met1 (zbf arcs ((u:Int),(v:Int),(n:Int))) fc ds)∧
  (ze2 [p.2.2,q.2.2] met1=none→MidP (zci a e) fin fin0 x0 i met [x,y] (v+1) (met1++[[p.2.2,q.2.2]]) (zbf arcs ((u:Int),(v:Int),(met1.length:Int))) fc (ds++[(fin0 [p.2.2,q.2.2],[])])):=by
 have hb:=hP.left k j p q hp hq (.inr ⟨rfl,Nat.le_refl _⟩);have h1:=h.pass_ (b2:=u) (by omega) fun c c1 c2=>hP.gap hpa hqa hp hq hu hv hn c1 c2
 obtain⟨m,rfl⟩:∃m,v=u+m:=⟨v-u,by omega⟩;have hs:∀c:Nat,u≤c→c<u+(m+1)→(zci a e).step [x,y] c=some [p.2.2,q.2.2]:=fun c c1 c2=>by
  show zvh (lookA (zd4 a x) c) (lookA (zd4 e y) c)=_;rw[hpa.look (List.mem_of_getElem? hp) (by omega) (by omega),hqa.look (List.mem_of_getElem? hq) (by omega) (by omega)];rfl
 have hu0:=hs u (Nat.le_refl _) (by omega);exact⟨fun n hf=>h1.old (zd0 a e) (fun c c1 c2=>(hs c c1 c2).trans hu0.symm) hu0 hf,fun hf=>h1.new (zd0 a e) (fun c c1 c2=>(hs c c1 c2).trans hu0.symm) hu0 hf⟩
end
def zla(n m:Nat)(S:List Int):Prop:=∃u v:Nat,u<n∧v<m∧S=[(u:Int),(v:Int)]
theorem z2f{d:List St}(h:Good d){z c t:Int}(hl:lookA (zd4 d z) c=some t):0≤t∧t<(d.length:Int):=by
 obtain⟨p,hp,_,_,rfl⟩:=zhd hl;unfold zd4 at hp;cases hs:d[z.toNat]? with
 |none=>rw[hs]at hp;cases hp
 |
  some s=>
  rw[hs]at hp;exact h.to_ s (List.mem_of_getElem? hs) p hp
theorem z6d{a e:List St}(ha:Good a)(he:Good e)(x:List Int)(c:Nat)(y:List Int)(h:(zci a e).step x c=some y):zla a.length e.length y:=by
 replace h:zt5 a e x c=some y:=h;unfold zt5 at h;split at h
 ·rename_i u v
  cases hs:lookA (zd4 a u) c with
  |none=>rw[hs]at h;cases h
  |
   some s=>
   cases ht:lookA (zd4 e v) c with
   |none=>rw[hs,ht]at h;cases h
   |
    some t=>
    rw[hs,ht]at h;injection h with h
    have h1:=z2f ha hs;have h2:=z2f he ht;exact⟨s.toNat,t.toNat,by omega,by omega,by rw[←h,show((s.toNat:Nat):Int)=s by omega,show((t.toNat:Nat):Int)=t by omega]⟩
 ·cases h
def zLc(m:Nat):List Int→Nat
 |[x,y]=>x.toNat*m+y.toNat
 |_=>0
theorem z09{a e:List St}(ha:Good a)(he:Good e)(f:Nat):((zci a e).run f 0 [[0,0]]).length≤a.length*e.length:=by
 have la:=List.length_pos_iff.2 ha.ne;have le:=List.length_pos_iff.2 he.ne;obtain⟨h1,h2⟩:=zv8 (zd0 a e) (zla a.length e.length) (fun x c y h=>z6d ha he x c y h) (x0:=[0,0]) ⟨0,0,la,le,rfl⟩ f;generalize(zci a e).run f 0 [[0,0]]=met at*;have h3:Apart id (met.map (zLc e.length)):=by
  unfold Apart;rw[List.pairwise_map];have:met.Pairwise fun a b=>a∈met∧b∈met∧a≠b:=List.Pairwise.and_mem.1 h1
  refine this.imp fun⟨hx,hy,hne⟩ e'=>hne ?_
  obtain⟨u,v,u1,v1,rfl⟩:=h2 _ hx;obtain⟨s,t,s1,t1,rfl⟩:=h2 _ hy;have e':u*e.length+v=s*e.length+t:=e';have e1:v=t:=by
   have:=congrArg (· %e.length) e';simp only[Nat.mul_add_mod_self_right]at this;rwa[Nat.mod_eq_of_lt v1,Nat.mod_eq_of_lt t1]at this
  subst e1;have e2:u=s:=Nat.eq_of_mul_eq_mul_right le (Nat.add_right_cancel e');subst e2;rfl
 have h4:=zq4 (cnt:=a.length*e.length) h3 fun z hz=>by
  obtain⟨S,hS,rfl⟩:=List.mem_map.1 hz;obtain⟨u,v,u1,v1,rfl⟩:=h2 _ hS;show u*e.length+v<a.length*e.length;have:(u+1)*e.length≤a.length*e.length:=Nat.mul_le_mul_right _ u1;rw[Nat.add_mul,Nat.one_mul]at this;omega
 rwa[List.length_map]at h4
end
section
open Go.RowKit Go.Maps
structure BoG(a e:List St)(n n':Nat)(w W:World)(p kb i u v:Nat)(pa qa:List Arc3)(k j b ns cs ct:Nat)(As At:Option Addr)(N:DataW Unit)(arcs:List Arc3)(na ca:Nat)(Aa:Option Addr)(hs:List Sh)(S:List Rw)(M0:List (List Int)):Prop where
 pos:PosP pa qa k j b
 ti:TiG w W p As ns cs At ct kb N ⟨.slice Aa na ca,na,zaa arcs⟩ hs S [] GRow.nil
 mid:MidP (zci a e) (finP a e) (finP a e) [0,0] i M0 [(u:Int),(v:Int)] b (S.map (·.l)) arcs (finP a e [(u:Int),(v:Int)]) (hs.map (·.d))
 prs:∀s∈S,zla n n' s.l
 tail:∀k,i+1≤k→k<ns→∃s,S[k]? =some s∧hs[k]? =some ⟨(finP a e s.l,[]),none,0⟩
 at_:hs[i]? =some ⟨(finP a e [(u:Int),(v:Int)],[]),none,0⟩
 len:arcs.length=na
 hi:∀x∈arcs,0≤x.2.1∧x.2.1≤256
 few:ns≤20000+b
 nab:na≤b
 ins:i<ns
section
variable {a e:List St}{n n':Nat}{w W W':World}{p kb i u v:Nat}{pa qa:List Arc3}{k j b ns cs ct:Nat}{As At:Option Addr}{N:DataW Unit}{arcs:List Arc3}{na ca:Nat}{Aa:Option Addr}{hs:List Sh}{S:List Rw}{M0:List (List Int)}
theorem BoG.keep(h:BoG a e n n' w W p kb i u v pa qa k j b ns cs ct As At N arcs na ca Aa hs S M0)(hb:Below W.heap.size W W'):BoG a e n n' w W' p kb i u v pa qa k j b ns cs ct As At N arcs na ca Aa hs S M0:={h with ti:=h.ti.keep hb}
theorem BoG.pass{x y:Arc3}(h:BoG a e n n' w W p kb i u v pa qa k j b ns cs ct As At N arcs na ca Aa hs S M0)(hp:pa[k]? =some x)(hq:qa[j]? =some y)(hn:¬max x.1 y.1≤min x.2.1 y.2.1):BoG a e n n' w W p kb i u v pa qa k (j+1) b ns cs ct As At N arcs na ca Aa hs S M0:={h with pos:=h.pos.pass hp hq hn}
theorem BoG.next(h:BoG a e n n' w W p kb i u v pa qa k j b ns cs ct As At N arcs na ca Aa hs S M0)(hj:qa.length≤j):BoG a e n n' w W p kb i u v pa qa (k+1) 0 b ns cs ct As At N arcs na ca Aa hs S M0:={h with pos:=h.pos.next hj}
theorem BoG.last(h:BoG a e n n' w W p kb i u v (zd4 a (u:Int)) (zd4 e (v:Int)) k 0 b ns cs ct As At N arcs na ca Aa hs S M0)(hk:(zd4 a (u:Int)).length≤k):MidP (zci a e) (finP a e) (finP a e) [0,0] i M0 [(u:Int),(v:Int)] 256 (S.map (·.l)) arcs (finP a e [(u:Int),(v:Int)]) (hs.map (·.d)):=
 h.mid.pass_ h.pos.le fun _ h1 _=>h.pos.rest hk h1
theorem BoG.take{P Q:Arc3}{u2 v2 i11 ns' cs' ct' na' ca':Nat}{T T':Int}{As' At' Aa':Option Addr}{N':DataW Unit}{hs':List Sh}{S':List Rw}{R:Rw}{f:Bool}(hpa:zd4 a (u:Int)=pa)(hqa:zd4 e (v:Int)=qa)(hap:Asc pa 256)(haq:Asc qa 256)
  (h:BoG a e n n' w W p kb i u v pa qa k j b ns cs ct As At N arcs na ca Aa hs S M0) (hp:pa[k]? =some P) (hq:qa[j]? =some Q) (hu:max P.1 Q.1=(u2:Int)) (hv:min P.2.1 Q.2.1=(v2:Int)) (hn:u2≤v2) (hT:P.2.2=T) (hT':Q.2.2=T') (hf:finP a e [T,T']=f) (hR:R.l=[T,T']) (hpr:zla n n' [T,T'])
  (hti:TiG w W' p As' ns' cs' At' ct' kb N' ⟨.slice Aa' na' ca',na',zaa (zbf arcs ((u2:Int),(v2:Int),(i11:Int)))⟩ hs' S' [] GRow.nil) (hna:(zbf arcs ((u2:Int),(v2:Int),(i11:Int))).length=na')
  (hc:(ze2 [T,T'] (S.map (·.l))=some i11∧ns'=ns∧hs'=hs∧S'=S)∨(ze2 [T,T'] (S.map (·.l))=none∧i11=ns∧ns'=ns+1∧hs'=hs++[⟨(f,[]),none,0⟩]∧S'=S++[R])):
  BoG a e n n' w W' p kb i u v pa qa k (j+1) (v2+1) ns' cs' ct' As' At' N' (zbf arcs ((u2:Int),(v2:Int),(i11:Int))) na' ca' Aa' hs' S' M0:=by
 subst hpa hqa hT hT' hf;have hb:=h.pos.left k j P Q hp hq (.inr ⟨rfl,Nat.le_refl _⟩);have hP:=h.pos.take hap haq hp hq hu hv hn;have hM:=h.mid.meet hap haq h.pos hp hq hu hv hn;have hle:=hP.le;have hj:=zp1 arcs ((u2:Int),(v2:Int),(i11:Int));have hjh:=zu7 (P:=fun z=>0≤z∧z≤256) (a:=((u2:Int),(v2:Int),(i11:Int))) h.hi (by show 0≤(v2:Int)∧(v2:Int)≤256;omega);have hl:=h.len;have hnb:=h.nab;have hfw:=h.few;have hin:=h.ins;have hsl:=h.ti.mr.sl;have hhl:=h.ti.mr.hl;rcases hc with⟨hq,rfl,rfl,rfl⟩|⟨hq,rfl,rfl,rfl,rfl⟩
 ·exact⟨hP,hti,hM.1 _ hq,h.prs,h.tail,h.at_,hna,hjh,by omega,by omega,hin⟩
 ·have h2:=hM.2 hq;rw[List.length_map,hsl]at h2;refine⟨hP,hti,by rw[List.map_append,List.map_append];show MidP _ _ _ _ _ _ _ _ (_++[R.l]) _ _ _;rw[hR];exact h2,fun s hs=>?_,fun k' h3 h4=>?_,?_,hna,hjh,by omega,by omega,by omega⟩
  ·rcases List.mem_append.1 hs with hs|hs
   ·exact h.prs s hs
   ·rw[List.mem_singleton.1 hs,hR];exact hpr
  ·by_cases hk':k'<i11
   ·obtain⟨s,h5,h6⟩:=h.tail k' h3 hk';exact⟨s,by rw[List.getElem?_append_left (by omega)];exact h5,by rw[List.getElem?_append_left (by omega)];exact h6⟩
   ·obtain rfl:k'=i11:=by omega
    refine⟨R,?_,?_⟩
    ·rw[List.getElem?_append_right (by omega),hsl,Nat.sub_self];rfl
    ·rw[List.getElem?_append_right (by omega),hhl,Nat.sub_self,hR];rfl
  ·rw[List.getElem?_append_left (by omega)];exact h.at_
end
end
section
open Go.RowKit Go.Maps
theorem zKh(w W3:World)(B:Nat)(hB:B≤w.heap.size)(ab ao n c:Nat)(H:List Sh)(HS:Hid (StsIn w B (some ⟨ab,ao,none⟩) n c H))(eb eo n' c':Nat)(H':List Sh)(HS':Hid (StsIn w B (some ⟨eb,eo,none⟩) n' c' H'))(hab:ab<B)(heb:eb<B)
  (a e':List St) (HA:Hid (H.map (·.d)=a)) (HE:Hid (H'.map (·.d)=e')) (HG:Hid (Good a)) (HG':Hid (Good e')) (hln:H.length=n) (hln':H'.length=n') (HAL:Hid (a.length=n)) (HEL:Hid (e'.length=n')) (HT:Hid (Tab w)) (hnp:0<n) (hnp':0<n') (hnm:n≤20000) (hnm':n'≤20000)
  (p kb i u v:Nat) (X Y:Sh) (HXA:Hid (zd4 a (u:Int)=X.d.2)) (HYA:Hid (zd4 e' (v:Int)=Y.d.2)) (HXM:Hid (X∈H)) (HYM:Hid (Y∈H')) (HAX:Hid (Asc X.d.2 256)) (HAY:Hid (Asc Y.d.2 256)) (m':Nat) (HM':Hid (Y.d.2.length=m')) (hmm':m'≤140737488355328)
  (k:Nat) (lo hi tt:Int) (HPX:Hid (X.d.2[k]? =some (lo,hi,tt))) (pb:Nat) (hpbs:w.heap.size≤pb)
  (ns cs ct na ca b:Nat) (As At Aa:Option Addr) (N:DataW Unit) (hs:List Sh) (S:List Rw) (arcs:List Arc3) (M0:List (List Int))
  (j:Nat) (hj:j<m') (lo' hi' tt':Int) (HQY:Hid (Y.d.2[j]? =some (lo',hi',tt'))) (qb:Nat) (hqbs:w.heap.size≤qb) (HB3:Hid (BoG a e' n n' w W3 p kb i u v X.d.2 Y.d.2 k j b ns cs ct As At N arcs na ca Aa hs S M0)) (HPB3:Hid (W3.heap[pb]? =some (.cells #[.int .i64 lo,.int .i64 hi,.int .i64 tt] 76 (0,0))∧(Value.slice Aa na ca).ownBlock≠some pb))
  (HQB3:Hid (W3.heap[qb]? =some (.cells #[.int .i64 lo',.int .i64 hi',.int .i64 tt'] 76 (0,0))∧(Value.slice Aa na ca).ownBlock≠some qb)) (hpW3:pb<W3.heap.size) (hqW3:qb<W3.heap.size) (u2 v2:Nat) (HUV:Hid (max lo lo'=(u2:Int)∧min hi hi'=(v2:Int))) (huv:u2≤v2)
  (c2 c3 c4 c5 c6 c7 c9 c10 c11 c13 c15 c19 c20 c21 c22 c23 c24 c25 c26 c27 c28 c29 c30 c31 c32 c33 c34 c35 c36 c37 c38 c39 c40 c41 c42 c43 c44 c45 c46 c47 c48 c49 c50 c51 c52 c53 c54 c55 c56 c57 c58 c59 c60 c61 c62 c63 c64 c65 c66 c67 c68 c69 c70 c71 c72 c73 c74 c75 c76 c77 c78 c79 c80 c81 c82 c83 c84 c85 c86 c87 c88 c89 c90 c91 c92 c93 c94 c95 c96 c97 c98 c99 c100 c101 c102 c103 c104 c105 c106 c107 c108 c109 c136 c137 c138 c139 c140 c141 c142 c143 c144 c145 c146 c147 c148 c149 c150 u110 u111 u112 u113 u114 u115 u116 u117 u118 u119 u120 u121 u122 u123 u124 u125 u126 u127 u128 u129 u130 u131 u132 u133 u134 u135:Value) (Q0:Exit→Act→World→Prop) (hQ0:∀c (a a':Act) w,a.defers=a'.defers→Q0 (.panic c) a w→Q0 (.panic c) a' w)
  (hexit:∀(ns' cs' ct' na' ca':Nat) (As' At' Aa':Option Addr) (N':DataW Unit) (hs':List Sh) (S':List Rw) (arcs':List Arc3) (W:World) (u110 u111 u112 u113 u114 u115 u116 u117 u118 u119 u120 u121 u122 u123 u124 u125 u126 u127 u128 u129 u130 u131 u132 u133 u134 u135:Value),Hid (BoG a e' n n' w W p kb i u v X.d.2 Y.d.2 k (j+1) (v2+1) ns' cs' ct' As' At' N' arcs' na' ca' Aa' hs' S' M0)→Hid (W.heap[pb]? =some (.cells #[.int .i64 lo,.int .i64 hi,.int .i64 tt] 76 (0,0))∧(Value.slice Aa' na' ca').ownBlock≠some pb)→Q0 .normal ⟨List.toArray (.slice (some ⟨ab,ao,none⟩) n c::.slice (some ⟨eb,eo,none⟩) n' c'::c2::c3::c4::c5::c6::c7::.pointer (some ⟨p,0,none⟩)::c9::c10::c11::.slice Aa' na' ca'::c13::.pointer (some ⟨pb,0,none⟩)::c15::.pointer (some ⟨qb,0,none⟩)::.int .i64 (u2:Int)::.int .i64 (v2:Int)::c19::c20::c21::c22::c23::c24::c25::c26::c27::c28::c29::c30::c31::c32::c33::c34::c35::c36::c37::c38::c39::c40::c41::c42::c43::c44::c45::c46::c47::c48::c49::c50::c51::c52::c53::c54::c55::c56::c57::c58::c59::c60::c61::c62::c63::c64::c65::c66::c67::c68::c69::c70::c71::c72::c73::c74::c75::c76::c77::c78::c79::c80::c81::c82::c83::c84::c85::c86::c87::c88::c89::c90::c91::c92::c93::c94::c95::c96::c97::c98::c99::c100::c101::c102::c103::c104::c105::c106::c107::c108::c109::u110::u111::u112::u113::u114::u115::u116::u117::u118::u119::u120::u121::u122::u123::u124::u125::u126::u127::u128::u129::u130::u131::u132::u133::u134::u135::c136::c137::c138::c139::c140::c141::c142::c143::c144::c145::c146::c147::c148::c149::c150::[]),[]⟩ W):
  Code.wp Tryz.prog (zHc Tryz.f17 20) Q0 ⟨List.toArray (.slice (some ⟨ab,ao,none⟩) n c::.slice (some ⟨eb,eo,none⟩) n' c'::c2::c3::c4::c5::c6::c7::.pointer (some ⟨p,0,none⟩)::c9::c10::c11::.slice Aa na ca::c13::.pointer (some ⟨pb,0,none⟩)::c15::.pointer (some ⟨qb,0,none⟩)::.int .i64 (u2:Int)::.int .i64 (v2:Int)::c19::c20::c21::c22::c23::c24::c25::c26::c27::c28::c29::c30::c31::c32::c33::c34::c35::c36::c37::c38::c39::c40::c41::c42::c43::c44::c45::c46::c47::c48::c49::c50::c51::c52::c53::c54::c55::c56::c57::c58::c59::c60::c61::c62::c63::c64::c65::c66::c67::c68::c69::c70::c71::c72::c73::c74::c75::c76::c77::c78::c79::c80::c81::c82::c83::c84::c85::c86::c87::c88::c89::c90::c91::c92::c93::c94::c95::c96::c97::c98::c99::c100::c101::c102::c103::c104::c105::c106::c107::c108::c109::u110::u111::u112::u113::u114::u115::u116::u117::u118::u119::u120::u121::u122::u123::u124::u125::u126::u127::u128::u129::u130::u131::u132::u133::u134::u135::c136::c137::c138::c139::c140::c141::c142::c143::c144::c145::c146::c147::c148::c149::c150::[]),[]⟩ W3:=by
 conv=>arg 2;whnf
 have hxm:X.d∈a:=by rw[←HA.out];exact List.mem_map_of_mem HXM.out
 have hym:Y.d∈e':=by rw[←HE.out];exact List.mem_map_of_mem HYM.out
 have hox:=HAX.out.ok _ (List.mem_of_getElem? HPX.out);have hoy:=HAY.out.ok _ (List.mem_of_getElem? HQY.out);have htx:=HG.out.to_ _ hxm _ (List.mem_of_getElem? HPX.out);have hty:=HG'.out.to_ _ hym _ (List.mem_of_getElem? HQY.out);rw[HAL.out]at htx;rw[HEL.out]at hty;simp only at hox hoy htx hty;have hmxn:=HUV.out;obtain⟨T,rfl⟩:=Int.eq_ofNat_of_zero_le htx.1;obtain⟨T',rfl⟩:=Int.eq_ofNat_of_zero_le hty.1;have hT:T<n:=by omega
 have hT':T'<n':=by omega
 have hu256:u2≤256:=by omega
 have hv256:v2≤256:=by omega
 have q3:decide (u2≤v2)=true:=decide_eq_true huv;obtain⟨X2,hX2⟩:∃X,H[T]? =some X:=⟨H[T]'(by omega),List.getElem?_eq_getElem _⟩;obtain⟨Y2,hY2⟩:∃X,H'[T']? =some X:=⟨H'[T']'(by omega),List.getElem?_eq_getElem _⟩;obtain⟨fx,hfx⟩:∃f,X2.d.1=f:=⟨_,rfl⟩;obtain⟨fy,hfy⟩:∃f,Y2.d.1=f:=⟨_,rfl⟩;have HF2:Hid (finP a e' [(T:Int),(T':Int)]=(fx&&fy)):=by
  show(finD a T&&finD e' T')=_;unfold finD;rw[←HA.out,←HE.out,Int.toNat_natCast,Int.toNat_natCast,List.getElem?_map,List.getElem?_map,hX2,hY2];show(X2.d.1&&Y2.d.1)=_;rw[hfx,hfy]
 have HCE:Hid (∀W,Below w.heap.size w W→W.cell? ⟨ab,ao+T*2,none⟩=some (.bool fx)∧W.cell? ⟨eb,eo+T'*2,none⟩=some (.bool fy)):=fun W hW=>by
  obtain⟨b2,o2,e2,_,hc2⟩:=(HS.out.keep (hW.mono hB) (Nat.le_refl _)).at_ hnp;obtain⟨b3,o3,e3,_,hc3⟩:=(HS'.out.keep (hW.mono hB) (Nat.le_refl _)).at_ hnp';simp at e2 e3
  obtain⟨rfl,rfl⟩:=e2;obtain⟨rfl,rfl⟩:=e3;rw[←hfx,←hfy];exact⟨(hc2 T X2 hX2).1,(hc3 T' Y2 hY2).1⟩
 have HTI:Hid (∀W g,Below W3.heap.size W3 W→W3.heap.size≤g→W.heap[g]? =some (.cells #[.int .i64 (T:Int),.int .i64 (T':Int)] 3 (0,0))→TiG w W p As ns cs At ct kb N ⟨.slice Aa na ca,na,zaa arcs⟩ hs S [⟨some ⟨g,0,none⟩,2,[(T:Int),(T':Int)]⟩] GRow.nil):=fun W g hb hg hk=>HB3.out.ti.newE hb ⟨rfl,.inr ⟨g,2,_,rfl,hg,hk,Nat.le_refl _,by unfold maxLen;omega,rfl,rfl⟩⟩
 have HST:Hid (∀W,Below w.heap.size w W→W.heap[pb]? =some (.cells #[.int .i64 lo,.int .i64 hi,.int .i64 (T:Int)] 76 (0,0))→W.heap[qb]? =some (.cells #[.int .i64 lo',.int .i64 hi',.int .i64 (T':Int)] 76 (0,0))→W.cell? ⟨pb,2,none⟩=some (.int .i64 (T:Int))∧W.cell? ⟨qb,2,none⟩=some (.int .i64 (T':Int))∧W.cell? ⟨ab,ao+T*2,none⟩=some (.bool fx)∧W.cell? ⟨eb,eo+T'*2,none⟩=some (.bool fy)):=fun W hW h1 h2=>⟨cell_of_row W pb 2 _ _ (0,0) h1,cell_of_row W qb 2 _ _ (0,0) h2,(HCE.out W hW).1,(HCE.out W hW).2⟩
 have HSTA:Hid (∀(f:Bool) W g,Below W3.heap.size W3 W→W3.heap.size≤g→W.heap[g]? =some (.cells #[.int .i64 (T:Int),.int .i64 (T':Int)] 3 (0,0))→Calls Tryz.prog 31 #[.pointer (some ⟨p,0,none⟩),.slice (some ⟨g,0,none⟩) 2 2,.bool f] W fun e w11=>∃i11:Nat,e=.returned (.int .i64 (i11:Int))∧
   w11.heap[pb]? =some (.cells #[.int .i64 lo,.int .i64 hi,.int .i64 (T:Int)] 76 (0,0))∧w11.heap[qb]? =some (.cells #[.int .i64 lo',.int .i64 hi',.int .i64 (T':Int)] 76 (0,0))∧∃ns' cs' ct' As' At' N' hs' S',TiG w w11 p As' ns' cs' At' ct' kb N' ⟨.slice Aa na ca,na,zaa arcs⟩ hs' S' [] GRow.nil∧
    ((ze2 [(T:Int),(T':Int)] (S.map (·.l))=some i11∧ns'=ns∧hs'=hs∧S'=S)∨(ze2 [(T:Int),(T':Int)] (S.map (·.l))=none∧i11=ns∧ns'=ns+1∧hs'=hs++[⟨(f,[]),none,0⟩]∧S'=S++[⟨some ⟨g,0,none⟩,2,[(T:Int),(T':Int)]⟩]))):=fun f W g hb hg hk=>by
  have hW:=HTI.out W g hb hg hk;have hnsb:ns≤1000000:=by have h1:=HB3.out.few;have h2:=HB3.out.pos.le;omega
  refine(zjk W w.heap.size p As ns cs At ct kb N _ hs S hW.mr hnsb hW.tab HT.out.lt ⟨some ⟨g,0,none⟩,2,[(T:Int),(T':Int)]⟩ 2 rfl (Fam.turn' (F:=[]) hW.fam) (by omega) (fun z hz=>by simp at hz;omega) f).mono ?_;rintro e w11 ⟨i11,rfl,hk11,ht11,hcase⟩;refine⟨i11,rfl,hk11.other pb _ _ _ (by decide) (by decide) (by decide) ((hb.block pb hpW3).trans HPB3.out.1),hk11.other qb _ _ _ (by decide) (by decide) (by decide) ((hb.block qb hqW3).trans HQB3.out.1),?_⟩;rcases hcase with⟨h1,h2⟩|⟨h1,h2,As',cs',At',ct',N',h3⟩
  ·exact⟨ns,cs,ct,As,At,N,hs,S,hW.old hk11 ht11 h2,.inl ⟨h1,rfl,rfl,rfl⟩⟩
  ·exact⟨ns+1,cs',ct',As',At',N',_,_,hW.new hk11 ht11 h3,.inr ⟨h1,h2,rfl,rfl,rfl⟩⟩
 clear hX2 hY2 hfx hfy hxm hym hox hoy htx hty hmxn;have c2:=cell_of_row W3 pb 2 _ _ (0,0) HPB3.out.1;have d2:=cell_of_row W3 qb 2 _ _ (0,0) HQB3.out.1;obtain⟨x4,y4⟩:=HCE.out W3 HB3.out.ti.bel;have haw3:ab<W3.heap.size:=by have:=HB3.out.ti.bel.size;omega
 have hew3:eb<W3.heap.size:=by have:=HB3.out.ti.bel.size;omega
 have HSK:Hid (∀W,Below W3.heap.size W3 W→W.cell? ⟨pb,2,none⟩=some (.int .i64 (T:Int))∧W.cell? ⟨qb,2,none⟩=some (.int .i64 (T':Int))∧W.cell? ⟨ab,ao+T*2,none⟩=some (.bool fx)∧W.cell? ⟨eb,eo+T'*2,none⟩=some (.bool fy)):=fun W hW=>HST.out W (za9 HB3.out.ti.bel hW) ((hW.block pb hpW3).trans HPB3.out.1) ((hW.block qb hqW3).trans HQB3.out.1)
 have HS3:=Lib.hid (HST.out W3 HB3.out.ti.bel HPB3.out.1 HQB3.out.1);have HAH:Hid (∀x∈arcs,0≤x.2.1∧x.2.1≤256):=HB3.out.hi;have HNA:Hid (na≤256):=by have h1:=HB3.out.nab;have h2:=HB3.out.pos.le;show _≤_;omega
 have hpr:Hid (zla n n' [(T:Int),(T':Int)]):=⟨T,T',hT,hT',rfl⟩;clear HCE;cases fx
 ·
  go_wp2_with fail;refine wp_region_held_drew (S:=(fun w'=>w'.cell? ⟨pb,2,none⟩=some (.int .i64 (T:Int))∧w'.cell? ⟨qb,2,none⟩=some (.int .i64 (T':Int))∧w'.cell? ⟨ab,ao+T*2,none⟩=some (.bool false)∧w'.cell? ⟨eb,eo+T'*2,none⟩=some (.bool fy))) (by kernel_rfl) ?_ (fun hHeld=>?_)
  ·(try dsimp only);(first|assumption|exact HS3.out|exact HS11.out|exact HS12.out|(refine HSK.out _ ?_;(repeat(first|exact za0 _|refine Below.drew ?_|refine bnew ?_ _));done))
  refine wpAnyH_take (i:=0) (v:=?_) rfl (by kernel_rfl) (by kernel_rfl) (by kernel_rfl) (fun c _ w h=>hQ0 c _ _ w (by rfl) h) (Or.inl ⟨by rfl,?_⟩) (by assumption) ?_;rotate_left
  ·intro w hSw;(try dsimp only at hSw);go_simp;(try with_reducible rfl)
  try simp only[Act.put,List.setIfInBounds_toArray]
  refine wpAnyH_take (i:=1) (v:=?_) rfl (by kernel_rfl) (by kernel_rfl) (by kernel_rfl) (fun c _ w h=>hQ0 c _ _ w (by rfl) h) (Or.inl ⟨by rfl,?_⟩) (by assumption) ?_;rotate_left
  ·intro w hSw;(try dsimp only at hSw);go_simp;(try with_reducible rfl)
  try simp only[Act.put]
  refine wpAnyH_take (i:=2) (v:=?_) rfl (by kernel_rfl) (by kernel_rfl) (by kernel_rfl) (fun c _ w h=>hQ0 c _ _ w (by rfl) h) (Or.inl ⟨by rfl,?_⟩) (by assumption) ?_;rotate_left
  ·intro w hSw;(try dsimp only at hSw);go_simp;(try with_reducible rfl)
  try simp only[Act.put]
  refine wpAnyH_take (i:=3) (v:=?_) rfl (by kernel_rfl) (by kernel_rfl) (by kernel_rfl) (fun c _ w h=>hQ0 c _ _ w (by rfl) h) (Or.inl ⟨by rfl,?_⟩) (by assumption) ?_;rotate_left
  ·intro w hSw;(try dsimp only at hSw);go_simp;(try with_reducible rfl)
  try simp only[Act.put]
  refine wpAnyH_take (i:=4) (v:=?_) rfl (by kernel_rfl) (by kernel_rfl) (by kernel_rfl) (fun c _ w h=>hQ0 c _ _ w (by rfl) h) (Or.inl ⟨by rfl,?_⟩) (by assumption) ?_;rotate_left
  ·intro w hSw;(try dsimp only at hSw);go_simp;(try with_reducible rfl)
  try simp only[Act.put]
  refine wpAnyH_take (i:=5) (v:=?_) rfl (by kernel_rfl) (by kernel_rfl) (by kernel_rfl) (fun c _ w h=>hQ0 c _ _ w (by rfl) h) (Or.inl ⟨by rfl,?_⟩) (by assumption) ?_;rotate_left
  ·intro w hSw;(try dsimp only at hSw);go_simp;(try with_reducible rfl)
  try simp only[Act.put]
  refine wpAnyH_take (i:=6) (v:=?_) rfl (by kernel_rfl) (by kernel_rfl) (by kernel_rfl) (fun c _ w h=>hQ0 c _ _ w (by rfl) h) (Or.inl ⟨by rfl,?_⟩) (by assumption) ?_;rotate_left
  ·intro w hSw;(try dsimp only at hSw);go_simp;(try with_reducible rfl)
  try simp only[Act.put]
  refine wpAnyH_take (i:=7) (v:=?_) rfl (by kernel_rfl) (by kernel_rfl) (by kernel_rfl) (fun c _ w h=>hQ0 c _ _ w (by rfl) h) (Or.inl ⟨by rfl,?_⟩) (by assumption) ?_;rotate_left
  ·intro w hSw;(try dsimp only at hSw);go_simp;(try with_reducible rfl)
  try simp only[Act.put]
  refine wpAnyH_take (i:=9) (v:=?_) rfl (by kernel_rfl) (by kernel_rfl) (by kernel_rfl) (fun c _ w h=>hQ0 c _ _ w (by rfl) h) (Or.inl ⟨by rfl,?_⟩) (by assumption) ?_;rotate_left
  ·intro w hSw;(try dsimp only at hSw);go_simp;(try with_reducible rfl)
  try simp only[Act.put]
  refine wpAnyH_take (i:=10) (v:=?_) rfl (by kernel_rfl) (by kernel_rfl) (by kernel_rfl) (fun c _ w h=>hQ0 c _ _ w (by rfl) h) (Or.inl ⟨by rfl,?_⟩) (by assumption) ?_;rotate_left
  ·intro w hSw;(try dsimp only at hSw);go_simp;(try with_reducible rfl)
  try simp only[Act.put]
  refine wpAnyH_take (i:=11) (v:=?_) rfl (by kernel_rfl) (by kernel_rfl) (by kernel_rfl) (fun c _ w h=>hQ0 c _ _ w (by rfl) h) (Or.inl ⟨by rfl,?_⟩) (by assumption) ?_;rotate_left
  ·intro w hSw;(try dsimp only at hSw);go_simp;(try with_reducible rfl)
  try simp only[Act.put]
  refine wpAnyH_take (i:=12) (v:=?_) rfl (by kernel_rfl) (by kernel_rfl) (by kernel_rfl) (fun c _ w h=>hQ0 c _ _ w (by rfl) h) (Or.inl ⟨by rfl,?_⟩) (by assumption) ?_;rotate_left
  ·intro w hSw;(try dsimp only at hSw);go_simp;(try with_reducible rfl)
  try simp only[Act.put]
  refine wpAnyH_take (i:=13) (v:=?_) rfl (by kernel_rfl) (by kernel_rfl) (by kernel_rfl) (fun c _ w h=>hQ0 c _ _ w (by rfl) h) (Or.inl ⟨by rfl,?_⟩) (by assumption) ?_;rotate_left
  ·intro w hSw;(try dsimp only at hSw);go_simp;(try with_reducible rfl)
  try simp only[Act.put]
  refine wpAnyH_take (i:=14) (v:=?_) rfl (by kernel_rfl) (by kernel_rfl) (by kernel_rfl) (fun c _ w h=>hQ0 c _ _ w (by rfl) h) (Or.inl ⟨by rfl,?_⟩) (by assumption) ?_;rotate_left
  ·intro w hSw;(try dsimp only at hSw);go_simp;(try with_reducible rfl)
  try simp only[Act.put]
  refine wpAnyH_take (i:=15) (v:=?_) rfl (by kernel_rfl) (by kernel_rfl) (by kernel_rfl) (fun c _ w h=>hQ0 c _ _ w (by rfl) h) (Or.inl ⟨by rfl,?_⟩) (by assumption) ?_;rotate_left
  ·intro w hSw;(try dsimp only at hSw);go_simp;(try with_reducible rfl)
  try simp only[Act.put]
  refine wpAnyH_take (i:=16) (v:=undef) rfl (by kernel_rfl) (by kernel_rfl) (by kernel_rfl) (fun c _ w h=>hQ0 c _ _ w (by rfl) h) (Or.inr ⟨by kernel_rfl,rfl⟩) (by assumption) ?_;try simp only[Act.put]
  refine wpAnyH_take (i:=17) (v:=undef) rfl (by kernel_rfl) (by kernel_rfl) (by kernel_rfl) (fun c _ w h=>hQ0 c _ _ w (by rfl) h) (Or.inr ⟨by kernel_rfl,rfl⟩) (by assumption) ?_;try simp only[Act.put]
  refine wpAnyH_take (i:=18) (v:=undef) rfl (by kernel_rfl) (by kernel_rfl) (by kernel_rfl) (fun c _ w h=>hQ0 c _ _ w (by rfl) h) (Or.inr ⟨by kernel_rfl,rfl⟩) (by assumption) ?_;try simp only[Act.put]
  refine wpAnyH_take (i:=19) (v:=undef) rfl (by kernel_rfl) (by kernel_rfl) (by kernel_rfl) (fun c _ w h=>hQ0 c _ _ w (by rfl) h) (Or.inr ⟨by kernel_rfl,rfl⟩) (by assumption) ?_;try simp only[Act.put]
  refine wpAnyH_take (i:=20) (v:=undef) rfl (by kernel_rfl) (by kernel_rfl) (by kernel_rfl) (fun c _ w h=>hQ0 c _ _ w (by rfl) h) (Or.inr ⟨by kernel_rfl,rfl⟩) (by assumption) ?_;try simp only[Act.put]
  refine wpAnyH_take (i:=21) (v:=undef) rfl (by kernel_rfl) (by kernel_rfl) (by kernel_rfl) (fun c _ w h=>hQ0 c _ _ w (by rfl) h) (Or.inr ⟨by kernel_rfl,rfl⟩) (by assumption) ?_;try simp only[Act.put]
  refine wpAnyH_take (i:=22) (v:=?_) rfl (by kernel_rfl) (by kernel_rfl) (by kernel_rfl) (fun c _ w h=>hQ0 c _ _ w (by rfl) h) (Or.inl ⟨by rfl,?_⟩) (by assumption) ?_;rotate_left
  ·intro w hSw;(try dsimp only at hSw);go_simp;(try with_reducible rfl)
  try simp only[Act.put]
  refine wpAnyH_ready (rs:=[8]) (by kernel_rfl) (by simp) ?_;refine AllReadyH.cons rfl (fun K hK=>?_) AllReadyH.nil;go_simp
  refine hK.out _ _ ?_ (fun hHeld=>?_)
  ·(try dsimp only);(first|assumption|exact HS3.out|exact HS11.out|exact HS12.out|(refine HSK.out _ ?_;(repeat(first|exact za0 _|refine Below.drew ?_|refine bnew ?_ _));done))
  clear hK K;try simp only[Act.put,List.setIfInBounds_toArray,List.set_cons_zero,List.set_cons_succ]
  refine wpAnyH_ready (rs:=[23]) (by kernel_rfl) (by simp) ?_;refine AllReadyH.cons rfl (fun K hK=>?_) AllReadyH.nil;go_simp
  go_at_call 31
  refine(HSTA.out _ _ _ (by repeat(first|exact za0 _|refine Below.drew ?_|refine bnew ?_ _)) (by exact Nat.le_refl _) (by exact heap_alloc_new _ _)).mono ?_;rintro e w11 ⟨i11,rfl,hp11,hq11,ns',cs',ct',As',At',N',hs',S',hr11,hca11⟩;have HP11:=Lib.hid (And.intro hp11 hq11);have HR11:=Lib.hid hr11;have HCA:=Lib.hid hca11;have HS11:=Lib.hid (HST.out w11 hr11.bel hp11 hq11);have HCU:Hid (w11.ownsRow w.heap.size 76 3 (.slice Aa na ca) na (zaa arcs)):=hr11.mr.g.arcs.own _ (List.mem_cons_self ..);clear hp11 hq11 hr11 hca11;refine hK.out _ _ ?_ (fun hHeld=>?_)
  ·(try dsimp only);(first|assumption|exact HS3.out|exact HS11.out|exact HS12.out|(refine HSK.out _ ?_;(repeat(first|exact za0 _|refine Below.drew ?_|refine bnew ?_ _));done))
  clear hK K;try simp only[Act.put,List.setIfInBounds_toArray,List.set_cons_zero,List.set_cons_succ]
  refine wpAnyH_take (i:=24) (v:=?_) rfl (by kernel_rfl) (by kernel_rfl) (by kernel_rfl) (fun c _ w h=>hQ0 c _ _ w (by rfl) h) (Or.inl ⟨by rfl,?_⟩) (by assumption) ?_;rotate_left
  ·intro w hSw;(try dsimp only at hSw);go_simp;(try with_reducible rfl)
  try simp only[Act.put,List.setIfInBounds_toArray]
  refine wpAnyH_ready (rs:=[25]) (by kernel_rfl) (by simp) ?_;refine AllReadyH.cons rfl (fun K hK=>?_) AllReadyH.nil;go_simp
  go_at_call 32
  refine(zn6 _ w.heap.size (by exact HR11.out.bel.size) Aa na ca arcs (by exact HCU.out) (by have:=HNA.out;omega) (u2:Int) (v2:Int) (i11:Int) ⟨by omega,by omega⟩ HAH.out).mono ?_;rintro e w12 ⟨v12,rfl,hown12,hg12,hm12⟩;have HO12:=Lib.hid hown12;have HG12:Hid (w11.grownBy w12 (Value.slice Aa na ca).ownBlock):=⟨hg12.os,hg12.tape,hg12.output,hg12.size,hg12.block⟩;have HM12:Hid (v12.ownBlock=(Value.slice Aa na ca).ownBlock∨∃g,v12.ownBlock=some g∧w11.heap.size≤g):=hm12;have HR12:Hid (TiG w w12 p As' ns' cs' At' ct' kb N' ⟨v12,(zbf arcs ((u2:Int),(v2:Int),(i11:Int))).length,zaa (zbf arcs ((u2:Int),(v2:Int),(i11:Int)))⟩ hs' S' [] GRow.nil):=HR11.out.growC HT.out HG12.out HO12.out HM12.out;have HP12:Hid (w12.heap[pb]? =some (.cells #[.int .i64 lo,.int .i64 hi,.int .i64 (T:Int)] 76 (0,0))∧w12.heap[qb]? =some (.cells #[.int .i64 lo',.int .i64 hi',.int .i64 (T':Int)] 76 (0,0))):=⟨(HG12.out.block pb (Array.getElem?_eq_some_iff.1 HP11.out.1).1 (fun h=>HPB3.out.2 h.symm)).trans HP11.out.1,(HG12.out.block qb (Array.getElem?_eq_some_iff.1 HP11.out.2).1 (fun h=>HQB3.out.2 h.symm)).trans HP11.out.2⟩;have HS12:=Lib.hid (HST.out w12 HR12.out.bel HP12.out.1 HP12.out.2);clear hown12 hg12 hm12;refine hK.out _ _ ?_ (fun hHeld=>?_)
  ·(try dsimp only);(first|assumption|exact HS3.out|exact HS11.out|exact HS12.out|(refine HSK.out _ ?_;(repeat(first|exact za0 _|refine Below.drew ?_|refine bnew ?_ _));done))
  clear hK K;try simp only[Act.put,List.setIfInBounds_toArray,List.set_cons_zero,List.set_cons_succ]
  refine wpAnyH_take (i:=26) (v:=?_) rfl (by kernel_rfl) (by kernel_rfl) (by kernel_rfl) (fun c _ w h=>hQ0 c _ _ w (by rfl) h) (Or.inl ⟨by rfl,?_⟩) (by assumption) ?_;rotate_left
  ·intro w hSw;(try dsimp only at hSw);go_simp;(try with_reducible rfl)
  try simp only[Act.put,List.setIfInBounds_toArray]
  refine wpAnyH_done (by kernel_rfl) ?_ _;all_goals
   obtain⟨Ac,cac,rfl,_⟩:=za1 HO12.out;have HB12:=Lib.hid (HB3.out.take (f:=false) HXA.out HYA.out HAX.out HAY.out HPX.out HQY.out HUV.out.1 HUV.out.2 huv rfl rfl (by rw[HF2.out];rfl) rfl hpr.out HR12.out rfl HCA.out);have HPZ:=Lib.hid (And.intro HP12.out.1 (show(Value.slice Ac (zbf arcs ((u2:Int),(v2:Int),(i11:Int))).length cac).ownBlock≠some pb from fun h=>by
    rcases HM12.out with h1|⟨g,h1,h2⟩
    ·exact HPB3.out.2 (h1.symm.trans h)
    ·rw[h1]at h;injection h with h
     have:=(Array.getElem?_eq_some_iff.1 HP11.out.1).1;omega))
   exact hexit _ _ _ _ _ _ _ _ _ _ _ _ _ _ _ _ _ _ _ _ _ _ _ _ _ _ _ _ _ _ _ _ _ _ _ _ _ _ _ HB12 HPZ
 ·
  go_wp2_with fail;go_region_held3 (fun w'=>w'.cell? ⟨pb,2,none⟩=some (.int .i64 (T:Int))∧w'.cell? ⟨qb,2,none⟩=some (.int .i64 (T':Int))∧w'.cell? ⟨ab,ao+T*2,none⟩=some (.bool true)∧w'.cell? ⟨eb,eo+T'*2,none⟩=some (.bool fy))
   (first
    |assumption
    |exact HS3.out
    |exact HS11.out
    |exact HS12.out
    |(refine HSK.out _ ?_;(repeat(first|exact za0 _|refine Below.drew ?_|refine bnew ?_ _));done))
   (first
    |(
      go_at_call 31
      refine(HSTA.out _ _ _ (by repeat(first|exact za0 _|refine Below.drew ?_|refine bnew ?_ _)) (by exact Nat.le_refl _) (by exact heap_alloc_new _ _)).mono ?_;rintro e w11 ⟨i11,rfl,hp11,hq11,ns',cs',ct',As',At',N',hs',S',hr11,hca11⟩;have HP11:=Lib.hid (And.intro hp11 hq11);have HR11:=Lib.hid hr11;have HCA:=Lib.hid hca11;have HS11:=Lib.hid (HST.out w11 hr11.bel hp11 hq11);have HCU:Hid (w11.ownsRow w.heap.size 76 3 (.slice Aa na ca) na (zaa arcs)):=hr11.mr.g.arcs.own _ (List.mem_cons_self ..);clear hp11 hq11 hr11 hca11)
    |(
      go_at_call 32
      refine(zn6 _ w.heap.size (by exact HR11.out.bel.size) Aa na ca arcs (by exact HCU.out) (by have:=HNA.out;omega) (u2:Int) (v2:Int) (i11:Int) ⟨by omega,by omega⟩ HAH.out).mono ?_;rintro e w12 ⟨v12,rfl,hown12,hg12,hm12⟩;have HO12:=Lib.hid hown12;have HG12:Hid (w11.grownBy w12 (Value.slice Aa na ca).ownBlock):=⟨hg12.os,hg12.tape,hg12.output,hg12.size,hg12.block⟩;have HM12:Hid (v12.ownBlock=(Value.slice Aa na ca).ownBlock∨∃g,v12.ownBlock=some g∧w11.heap.size≤g):=hm12;have HR12:Hid (TiG w w12 p As' ns' cs' At' ct' kb N' ⟨v12,(zbf arcs ((u2:Int),(v2:Int),(i11:Int))).length,zaa (zbf arcs ((u2:Int),(v2:Int),(i11:Int)))⟩ hs' S' [] GRow.nil):=HR11.out.growC HT.out HG12.out HO12.out HM12.out;have HP12:Hid (w12.heap[pb]? =some (.cells #[.int .i64 lo,.int .i64 hi,.int .i64 (T:Int)] 76 (0,0))∧w12.heap[qb]? =some (.cells #[.int .i64 lo',.int .i64 hi',.int .i64 (T':Int)] 76 (0,0))):=⟨(HG12.out.block pb (Array.getElem?_eq_some_iff.1 HP11.out.1).1 (fun h=>HPB3.out.2 h.symm)).trans HP11.out.1,(HG12.out.block qb (Array.getElem?_eq_some_iff.1 HP11.out.2).1 (fun h=>HQB3.out.2 h.symm)).trans HP11.out.2⟩;have HS12:=Lib.hid (HST.out w12 HR12.out.bel HP12.out.1 HP12.out.2);clear hown12 hg12 hm12))
  all_goals
   obtain⟨Ac,cac,rfl,_⟩:=za1 HO12.out;have HB12:=Lib.hid (HB3.out.take (f:=fy) HXA.out HYA.out HAX.out HAY.out HPX.out HQY.out HUV.out.1 HUV.out.2 huv rfl rfl (by rw[HF2.out];rfl) rfl hpr.out HR12.out rfl HCA.out);have HPZ:=Lib.hid (And.intro HP12.out.1 (show(Value.slice Ac (zbf arcs ((u2:Int),(v2:Int),(i11:Int))).length cac).ownBlock≠some pb from fun h=>by
    rcases HM12.out with h1|⟨g,h1,h2⟩
    ·exact HPB3.out.2 (h1.symm.trans h)
    ·rw[h1]at h;injection h with h
     have:=(Array.getElem?_eq_some_iff.1 HP11.out.1).1;omega))
   exact hexit _ _ _ _ _ _ _ _ _ _ _ _ _ _ _ _ _ _ _ _ _ _ _ _ _ _ _ _ _ _ _ _ _ _ _ _ _ _ _ HB12 HPZ
end
end Go.Proofs.YtaociahafamncaaGreatDoor
