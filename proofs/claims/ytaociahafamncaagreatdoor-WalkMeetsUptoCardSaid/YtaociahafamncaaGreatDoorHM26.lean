/- Folded. -/
import Derived.Test.YtaociahafamncaaGreatDoorHM21
set_option maxRecDepth 100000
set_option maxHeartbeats 40000000
namespace Go.Proofs.YtaociahafamncaaGreatDoor
section
abbrev Edge:=Nat→List Nat→Nat→Prop
inductive Way (E:Edge):Nat→List Nat→Nat→Prop
 |nil (x:Nat):Way E x [] x
 |cons {x y z:Nat}{t u:List Nat} (h:E x t y) (r:Way E y u z):Way E x (t++u) z
section
variable {E F:Edge}{x y z:Nat}{t u:List Nat}
theorem Way.one(h:E x t y):Way E x t y:=by
 have:=Way.cons h (.nil y);rwa[List.append_nil]at this
theorem Way.trans(h:Way E x t y)(h':Way E y u z):Way E x (t++u) z:=by
 induction h with
 |nil=>exact h'
 |
  cons h1 _ ih=>
  rw[List.append_assoc];exact .cons h1 (ih h')
theorem Way.bind(h:∀x t y,E x t y→Way F x t y)(hw:Way E x t y):Way F x t y:=by
 induction hw with
 |nil=>exact .nil _
 |cons h1 _ ih=>exact(h _ _ _ h1).trans ih
theorem Way.mono(h:∀x t y,E x t y→F x t y)(hw:Way E x t y):Way F x t y:=hw.bind fun _ _ _ h1=>.one (h _ _ _ h1)
theorem Way.iff(h:∀x t y,E x t y↔F x t y):Way E x t y↔Way F x t y:=⟨.mono fun _ _ _=>(h _ _ _).1,.mono fun _ _ _=>(h _ _ _).2⟩
end
def zag(l:List Lst):Edge:=fun x t y=>∃s,l[x]? =some s∧((t=[]∧((y:Nat):Int)∈s.free)∨∃c:Nat,t=[c]∧∃a∈s.arcs,a.1≤(c:Int)∧(c:Int)≤a.2.1∧a.2.2=((y:Nat):Int))
theorem zGi{l:List Lst}{P:Nat→Prop}{x y:Nat}{t:List Nat}(h:Way (zag l) x t y):t=[]→Clo l P x→Clo l P y:=by
 induction h with
 |nil=>exact fun _ h=>h
 |
  cons h1 _ ih=>
  intro he hx
  obtain⟨e1,e2⟩:=List.append_eq_nil_iff.1 he;refine ih e2 ?_;obtain⟨s,hs,⟨_,hf⟩|⟨c,hc,_⟩⟩:=h1
  ·exact .step hx hs hf
  ·rw[e1]at hc;cases hc
theorem zyk{l:List Lst}{P:Nat→Prop}{y:Nat}:Clo l P y↔∃x,P x∧Way (zag l) x [] y:=by
 constructor
 ·intro h
  induction h with
  |base h=>exact⟨_,h,.nil _⟩
  |
   @step z x s hz hs hx ih=>
   obtain⟨u,hu,hw⟩:=ih;exact⟨u,hu,hw.trans (u:=[]) (.one ⟨s,hs,.inl ⟨rfl,hx⟩⟩)⟩
 ·rintro⟨x,hx,hw⟩;exact zGi hw rfl (.base hx)
theorem z61{l:List Lst}{x y:Nat}{t:List Nat}(h:Way (zag l) x t y):∀{c:Nat}{r:List Nat},t=c::r→∃z v,Way (zag l) x [] z∧zag l z [c] v∧Way (zag l) v r y:=by
 induction h with
 |nil=>intro c r e;cases e
 |
  @cons x y z t u h1 h2 ih=>
  intro c r e
  obtain⟨s,hs,⟨rfl,hf⟩|⟨d,rfl,ha⟩⟩:=h1
  ·obtain⟨w,v,k1,k2,k3⟩:=ih e;exact⟨w,v,(Way.one (E:=zag l) ⟨s,hs,.inl ⟨rfl,hf⟩⟩).trans (u:=[]) k1,k2,k3⟩
  ·injection e with e1 e2
   subst e1;have e2:u=r:=e2;subst e2;exact⟨x,y,.nil _,⟨s,hs,.inr ⟨d,rfl,ha⟩⟩,h2⟩
theorem zta{l:List Lst}:∀(t:List Nat) (P:Nat→Prop) (y:Nat),runP l (Clo l P) t y↔∃x,P x∧Way (zag l) x t y
 |[],P,y=>zyk
 |
  c::r,P,y=>by
  show runP l (Clo l (ovP l (Clo l P) c)) r y↔_;rw[zta r];constructor
  ·rintro⟨v,⟨z,s,hz,hs,a,ha⟩,hw⟩;obtain⟨x,hx,hxz⟩:=zyk.1 hz;refine⟨x,hx,?_⟩;have h1:zag l z [c] v:=⟨s,hs,.inr ⟨c,rfl,a,ha⟩⟩;exact hxz.trans (.cons h1 hw)
  ·rintro⟨x,hx,hw⟩;obtain⟨z,v,k1,⟨s,hs,⟨h1,_⟩|⟨d,h1,a,ha⟩⟩,k3⟩:=z61 hw rfl
   ·cases h1
   ·injection h1 with h1
    subst h1;exact⟨v,⟨z,s,zyk.2 ⟨x,hx,k1⟩,hs,a,ha⟩,k3⟩
open Classical in
theorem z66{l:List Lst}{t:List Nat}:endB l (runP l (Clo l fun x=>x=0) t)=true↔∃z s,l[z]? =some s∧s.fin=true∧Way (zag l) 0 t z:=by
 unfold endB;rw[decide_eq_true_eq];constructor
 ·rintro⟨z,s,hs,hf,hz⟩;obtain⟨x,rfl,hw⟩:=(zta t _ z).1 hz;exact⟨z,s,hs,hf,hw⟩
 ·rintro⟨z,s,hs,hf,hw⟩;exact⟨z,s,hs,hf,(zta t _ z).2 ⟨0,rfl,hw⟩⟩
def orE(E F:Edge):Edge:=fun x t y=>E x t y∨F x t y
def oneE(a b:Nat)(P:List Nat→Prop):Edge:=fun x t y=>x=a∧y=b∧P t
theorem zCd{E:Edge}{N a b:Nat}{P Q:List Nat→Prop}(hE:∀x t y,E x t y→x≠N∧y≠N)(ha:a≠N)(hb:b≠N){x z:Nat}{s:List Nat}(hx:x≠N)(hz:z≠N):
  Way (orE (orE E (oneE a N P)) (oneE N b Q)) x s z↔Way (orE E (oneE a b fun t=>∃p q,P p∧Q q∧t=p++q)) x s z:=by
 constructor
 ·intro h
  have key:∀{x z:Nat}{s:List Nat},Way (orE (orE E (oneE a N P)) (oneE N b Q)) x s z→z≠N→(x≠N→Way (orE E (oneE a b fun t=>∃p q,P p∧Q q∧t=p++q)) x s z)∧(x=N→∃q s',Q q∧s=q++s'∧Way (orE E (oneE a b fun t=>∃p q,P p∧Q q∧t=p++q)) b s' z):=by
   intro x z s h
   induction h with
   |nil x=>exact fun hz=>⟨fun _=>.nil _,fun e=>absurd e hz⟩
   |
    @cons x y z t u h1 _ ih=>
    intro hz
    obtain⟨i1,i2⟩:=ih hz;rcases h1 with(h1|⟨rfl,rfl,hp⟩)|⟨rfl,rfl,hq⟩
    ·obtain⟨k1,k2⟩:=hE _ _ _ h1;exact⟨fun _=>.cons (.inl h1) (i1 k2),fun e=>absurd e k1⟩
    ·refine⟨fun _=>?_,fun e=>absurd e ha⟩;obtain⟨q,s',hq,rfl,hw⟩:=i2 rfl;rw[←List.append_assoc];exact .cons (.inr ⟨rfl,rfl,t,q,hp,hq,rfl⟩) hw
    ·exact⟨fun k=>absurd rfl k,fun _=>⟨t,u,hq,rfl,i1 hb⟩⟩
  exact(key h hz).1 hx
 ·intro h
  refine h.bind fun x t y h1=>?_
  rcases h1 with h1|⟨rfl,rfl,p,q,hp,hq,rfl⟩
  ·exact .one (.inl (.inl h1))
  ·exact(Way.one (E:=orE (orE E (oneE x N P)) (oneE N y Q)) (.inl (.inr ⟨rfl,rfl,hp⟩))).trans (.one (.inr ⟨rfl,rfl,hq⟩))
def zde(l:List Lst)(x:Nat)(a:Arc3):List Lst:=l.modify x fun s=>⟨s.fin,s.arcs++[a],s.free⟩
def leadRow:List Lst→Nat→Nat→List (Int×Int)→List Lst
 |l,_,_,[]=>l
 |l,a,b,[x]=>zde l a (x.1,x.2,(b:Int))
 |l,a,b,x::y::r=>leadRow (zde (l++[⟨false,[],[]⟩]) a (x.1,x.2,(l.length:Int))) l.length b (y::r)
def fitN:List (Int×Int)→List Nat→Prop
 |[],[]=>True
 |x::r,c::t=>x.1≤(c:Int)∧(c:Int)≤x.2∧fitN r t
 |_,_=>False
theorem zce(l:List Lst)(x:Nat)(a:Arc3):(zde l x a).length=l.length:=List.length_modify ..
theorem zi5{l:List Lst}{a:Nat}{s:Lst}(z:Arc3)(h:l[a]? =some s):(zde l a z)[a]? =some ⟨s.fin,s.arcs++[z],s.free⟩:=by
 unfold zde;rw[List.getElem?_modify,h];show some (if a=a then _ else _)=_;rw[if_pos rfl]
theorem zi4{l:List Lst}{a x:Nat}(z:Arc3)(h:a≠x):(zde l a z)[x]? =l[x]? :=by
 unfold zde;rw[List.getElem?_modify];cases l[x]? with
 |none=>rfl
 |
  some s=>
  show some (if a=x then _ else _)=_;rw[if_neg h]
theorem zea{l:List Lst}{a b:Nat}{lo hi:Int}(ha:a<l.length)(x:Nat)(t:List Nat)(y:Nat):zag (zde l a (lo,hi,(b:Int))) x t y↔orE (zag l) (oneE a b fun t=>∃c:Nat,t=[c]∧lo≤(c:Int)∧(c:Int)≤hi) x t y:=by
 by_cases e:a=x
 ·subst e;obtain⟨s0,hs0⟩:∃s,l[a]? =some s:=⟨l[a],List.getElem?_eq_getElem ha⟩;have hs1:=zi5 (lo,hi,(b:Int)) hs0;constructor
  ·rintro⟨s,hs,h⟩;rw[hs1]at hs;injection hs with hs
   subst hs;rcases h with⟨h1,h2⟩|⟨c,rfl,z,hz,h1,h2,h3⟩
   ·exact .inl ⟨s0,hs0,.inl ⟨h1,h2⟩⟩
   ·rcases List.mem_append.1 hz with hz|hz
    ·exact .inl ⟨s0,hs0,.inr ⟨c,rfl,z,hz,h1,h2,h3⟩⟩
    ·rw[List.mem_singleton]at hz;subst hz;have h3:(b:Int)=(y:Int):=h3;exact .inr ⟨rfl,by omega,c,rfl,h1,h2⟩
  ·rintro(⟨s,hs,h⟩|⟨_,rfl,c,rfl,h1,h2⟩)
   ·rw[hs0]at hs;injection hs with hs
    subst hs;rcases h with⟨h1,h2⟩|⟨c,rfl,z,hz,h1⟩
    ·exact⟨_,hs1,.inl ⟨h1,h2⟩⟩
    ·exact⟨_,hs1,.inr ⟨c,rfl,z,List.mem_append_left _ hz,h1⟩⟩
   ·exact⟨_,hs1,.inr ⟨c,rfl,_,List.mem_append_right _ (List.mem_singleton.2 rfl),h1,h2,rfl⟩⟩
 ·unfold zag orE oneE;rw[zi4 _ e];exact⟨.inl,fun h=>h.elim id fun h=>absurd h.1.symm e⟩
theorem zq1{l:List Lst}(x:Nat)(t:List Nat)(y:Nat):zag (l++[⟨false,[],[]⟩]) x t y↔zag l x t y:=by
 unfold zag;by_cases h:x<l.length
 ·rw[List.getElem?_append_left h]
 ·rw[List.getElem?_append_right (by omega),List.getElem?_eq_none (l:=l) (by omega)];constructor
  ·rintro⟨s,hs,h1⟩;have hs:=List.mem_of_getElem? hs;rw[List.mem_singleton]at hs;subst hs;rcases h1 with⟨_,h1⟩|⟨_,_,z,hz,_⟩
   ·cases h1
   ·cases hz
  ·rintro⟨s,hs,_⟩;cases hs
theorem zd8:∀(r:List (Int×Int)) (l:List Lst) (a b:Nat),(leadRow l a b r).length=l.length+(r.length-1)
 |[],l,a,b=>rfl
 |[x],l,a,b=>zce ..
 |
  x::y::r,l,a,b=>by
  rw[leadRow,zd8 (y::r),zce,List.length_append];simp only[List.length_cons,List.length_nil];omega
def InE(E:Edge)(n:Nat):Prop:=∀x t y,E x t y→x<n∧y<n
theorem InE.or{E F:Edge}{n:Nat}(h:InE E n)(h':InE F n):InE (orE E F) n:=fun x t y k=>k.elim (h x t y) (h' x t y)
theorem InE.more{E:Edge}{n m:Nat}(h:InE E n)(hm:n≤m):InE E m:=fun x t y k=>⟨Nat.lt_of_lt_of_le (h x t y k).1 hm,Nat.lt_of_lt_of_le (h x t y k).2 hm⟩
theorem InE.one{a b n:Nat}{P:List Nat→Prop}(ha:a<n)(hb:b<n):InE (oneE a b P) n:=by
 rintro x t y ⟨rfl,rfl,_⟩;exact⟨ha,hb⟩
theorem z80{E E' F F':Edge}(h:∀x t y,E x t y↔E' x t y)(h':∀x t y,F x t y↔F' x t y)(x:Nat)(t:List Nat)(y:Nat):orE E F x t y↔orE E' F' x t y:=or_congr (h x t y) (h' x t y)
theorem zoj:∀(r:List (Int×Int)) (l:List Lst) (a b:Nat) (X:Edge),r≠[]→a<l.length→b<l.length→InE (zag l) l.length→InE X l.length→∀{x z:Nat}{s:List Nat},x<l.length→z<l.length→
  (Way (orE (zag (leadRow l a b r)) X) x s z↔Way (orE (zag l) (orE (oneE a b (fitN r)) X)) x s z)
 |[],l,a,b,X,h,_,_,_,_,_,_,_,_,_=>absurd rfl h
 |
  [p],l,a,b,X,_,ha,hb,_,_,x,z,s,_,_=>by
  refine Way.iff fun x t y=>?_
  rw[leadRow];show zag (zde l a (p.1,p.2,(b:Int))) x t y∨X x t y↔zag l x t y∨(oneE a b (fitN [p]) x t y∨X x t y);rw[zea ha];have e:oneE a b (fun t=>∃c:Nat,t=[c]∧p.1≤(c:Int)∧(c:Int)≤p.2) x t y↔oneE a b (fitN [p]) x t y:=by
   unfold oneE;refine and_congr Iff.rfl (and_congr Iff.rfl ?_);constructor
   ·rintro⟨c,rfl,h1,h2⟩;exact⟨h1,h2,trivial⟩
   ·intro h
    cases t with
    |nil=>exact h.elim
    |
     cons c t=>
     cases t with
     |nil=>exact⟨c,rfl,h.1,h.2.1⟩
     |cons d t=>exact h.2.2.elim
  unfold orE;rw[e];constructor
  ·rintro((h|h)|h)
   ·exact .inl h
   ·exact .inr (.inl h)
   ·exact .inr (.inr h)
  ·rintro(h|h|h)
   ·exact .inl (.inl h)
   ·exact .inl (.inr h)
   ·exact .inr h
 |
  p::q::r,l,a,b,X,_,ha,hb,hl,hX,x,z,s,hx,hz=>by
  rw[leadRow];have hlen:(zde (l++[⟨false,[],[]⟩]) a (p.1,p.2,(l.length:Int))).length=l.length+1:=by rw[zce,List.length_append];rfl
  have hedge:∀x t y,zag (zde (l++[⟨false,[],[]⟩]) a (p.1,p.2,(l.length:Int))) x t y↔orE (zag l) (oneE a l.length fun t=>∃c:Nat,t=[c]∧p.1≤(c:Int)∧(c:Int)≤p.2) x t y:=fun x t y=>by
   rw[zea (by rw[List.length_append];omega)];exact z80 zq1 (fun _ _ _=>Iff.rfl) x t y
  have hin:InE (zag (zde (l++[⟨false,[],[]⟩]) a (p.1,p.2,(l.length:Int)))) (l.length+1):=fun x t y h=>((hl.more (Nat.le_succ _)).or (InE.one (by omega) (by omega))) x t y ((hedge x t y).1 h)
  rw[zoj (q::r) _ l.length b X (by simp) (by rw[hlen];omega) (by rw[hlen];omega) (by rw[hlen];exact hin) (by rw[hlen];exact hX.more (Nat.le_succ _)) (by rw[hlen];omega) (by rw[hlen];omega)];have h1:Way (orE (zag (zde (l++[⟨false,[],[]⟩]) a (p.1,p.2,(l.length:Int)))) (orE (oneE l.length b (fitN (q::r))) X)) x s z↔Way (orE (orE (orE (zag l) X) (oneE a l.length fun t=>∃c:Nat,t=[c]∧p.1≤(c:Int)∧(c:Int)≤p.2)) (oneE l.length b (fitN (q::r)))) x s z:=by
   refine Way.iff fun x t y=>?_
   show zag _ x t y∨(_∨X x t y)↔((zag l x t y∨X x t y)∨_)∨_;rw[hedge];unfold orE;constructor
   ·rintro((h|h)|h|h)
    ·exact .inl (.inl (.inl h))
    ·exact .inl (.inr h)
    ·exact .inr h
    ·exact .inl (.inl (.inr h))
   ·rintro(((h|h)|h)|h)
    ·exact .inl (.inl h)
    ·exact .inr (.inr h)
    ·exact .inl (.inr h)
    ·exact .inr (.inl h)
  rw[h1,zCd (fun x t y h=>by have:=(hl.or hX) x t y h;omega) (by omega) (by omega) (by omega) (by omega)];refine Way.iff fun x t y=>?_
  have e:oneE a b (fun t=>∃u v,(∃c:Nat,u=[c]∧p.1≤(c:Int)∧(c:Int)≤p.2)∧fitN (q::r) v∧t=u++v) x t y↔oneE a b (fitN (p::q::r)) x t y:=by
   unfold oneE;refine and_congr Iff.rfl (and_congr Iff.rfl ?_);constructor
   ·rintro⟨_,v,⟨c,rfl,h1,h2⟩,h3,rfl⟩;exact⟨h1,h2,h3⟩
   ·intro h
    cases t with
    |nil=>exact h.elim
    |cons c t=>exact⟨[c],t,⟨c,rfl,h.1,h.2.1⟩,h.2.2,rfl⟩
  show(zag l x t y∨X x t y)∨_↔zag l x t y∨(_∨X x t y);rw[e];constructor
  ·rintro((h|h)|h)
   ·exact .inl h
   ·exact .inr (.inr h)
   ·exact .inr (.inl h)
  ·rintro(h|h|h)
   ·exact .inl (.inl h)
   ·exact .inr h
   ·exact .inl (.inr h)
theorem zlj:∀(r:List (Int×Int)) (l:List Lst) (a b:Nat),a<l.length→b<l.length→InE (zag l) l.length→InE (zag (leadRow l a b r)) (leadRow l a b r).length
 |[],l,a,b,_,_,hl=>hl
 |
  [p],l,a,b,ha,hb,hl=>by
  rw[leadRow,zce];exact fun x t y h=>(hl.or (InE.one ha hb)) x t y ((zea ha x t y).1 h)
 |
  p::q::r,l,a,b,ha,hb,hl=>by
  rw[leadRow];have hlen:(zde (l++[⟨false,[],[]⟩]) a (p.1,p.2,(l.length:Int))).length=l.length+1:=by rw[zce,List.length_append];rfl
  refine zlj (q::r) _ l.length b (by rw[hlen];omega) (by rw[hlen];omega) ?_;rw[hlen];intro x t y h
  rw[zea (by rw[List.length_append];omega)]at h;have h:=(z80 zq1 (fun _ _ _=>Iff.rfl) x t y).1 h;exact((hl.more (Nat.le_succ _)).or (InE.one (by omega) (by omega))) x t y h
def za6(l:List Lst)(a b:Nat)(rs:List (List (Int×Int))):List Lst:=rs.foldl (fun l r=>leadRow l a b r) l
theorem zhf:∀(rs:List (List (Int×Int))) (l:List Lst) (a b:Nat) (X:Edge),(∀r∈rs,r≠[])→a<l.length→b<l.length→InE (zag l) l.length→InE X l.length→∀{x z:Nat}{s:List Nat},x<l.length→z<l.length→
  (Way (orE (zag (za6 l a b rs)) X) x s z↔Way (orE (zag l) (orE (oneE a b fun t=>∃r∈rs,fitN r t) X)) x s z)
 |
  [],l,a,b,X,_,_,_,_,_,x,z,s,_,_=>by
  refine Way.iff fun x t y=>?_
  show zag l x t y∨X x t y↔zag l x t y∨(_∨X x t y);constructor
  ·rintro(h|h)
   ·exact .inl h
   ·exact .inr (.inr h)
  ·rintro(h|⟨_,_,r,hr,_⟩|h)
   ·exact .inl h
   ·cases hr
   ·exact .inr h
 |
  r::rs,l,a,b,X,hne,ha,hb,hl,hX,x,z,s,hx,hz=>by
  have hlen:=zd8 r l a b;show Way (orE (zag (za6 (leadRow l a b r) a b rs)) X) x s z↔_;rw[zhf rs (leadRow l a b r) a b X (fun q hq=>hne q (List.mem_cons_of_mem _ hq)) (by omega) (by omega) (zlj r l a b ha hb hl) (hX.more (by omega)) (by omega) (by omega),
   zoj r l a b _ (hne r (List.mem_cons_self ..)) ha hb hl ((InE.one ha hb).or hX) hx hz]
  refine Way.iff fun x t y=>?_
  show zag l x t y∨(oneE a b (fitN r) x t y∨(oneE a b _ x t y∨X x t y))↔zag l x t y∨(oneE a b _ x t y∨X x t y);constructor
  ·rintro(h|⟨h1,h2,h3⟩|⟨h1,h2,q,h3,h4⟩|h)
   ·exact .inl h
   ·exact .inr (.inl ⟨h1,h2,r,List.mem_cons_self ..,h3⟩)
   ·exact .inr (.inl ⟨h1,h2,q,List.mem_cons_of_mem _ h3,h4⟩)
   ·exact .inr (.inr h)
  ·rintro(h|⟨h1,h2,q,h3,h4⟩|h)
   ·exact .inl h
   ·rcases List.mem_cons.1 h3 with rfl|h3
    ·exact .inr (.inl ⟨h1,h2,h4⟩)
    ·exact .inr (.inr (.inl ⟨h1,h2,q,h3,h4⟩))
   ·exact .inr (.inr (.inr h))
end
section
theorem Way.snoc_ind{E:Edge}{x:Nat}{motive:Nat→List Nat→Prop}(h0:motive x [])(hs:∀y t u z,Way E x t y→motive y t→E y u z→motive z (t++u)){y:Nat}{t:List Nat}(h:Way E x t y):motive y t:=by
 have key:∀{v y:Nat}{t:List Nat},Way E v t y→∀t0,Way E x t0 v→motive v t0→motive y (t0++t):=by
  intro v y t h
  induction h with
  |nil=>intro t0 _ hm;rwa[List.append_nil]
  |
   cons h1 _ ih=>
   intro t0 hw hm
   rw[←List.append_assoc];exact ih _ (hw.trans (.one h1)) (hs _ _ _ _ hw hm h1)
 exact key h [] (.nil _) h0
def zpj:Nat→Nat→Nat→List (Int×Int)→Edge
 |_,_,_,[]=>fun _ _ _=>False
 |_,a,b,[p]=>oneE a b fun t=>∃c:Nat,t=[c]∧p.1≤(c:Int)∧(c:Int)≤p.2
 |N,a,b,p::q::r=>orE (oneE a N fun t=>∃c:Nat,t=[c]∧p.1≤(c:Int)∧(c:Int)≤p.2) (zpj (N+1) N b (q::r))
theorem zme:∀(r:List (Int×Int)) (l:List Lst) (a b:Nat),a<l.length→∀x t y,zag (leadRow l a b r) x t y↔orE (zag l) (zpj l.length a b r) x t y
 |[],l,a,b,_,x,t,y=>⟨.inl,fun h=>h.elim id False.elim⟩
 |[p],l,a,b,ha,x,t,y=>zea ha x t y
 |
  p::q::r,l,a,b,ha,x,t,y=>by
  rw[leadRow,zpj];have hlen:(zde (l++[⟨false,[],[]⟩]) a (p.1,p.2,(l.length:Int))).length=l.length+1:=by rw[zce,List.length_append];rfl
  rw[zme (q::r) _ l.length b (by rw[hlen];omega),hlen];show zag _ x t y∨_↔zag l x t y∨(_∨_);rw[zea (by rw[List.length_append];omega)];have:= @zq1 l x t y;unfold orE;rw[this,or_assoc]
def zm4:Nat→Nat→Nat→List (List (Int×Int))→Edge
 |_,_,_,[]=>fun _ _ _=>False
 |N,a,b,r::rs=>orE (zpj N a b r) (zm4 (N+(r.length-1)) a b rs)
theorem zh1:∀(rs:List (List (Int×Int))) (l:List Lst) (a b:Nat),a<l.length→∀x t y,zag (za6 l a b rs) x t y↔orE (zag l) (zm4 l.length a b rs) x t y
 |[],l,a,b,_,x,t,y=>⟨.inl,fun h=>h.elim id False.elim⟩
 |
  r::rs,l,a,b,ha,x,t,y=>by
  have hlen:=zd8 r l a b;show zag (za6 (leadRow l a b r) a b rs) x t y↔_;rw[zh1 rs _ a b (by omega),zm4];unfold orE;rw[zme r l a b ha,hlen];unfold orE;rw[or_assoc]
def zj2:List (List (Int×Int))→Nat
 |[]=>0
 |r::rs=>(r.length-1)+zj2 rs
theorem zdc:∀(rs:List (List (Int×Int))) (l:List Lst) (a b:Nat),(za6 l a b rs).length=l.length+zj2 rs
 |[],l,a,b=>rfl
 |
  r::rs,l,a,b=>by
  show(za6 (leadRow l a b r) a b rs).length=_;rw[zdc rs,zd8,zj2];omega
theorem zje:∀(rs:List (List (Int×Int))) (l:List Lst) (a b:Nat),a<l.length→b<l.length→InE (zag l) l.length→InE (zag (za6 l a b rs)) (za6 l a b rs).length
 |[],l,a,b,_,_,hl=>hl
 |
  r::rs,l,a,b,ha,hb,hl=>by
  have hlen:=zd8 r l a b;exact zje rs (leadRow l a b r) a b (by omega) (by omega) (zlj r l a b ha hb hl)
def midP(N:Nat)(r:List (Int×Int))(u:List Nat)(y:Nat):Prop:=0<u.length∧u.length<r.length∧y+1=N+u.length∧fitN (r.take u.length) u
def zg2:Nat→List (List (Int×Int))→List Nat→Nat→Prop
 |_,[],_,_=>False
 |N,r::rs,u,y=>midP N r u y∨zg2 (N+(r.length-1)) rs u y
theorem z1j:∀{r:List (Int×Int)}{u:List Nat},fitN r u→r.length=u.length
 |[],[],_=>rfl
 |_::_,_::_,h=>by rw[List.length_cons,List.length_cons,z1j h.2.2]
 |[],_::_,h=>h.elim
 |_::_,[],h=>h.elim
theorem zwb:∀{r:List (Int×Int)}{u:List Nat}{p:Int×Int}{c:Nat},fitN r u→p.1≤(c:Int)→(c:Int)≤p.2→fitN (r++[p]) (u++[c])
 |[],[],_,_,_,h1,h2=>⟨h1,h2,trivial⟩
 |_::_,_::_,_,_,h,h1,h2=>⟨h.1,h.2.1,zwb h.2.2 h1 h2⟩
 |[],_::_,_,_,h,_,_=>h.elim
 |_::_,[],_,_,h,_,_=>h.elim
theorem zud:∀{r:List (Int×Int)}{N a b:Nat}{x y:Nat}{t:List Nat},zpj N a b r x t y→∃(i:Nat) (p:Int×Int) (c:Nat),r[i]? =some p∧t=[c]∧p.1≤(c:Int)∧(c:Int)≤p.2∧(if i=0 then x=a else x+1=N+i)∧(if i+1=r.length then y=b else y=N+i)
 |[],_,_,_,_,_,_,h=>h.elim
 |
  [p],N,a,b,x,y,t,h=>by
  obtain⟨rfl,rfl,c,rfl,h1,h2⟩:=h;exact⟨0,p,c,rfl,rfl,h1,h2,rfl,rfl⟩
 |
  p::q::r,N,a,b,x,y,t,h=>by
  rcases h with⟨rfl,rfl,c,rfl,h1,h2⟩|h
  ·refine⟨0,p,c,rfl,rfl,h1,h2,rfl,?_⟩;rw[if_neg (by simp)];rfl
  ·obtain⟨i,p',c,h3,h4,h5,h6,h7,h8⟩:=zud h;refine⟨i+1,p',c,h3,h4,h5,h6,?_,?_⟩
   ·rw[if_neg (by omega)];split at h7
    ·omega
    ·omega
   ·rw[List.length_cons]at h8⊢;split at h8
    ·rw[if_pos (by simp at*;omega)];exact h8
    ·rw[if_neg (by simp at*;omega)];omega
theorem zpg:∀{r:List (Int×Int)}{N a b:Nat}{i:Nat}{p:Int×Int}{c x y:Nat},r[i]? =some p→p.1≤(c:Int)→(c:Int)≤p.2→(if i=0 then x=a else x+1=N+i)→(if i+1=r.length then y=b else y=N+i)→zpj N a b r x [c] y
 |[],_,_,_,_,_,_,_,_,h,_,_,_,_=>by simp at h
 |
  [q],N,a,b,i,p,c,x,y,h,h1,h2,h3,h4=>by
  have hi:i=0:=by have:=(List.getElem?_eq_some_iff.1 h).1;simp at this;omega
  subst hi;simp at h
  subst h;exact⟨h3,h4,c,rfl,h1,h2⟩
 |
  q::q'::r,N,a,b,i,p,c,x,y,h,h1,h2,h3,h4=>by
  cases i with
  |
   zero=>
   simp at h
   subst h;rw[if_neg (by simp)]at h4;exact .inl ⟨h3,h4,c,rfl,h1,h2⟩
  |
   succ i=>
   refine .inr (zpg (i:=i) (p:=p) (by simpa using h) h1 h2 ?_ ?_)
   ·rw[if_neg (by omega)]at h3;split<;>omega
   ·rw[List.length_cons]at h4;split at h4
    ·rw[if_pos (by omega)];exact h4
    ·rw[if_neg (by omega)];omega
theorem zke:∀{rs:List (List (Int×Int))}{N:Nat}{u:List Nat}{y:Nat},zg2 N rs u y→N≤y∧y<N+zj2 rs
 |[],_,_,_,h=>h.elim
 |
  r::rs,N,u,y,h=>by
  rw[zj2];rcases h with⟨h1,h2,h3,_⟩|h
  ·omega
  ·have:=zke h;omega
theorem zs6:∀{rs:List (List (Int×Int))}{N a b x y:Nat}{t:List Nat},a<N→b<N→zm4 N a b rs x t y→N≤y→(x=a∧zg2 N rs t y)∨(N≤x∧∀u,zg2 N rs u x→zg2 N rs (u++t) y)
 |[],_,_,_,_,_,_,_,_,h,_=>h.elim
 |
  r::rs,N,a,b,x,y,t,ha,hb,h,hy=>by
  rcases h with h|h
  ·obtain⟨i,p,c,h1,rfl,h3,h4,h5,h6⟩:=zud h;have hil:=(List.getElem?_eq_some_iff.1 h1).1;have hne:¬i+1=r.length:=fun e=>by rw[if_pos e]at h6;omega
   rw[if_neg hne]at h6;by_cases e:i=0
   ·subst e;rw[if_pos rfl]at h5;refine .inl ⟨h5,.inl ⟨by simp,by simp;omega,by simp;omega,?_⟩⟩;have e1:r.take [c].length=[p]:=by
     show r.take 1=[p];rw[List.take_add_one,List.take_zero,h1];rfl
    rw[e1];exact⟨h3,h4,trivial⟩
   ·rw[if_neg e]at h5;refine .inr ⟨by omega,fun u hu=>?_⟩;rcases hu with⟨k1,k2,k3,k4⟩|hu
    ·have hul:u.length=i:=by omega
     refine .inl ⟨by simp,by simp;omega,by simp;omega,?_⟩;rw[List.length_append,List.length_singleton,hul,List.take_add_one,h1];rw[hul]at k4;exact zwb k4 h3 h4
    ·have:=zke hu;omega
  ·by_cases hyr:N+(r.length-1)≤y
   ·rcases zs6 (N:=N+(r.length-1)) (by omega) (by omega) h hyr with⟨h1,h2⟩|⟨h1,h2⟩
    ·exact .inl ⟨h1,.inr h2⟩
    ·refine .inr ⟨by omega,fun u hu=>?_⟩;rcases hu with⟨k1,k2,k3,_⟩|hu
     ·omega
     ·exact .inr (h2 u hu)
   ·exfalso
    have key:∀{rs:List (List (Int×Int))}{M x y:Nat}{t:List Nat},zm4 M a b rs x t y→y=b∨M≤y:=by
     intro rs
     induction rs with
     |nil=>intro M x y t h;exact h.elim
     |
      cons r rs ih=>
      intro M x y t h
      rcases h with h|h
      ·obtain⟨i,p,c,h1,_,_,_,_,h6⟩:=zud h;split at h6
       ·exact .inl h6
       ·exact .inr (by omega)
      ·rcases ih h with h|h
       ·exact .inl h
       ·exact .inr (by omega)
    rcases key h with h|h<;>omega
theorem zD0{l:List Lst}{a b:Nat}{rs:List (List (Int×Int))}{X:Edge}(ha:a<l.length)(hb:b<l.length)(hl:InE (zag l) l.length)(hX:InE X l.length){x y:Nat}{t:List Nat}(hx:x<l.length)(hy:l.length≤y):
  Way (orE (zag (za6 l a b rs)) X) x t y↔∃t' u,t=t'++u∧Way (orE (zag (za6 l a b rs)) X) x t' a∧zg2 l.length rs u y:=by
 constructor
 ·intro h
  refine Way.snoc_ind (motive:=fun y t=>l.length≤y→∃t' u,t=t'++u∧Way (orE (zag (za6 l a b rs)) X) x t' a∧zg2 l.length rs u y) (fun h=>by omega) (fun v t u z hw ih he hz=>?_) h hy;rcases he with he|he
  ·rcases(zh1 rs l a b ha _ _ _).1 he with he|he
   ·have:=(hl _ _ _ he).2;omega
   ·rcases zs6 ha hb he hz with⟨rfl,hm⟩|⟨hv,hm⟩
    ·exact⟨t,u,rfl,hw,hm⟩
    ·obtain⟨t',u',rfl,h1,h2⟩:=ih hv;exact⟨t',u'++u,by rw[List.append_assoc],h1,hm u' h2⟩
  ·have:=(hX _ _ _ he).2;omega
 ·rintro⟨t',u,rfl,hw,hm⟩;refine hw.trans ?_;have key:∀{rs':List (List (Int×Int))}{N:Nat}{u:List Nat}{y:Nat},zg2 N rs' u y→Way (zm4 N a b rs') a u y:=by
   intro rs'
   induction rs' with
   |nil=>intro N u y h;exact h.elim
   |
    cons r rs' ih=>
    intro N u y h
    rcases h with⟨k1,k2,k3,k4⟩|h
    ·refine Way.mono (fun _ _ _ h=>.inl h) ?_;have hk:∀(n:Nat) (u:List Nat) (y:Nat),u.length=n→0<n→n<r.length→y+1=N+n→fitN (r.take n) u→Way (zpj N a b r) a u y:=by
      intro n
      induction n with
      |zero=>intro u y _ h0;omega
      |
       succ n ihn=>
       intro u y hu h0 hr hyn hf
       obtain⟨p,hp⟩:∃p,r[n]? =some p:=⟨r[n]'(by omega),List.getElem?_eq_getElem _⟩;rw[List.take_add_one,hp]at hf;have hf:fitN (r.take n++[p]) u:=hf;obtain⟨u',c,rfl⟩:∃u' c,u=u'++[c]:=⟨u.dropLast,u.getLast (by intro e;rw[e]at hu;cases hu),(List.dropLast_concat_getLast _).symm⟩;rw[List.length_append,List.length_singleton]at hu;have hsp:∀{q:List (Int×Int)}{v:List Nat},q.length=v.length→fitN (q++[p]) (v++[c])→fitN q v∧p.1≤(c:Int)∧(c:Int)≤p.2:=by
        intro q
        induction q with
        |
         nil=>
         intro v hv h
         cases v with
         |nil=>exact⟨trivial,h.1,h.2.1⟩
         |cons _ _=>cases hv
        |
         cons q0 q ihq=>
         intro v hv h
         cases v with
         |nil=>cases hv
         |
          cons v0 v=>
          obtain⟨i1,i2⟩:=ihq (by simpa using hv) h.2.2;exact⟨⟨h.1,h.2.1,i1⟩,i2⟩
       obtain⟨hf1,hf2,hf3⟩:=hsp (by rw[List.length_take];omega) hf;by_cases hn0:n=0
       ·subst hn0;have:u'=[]:=List.eq_nil_of_length_eq_zero (by omega);subst this;exact .one (zpg hp hf2 hf3 (by rw[if_pos rfl]) (by rw[if_neg (by omega)];omega))
       ·have h1:=ihn u' (y-1) (by omega) (by omega) (by omega) (by omega) hf1;refine h1.trans (.one (zpg hp hf2 hf3 ?_ ?_))
        ·rw[if_neg hn0];omega
        ·rw[if_neg (by omega)];omega
     exact hk u.length u y rfl k1 k2 k3 k4
    ·exact Way.mono (fun _ _ _ h=>.inr h) (ih h)
  exact Way.mono (fun x t y h=>.inl ((zh1 rs l a b ha x t y).2 (.inr h))) (key hm)
end
section
open Go.RowKit
def lAw:List Lst:=[⟨false,[(97,98,0)],[1]⟩,⟨false,[(99,99,2)],[]⟩,⟨true,[],[]⟩]
theorem row_nodup{σ:Type}[DecidableEq σ]{W:Bfs σ}(hW:Plain W)(P:σ→Prop)(hP:∀x c y,W.step x c=some y→P y)(x:σ){met:List σ}(hn:met.Nodup)(hm:∀z∈met,P z):∀n,(W.row x met n).Nodup∧∀z∈W.row x met n,P z
 |0=>⟨hn,hm⟩
 |
  n+1=>by
  obtain⟨h1,h2⟩:=row_nodup hW P hP x hn hm n;rw[Bfs.row];cases hs:W.step x n with
  |none=>exact⟨h1,h2⟩
  |
   some y=>
   simp only
   rw[hW.find,hW.rep];cases hf:ze2 y (W.row x met n)with
   |some i=>exact⟨h1,h2⟩
   |
    none=>
    refine⟨List.nodup_append.2 ⟨h1,List.pairwise_singleton _ _,fun a ha b hb=>?_⟩,fun z hz=>?_⟩
    ·rw[List.mem_singleton.1 hb];intro e
     have:=ze8.1 hf a ha;rw[e]at this;simp at this
    ·rcases List.mem_append.1 hz with hz|hz
     ·exact h2 z hz
     ·rw[List.mem_singleton.1 hz];exact hP x n y hs
theorem zv8{σ:Type}[DecidableEq σ]{W:Bfs σ}(hW:Plain W)(P:σ→Prop)(hP:∀x c y,W.step x c=some y→P y){x0:σ}(h0:P x0):∀f,(W.run f 0 [x0]).Nodup∧∀z∈W.run f 0 [x0],P z
 |0=>⟨List.pairwise_singleton _ _,fun z hz=>by rw[List.mem_singleton.1 hz];exact h0⟩
 |
  f+1=>by
  obtain⟨h1,h2⟩:=zv8 hW P hP h0 f;rw[W.run_succ];split
  ·exact row_nodup hW P hP _ h1 h2 256
  ·exact⟨h1,h2⟩
theorem clo0(x:Nat):Clo lAw (fun x=>x=0) x↔x=0∨x=1:=by
 constructor
 ·intro h
  induction h with
  |base h=>exact .inl h
  |
   @step y x s _ hs hx ih=>
   rcases ih with rfl|rfl
   ·simp[lAw]at hs
    subst hs;simp at hx
    omega
   ·simp[lAw]at hs
    subst hs;simp at hx
 ·rintro(rfl|rfl)
  ·exact .base rfl
  ·exact .step (y:=0) (s:=⟨false,[(97,98,0)],[1]⟩) (.base rfl) rfl (by simp)
noncomputable def aS0:List Int:=setL 3 (Clo lAw fun x=>x=0)
theorem mem0(z:Int):z∈aS0↔z=0∨z=1:=by
 unfold aS0;rw[zd6];constructor
 ·rintro⟨x,rfl,_,h⟩;rcases(clo0 x).1 h with rfl|rfl<;>simp
 ·rintro(rfl|rfl)
  ·exact⟨0,rfl,by omega,(clo0 0).2 (.inl rfl)⟩
  ·exact⟨1,rfl,by omega,(clo0 1).2 (.inr rfl)⟩
theorem fin0:finS lAw aS0=false:=by
 unfold finS;rw[List.any_eq_false];intro z hz
 rcases(mem0 z).1 hz with rfl|rfl<;>decide
end
section
theorem zr7{l:List Lst}:∀(t:List Nat) (P:Nat→Prop) (c:Nat),runP l P (t++[c])=Clo l (ovP l (runP l P t) c)
 |[],_,_=>rfl
 |
  b::t,P,c=>by
  show runP l (Clo l (ovP l P b)) (t++[c])=_;rw[zr7 t];rfl
theorem row_in{σ:Type}[DecidableEq σ]{W:Bfs σ}(hW:Plain W)(P:σ→Prop)(hP:∀x c y,P x→c<256→W.step x c=some y→P y)(x:σ)(hx:P x){met:List σ}(h1:met.Nodup)(h2:∀z∈met,P z):∀c,c≤256→(W.row x met c).Nodup∧∀z∈W.row x met c,P z
 |0,_=>⟨h1,h2⟩
 |
  n+1,hn=>by
  obtain⟨h3,h4⟩:=row_in hW P hP x hx h1 h2 n (by omega);rw[Bfs.row];cases hs:W.step x n with
  |none=>exact⟨h3,h4⟩
  |
   some y=>
   simp only
   rw[hW.find,hW.rep];cases hf:ze2 y (W.row x met n)with
   |some i=>exact⟨h3,h4⟩
   |
    none=>
    refine⟨List.nodup_append.2 ⟨h3,List.pairwise_singleton _ _,fun a ha b hb=>?_⟩,fun z hz=>?_⟩
    ·rw[List.mem_singleton.1 hb];intro e
     have:=ze8.1 hf a ha;rw[e]at this;simp at this
    ·rcases List.mem_append.1 hz with hz|hz
     ·exact h4 z hz
     ·rw[List.mem_singleton.1 hz];exact hP x n y hx (by omega) hs
theorem z6k{σ:Type}[DecidableEq σ]{W:Bfs σ}(hW:Plain W)(P:σ→Prop)(hP:∀x c y,P x→c<256→W.step x c=some y→P y){x0:σ}(h0:P x0):∀f,(W.run f 0 [x0]).Nodup∧∀z∈W.run f 0 [x0],P z
 |0=>⟨List.pairwise_singleton _ _,fun z hz=>by rw[List.mem_singleton.1 hz];exact h0⟩
 |
  f+1=>by
  obtain⟨h1,h2⟩:=z6k hW P hP h0 f;rw[W.run_succ];split
  ·rename_i x hx
   exact row_in hW P hP _ (h2 x (List.mem_of_getElem? hx)) h1 h2 256 (Nat.le_refl _)
  ·exact⟨h1,h2⟩
theorem z0f{σ:Type}[DecidableEq σ]:∀{l L:List σ},l.Nodup→(∀x∈l,x∈L)→l.length≤L.length
 |[],_,_,_=>Nat.zero_le _
 |
  x::l,L,hn,hs=>by
  obtain⟨h1,h2⟩:=List.nodup_cons.1 hn;have h3:=z0f (l:=l) (L:=L.erase x) h2 fun y hy=>(List.mem_erase_of_ne (fun e=>h1 (by rw[←e];exact hy))).2 (hs y (List.mem_cons_of_mem _ hy))
  have h4:=List.length_erase_of_mem (hs x (List.mem_cons_self ..));have h5:=List.length_pos_of_mem (hs x (List.mem_cons_self ..));rw[List.length_cons];omega
theorem zI7{l:List Lst}(L:List (List Int))(h:∀t:List Nat,setL l.length (fun y=>Way (zag l) 0 t y)∈L)(f:Nat):((subW l).run f 0 [setL l.length (Clo l fun x=>x=0)]).length≤L.length:=by
 have hr:∀t,runP l (Clo l fun x=>x=0) t=fun y=>Way (zag l) 0 t y:=fun t=>by
  funext y
  apply propext
  rw[zta];exact⟨fun⟨x,hx,hw⟩=>by rw[←hx];exact hw,fun hw=>⟨0,rfl,hw⟩⟩
 obtain⟨h1,h2⟩:=z6k (zda l) (fun S=>∃t,S=setL l.length (runP l (Clo l fun x=>x=0) t)) (fun S c T ⟨t,ht⟩ _ hs=>by
  have hs:stepS l S c=some T:=hs;unfold stepS at hs;split at hs
  ·injection hs with hs
   refine⟨t++[c],?_⟩;rw[←hs,zr7,ht,zvi]
  ·cases hs) (x0:=setL l.length (Clo l fun x=>x=0)) ⟨[],rfl⟩ f
 refine z0f h1 fun S hS=>?_
 obtain⟨t,ht⟩:=h2 S hS;rw[ht,hr t];exact h t
def repB(cs:List Nat)(c:Nat):Nat:=(cs.filter (· ≤c)).foldl max 0
theorem zp6(cs:List Nat):∀m,m≤cs.foldl max m∧(∀x∈cs,x≤cs.foldl max m)∧(cs.foldl max m=m∨cs.foldl max m∈cs):=by
 induction cs with
 |nil=>exact fun m=>⟨Nat.le_refl _,fun x hx=>absurd hx List.not_mem_nil,.inl rfl⟩
 |
  cons a cs ih=>
  intro m
  obtain⟨h1,h2,h3⟩:=ih (max m a);rw[List.foldl_cons];refine⟨by omega,fun x hx=>?_,?_⟩
  ·rcases List.mem_cons.1 hx with rfl|hx
   ·omega
   ·exact h2 x hx
  ·rcases h3 with h3|h3
   ·rw[h3];by_cases h:a≤m
    ·left;omega
    ·right
     rw[show max m a=a by omega];exact List.mem_cons_self ..
   ·exact .inr (List.mem_cons_of_mem _ h3)
theorem zHb(cs:List Nat)(c:Nat):repB cs c≤c:=by
 obtain⟨_,_,h⟩:=zp6 (cs.filter (· ≤c)) 0;unfold repB;rcases h with h|h
 ·rw[h];exact Nat.zero_le _
 ·have:=(List.mem_filter.1 h).2;simpa using this
theorem z7a{cs:List Nat}{c x:Nat}(hx:x∈cs)(h:x≤c):x≤repB cs c:=(zp6 (cs.filter (· ≤c)) 0).2.1 x (List.mem_filter.2 ⟨hx,by simpa using h⟩)
theorem zCa{cs:List Nat}(h0:0∈cs)(c:Nat):repB cs c∈cs:=by
 obtain⟨_,_,h⟩:=zp6 (cs.filter (· ≤c)) 0;unfold repB;rcases h with h|h
 ·rw[h];exact h0
 ·exact(List.mem_filter.1 h).1
theorem zCb{cs:List Nat}{c:Nat}{p:Int×Int}(h1:p.1.toNat∈cs)(h2:(p.2+1).toNat∈cs)(h3:0≤p.1)(h4:0≤p.2):(p.1≤(c:Int)∧(c:Int)≤p.2)↔(p.1≤(repB cs c:Int)∧(repB cs c:Int)≤p.2):=by
 have hle:=zHb cs c;constructor
 ·rintro⟨k1,k2⟩;have:=z7a (c:=c) h1 (by omega);omega
 ·rintro⟨k1,k2⟩;refine⟨by omega,?_⟩;by_cases h:(c:Int)≤p.2
  ·exact h
  ·have:=z7a (c:=c) h2 (by omega);omega
def repU:List (List Nat)→List Nat→List Nat
 |c::cs,x::u=>repB c x::repU cs u
 |_,_=>[]
theorem z02:∀{cs:List (List Nat)}{u:List Nat},cs.length=u.length→(repU cs u).length=u.length
 |[],[],_=>rfl
 |
  _::cs,_::u,h=>by
  rw[repU,List.length_cons,List.length_cons,z02 (by simpa using h)]
def zlg:List (List Nat)→List (List Nat)
 |[]=>[[]]
 |c::cs=>c.flatMap fun x=>(zlg cs).map (x:: ·)
theorem zve:∀{cs:List (List Nat)}{u:List Nat},cs.length=u.length→(∀c∈cs,0∈c)→repU cs u∈zlg cs
 |[],[],_,_=>by simp[repU,zlg]
 |
  c::cs,x::u,h,h0=>by
  rw[repU,zlg,List.mem_flatMap];exact⟨repB c x,zCa (h0 c (List.mem_cons_self ..)) x,List.mem_map_of_mem (zve (by simpa using h) fun c hc=>h0 c (List.mem_cons_of_mem _ hc))⟩
theorem zs1{α β:Type}(f:α→List β)(m:Nat)(hf:∀x,(f x).length=m)(l:List α):(l.flatMap f).length=l.length*m:=by
 induction l with
 |nil=>simp
 |cons x l ih=>rw[List.flatMap_cons,List.length_append,ih,hf,List.length_cons,Nat.add_mul];omega
theorem zo4:∀{cs:List (List Nat)}{m:Nat},(∀c∈cs,c.length≤m)→(zlg cs).length≤m^cs.length
 |[],_,_=>by simp[zlg]
 |
  c::cs,m,h=>by
  rw[zlg,zs1 _ (zlg cs).length (fun x=>List.length_map ..),List.length_cons,Nat.pow_succ,Nat.mul_comm];exact Nat.mul_le_mul (zo4 fun c hc=>h c (List.mem_cons_of_mem _ hc)) (h c (List.mem_cons_self ..))
theorem z79:∀{q:List (Int×Int)}{cs:List (List Nat)}{u:List Nat},q.length=u.length→cs.length=u.length→(∀(k:Nat) p c,q[k]? =some p→cs[k]? =some c→p.1.toNat∈c∧(p.2+1).toNat∈c)→(∀p∈q,0≤p.1∧0≤p.2)→(fitN q u↔fitN q (repU cs u))
 |[],[],[],_,_,_,_=>Iff.rfl
 |[],_::_,[],_,h,_,_=>by simp at h
 |[],_,_::_,h,_,_,_=>by simp at h
 |_::_,_,[],h,_,_,_=>by simp at h
 |_::_,[],_::_,_,h,_,_=>by simp at h
 |
  p::q,c::cs,x::u,h1,h2,h3,h4=>by
  have ih:=z79 (q:=q) (cs:=cs) (u:=u) (by simpa using h1) (by simpa using h2) (fun k p c hp hc=>h3 (k+1) p c (by simpa using hp) (by simpa using hc)) fun p hp=>h4 p (List.mem_cons_of_mem _ hp)
  obtain⟨k1,k2⟩:=h3 0 p c rfl rfl;obtain⟨k3,k4⟩:=h4 p (List.mem_cons_self ..);have hb:=zCb (c:=x) k1 k2 k3 k4;show(p.1≤(x:Int)∧(x:Int)≤p.2∧fitN q u)↔(p.1≤(repB c x:Int)∧(repB c x:Int)≤p.2∧fitN q (repU cs u));rw[←and_assoc,←and_assoc,hb,ih]
def z27(rs:List (List (Int×Int)))(d k:Nat):List Nat:=0::(rs.filter fun r=>decide (d<r.length)).flatMap fun r=>match r[k]? with
 |some p=>[p.1.toNat,(p.2+1).toNat]
 |none=>[0,0]
theorem zs5(rs:List (List (Int×Int)))(d k:Nat):(z27 rs d k).length=1+(rs.filter fun r=>decide (d<r.length)).length*2:=by
 unfold z27;rw[List.length_cons,zs1 _ 2 (fun r=>by split<;>rfl)];omega
def zhk(rs:List (List (Int×Int)))(d:Nat):List (List Nat):=(List.range d).map (z27 rs d)
theorem zhj(rs:List (List (Int×Int)))(d:Nat):(zhk rs d).length=d:=by unfold zhk;rw[List.length_map,List.length_range]
theorem zu2{rs:List (List (Int×Int))}(hr:∀r∈rs,∀p∈r,0≤p.1∧0≤p.2){u:List Nat}:∀{rs':List (List (Int×Int))}{N y:Nat},(∀r∈rs',r∈rs)→(zg2 N rs' u y↔zg2 N rs' (repU (zhk rs u.length) u) y)
 |[],_,_,_=>Iff.rfl
 |
  r::rs',N,y,hs=>by
  have hl:=z02 (u:=u) (zhj rs u.length);unfold zg2;refine or_congr ?_ (zu2 hr fun r h=>hs r (List.mem_cons_of_mem _ h));unfold midP;rw[hl];refine and_congr Iff.rfl ⟨fun⟨h1,h2,h3⟩=>⟨h1,h2,?_⟩,fun⟨h1,h2,h3⟩=>⟨h1,h2,?_⟩⟩;all_goals
   have key:=z79 (q:=r.take u.length) (cs:=zhk rs u.length) (u:=u) (by rw[List.length_take];omega) (zhj rs u.length) (fun k p c hp hc=>by
    unfold zhk at hc;rw[List.getElem?_map]at hc;obtain⟨k',hk',rfl⟩:=Option.map_eq_some_iff.1 hc;have hkl:=(List.getElem?_eq_some_iff.1 hk').1;rw[List.length_range]at hkl;rw[List.getElem?_range hkl]at hk';injection hk' with hk'
    subst hk';rw[List.getElem?_take_of_lt hkl]at hp;have hmem:r∈rs.filter fun r=>decide (u.length<r.length):=List.mem_filter.2 ⟨hs r (List.mem_cons_self ..),decide_eq_true h1⟩
    unfold z27;constructor<;>refine List.mem_cons_of_mem _ (List.mem_flatMap.2 ⟨r,hmem,?_⟩)<;>rw[hp]<;>simp) (fun p hp=>hr r (hs r (List.mem_cons_self ..)) p (List.mem_of_mem_take hp))
  ·exact key.1 h3
  ·exact key.2 h3
structure RowsU(rs:List (List (Int×Int))):Prop where
 len:∀r∈rs,1≤r.length∧r.length≤4
 ok:∀r∈rs,∀p∈r,0≤p.1∧0≤p.2
 lead:∀r∈rs,1<r.length→∀p,r[0]? =some p→192≤p.1
 cont:∀r∈rs,∀(k:Nat) p,0<k→r[k]? =some p→128≤p.1∧p.2≤191
 few1:(rs.filter fun r=>decide (1<r.length)).length≤20
 few2:(rs.filter fun r=>decide (2<r.length)).length≤17
 few3:(rs.filter fun r=>decide (3<r.length)).length≤7
def Shp:List Nat→Prop
 |[]=>False
 |c::t=>192≤c∧∀d∈t,d≤191
theorem z1k:∀{q:List (Int×Int)}{u:List Nat},fitN q u→∀(k:Nat) p c,q[k]? =some p→u[k]? =some c→p.1≤(c:Int)∧(c:Int)≤p.2
 |[],[],_,_,_,_,h,_=>by simp at h
 |
  p::q,c::u,h,k,p',c',h1,h2=>by
  cases k with
  |
   zero=>
   simp at h1 h2
   subst h1 h2;exact⟨h.1,h.2.1⟩
  |succ k=>exact z1k h.2.2 k p' c' (by simpa using h1) (by simpa using h2)
 |[],_::_,h,_,_,_,_,_=>h.elim
 |_::_,[],h,_,_,_,_,_=>h.elim
theorem zre{rs:List (List (Int×Int))}(hr:RowsU rs){u:List Nat}:∀{rs':List (List (Int×Int))}{N y:Nat},(∀r∈rs',r∈rs)→zg2 N rs' u y→Shp u∧u.length≤3
 |[],_,_,_,h=>h.elim
 |
  r::rs',N,y,hs,h=>by
  rcases h with⟨h1,h2,h3,h4⟩|h
  ·have hrm:=hs r (List.mem_cons_self ..);have hl:=(hr.len r hrm).2;refine⟨?_,by omega⟩;cases u with
   |nil=>simp at h1
   |
    cons c t=>
    rw[List.length_cons]at h2;have hg:∀(k:Nat) p d,r[k]? =some p→(c::t)[k]? =some d→p.1≤(d:Int)∧(d:Int)≤p.2:=fun k p d hp hd=>z1k h4 k p d (by
     rw[List.getElem?_take_of_lt (List.getElem?_eq_some_iff.1 hd).1];exact hp) hd
    refine⟨?_,fun d hd=>?_⟩
    ·have h5:=hg 0 r[0] c (List.getElem?_eq_getElem (by omega)) rfl;have h6:=hr.lead r hrm (by omega) r[0] (List.getElem?_eq_getElem (by omega));omega
    ·obtain⟨k,hk⟩:=List.mem_iff_getElem?.1 hd;have hkl:=(List.getElem?_eq_some_iff.1 hk).1;have h5:=hg (k+1) r[k+1] d (List.getElem?_eq_getElem (by omega)) (by simpa using hk);have h6:=(hr.cont r hrm (k+1) r[k+1] (by omega) (List.getElem?_eq_getElem (by omega))).2;omega
  ·exact zre hr (fun r h=>hs r (List.mem_cons_of_mem _ h)) h
def zs8(rs:List (List (Int×Int))):List (Option (List Nat)):=none::((zlg (zhk rs 1)++zlg (zhk rs 2)++zlg (zhk rs 3)).map some)
theorem z56{rs:List (List (Int×Int))}(hr:RowsU rs):(zs8 rs).length≤4642:=by
 have k:∀d m,(rs.filter fun r=>decide (d<r.length)).length≤m→(zlg (zhk rs d)).length≤(1+m*2)^d:=fun d m h=>by
  have h1:=zo4 (cs:=zhk rs d) (m:=1+m*2) fun c hc=>by
   unfold zhk at hc;obtain⟨k,_,rfl⟩:=List.mem_map.1 hc;rw[zs5];omega
  rwa[zhj]at h1
 have k1:=k 1 20 hr.few1;have k2:=k 2 17 hr.few2;have k3:=k 3 7 hr.few3;unfold zs8;rw[List.length_cons,List.length_map,List.length_append,List.length_append];omega
end
end Go.Proofs.YtaociahafamncaaGreatDoor
