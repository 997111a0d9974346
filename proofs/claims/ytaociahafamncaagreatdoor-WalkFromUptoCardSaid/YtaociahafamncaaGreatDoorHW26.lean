/- Folded. -/
import Derived.Test.YtaociahafamncaaGreatDoorHW25
set_option maxRecDepth 100000
set_option maxHeartbeats 40000000
namespace Go.Proofs.YtaociahafamncaaGreatDoor
section
open Go.RowKit
theorem el_loose:Elem Tryz.prog 132 134 3 56:=Elem.mk_ Tryz.underlying132 (z:=.agg #[.bool false,.slice none 0 0,.slice none 0 0]) (by kernel_rfl) rfl (by omega)
theorem step_apsl{P:Program}{ops:Array Oper}{o:Oper}{a:Act}{K:Act→World→Prop}{Q:Exit→Act→World→Prop}{E:Prop}(w:World)(hgd:o.guard=none)(s x:Operand)(t:TypeId)
  (ho:o.op=.call {callee:=.builtin .append,args:= #[s,x],argTypes:= #[t,t]})
  {base e size bytes:Nat} (he:Elem P t e size bytes) (v:Value) (n:Nat) (xs:List Value) (hs:a.eval s=v) (hown:w.ownsRow base e size v n xs)
  {B:Nat}{A:Option Addr}{m c:Nat}{news:List Value} (hx:a.eval x=.slice A m c) (hsl:Sl w B size A m news) (hc:A=none→m=0) (h1:∀u∈news,u.oneCell'=true)
  (h63:n+m≤maxLen) (hbytes:(n+m)*bytes≤140737488355328) (hbase:base≤w.heap.size)
  (h:∀v' w',w'.ownsRow base e size v' (n+m) (xs++news)→w.grownBy w' v.ownBlock→(v'.ownBlock=v.ownBlock∨∃g,v'.ownBlock=some g∧w.heap.size≤g)→K (a.put o.dst v') w'):
  if Region.wanted o (yielded ops a.tmps)=true then Oper.wp P o a w K Q else E:=by
 have hw:Region.wanted o (yielded ops a.tmps)=true:=by simp[Region.wanted,hgd]
 rw[if_pos hw];obtain⟨v',w',hrun,h2,h3,h4⟩:=run_append_sl (P:=P) (ty:=o.type) w he hown hsl (c:=c) hc h1 h63 hbytes hbase;unfold Oper.wp;simp[execOp,ho,resolve,invoke,builtin,hs,hx,hrun,Result.andThen]
 exact h v' w' h2 h3 h4
theorem arcs_cell1(l:List Arc3):∀u∈arcsC l,u.oneCell'=true:=fun u hu=>by
 unfold arcsC at hu;obtain⟨a,_,h⟩:=List.mem_flatMap.1 hu;simp only[arcC,List.mem_cons,List.not_mem_nil,or_false]at h;rcases h with rfl|rfl|rfl<;>rfl
theorem ints_cell1(l:List Int):∀u∈l.map (Value.int .i64),u.oneCell'=true:=fun u hu=>by
 obtain⟨z,_,rfl⟩:=List.mem_map.1 hu;rfl
theorem Sl.none_{w:World}{B size n:Nat}{A:Option Addr}{xs:List Value}(h:Sl w B size A n xs)(hA:A=none):n=0:=by
 rcases Nat.eq_zero_or_pos n with h0|h0
 ·exact h0
 ·obtain⟨b,off,e,_⟩:=h.2 h0;rw[e]at hA;cases hA
def Lsh.arow(x:Lsh):GRow:=⟨.slice x.A x.d.arcs.length x.c,x.d.arcs.length,arcsC x.d.arcs⟩
def Lsh.frow(x:Lsh):GRow:=⟨.slice x.F x.d.free.length x.e,x.d.free.length,x.d.free.map (.int .i64)⟩
structure LoR(w W:World)(v:Value)(n:Nat)(hs:List Lsh):Prop where
 out:W.ownsRow w.heap.size 134 3 v n (hs.flatMap Lsh.hdr)
 ar:GFam W w.heap.size 76 3 (hs.map Lsh.arow)
 fr:GFam W w.heap.size 3 1 (hs.map Lsh.frow)
 bel:Below w.heap.size w W
theorem lhdr_len(hs:List Lsh):(hs.flatMap Lsh.hdr).length=hs.length*3:=flat_length Lsh.hdr 3 (fun _=>rfl) hs
section
variable {w W W':World}{v:Value}{n:Nat}{hs:List Lsh}
theorem LoR.len(h:LoR w W v n hs):hs.length=n:=by
 have:=h.out.1;rw[lhdr_len]at this;omega
theorem LoR.keep(h:LoR w W v n hs)(hb:Below W.heap.size W W'):LoR w W' v n hs:=⟨own_kept h.out hb,h.ar.below hb,h.fr.below hb,bcall h.bel hb⟩
theorem LoR.push{W1:World}{v':Value}{x:Lsh}(h:LoR w W v n hs)(hb:Below W.heap.size W W1)(ha:W1.ownsRow W.heap.size 76 3 (.slice x.A x.d.arcs.length x.c) x.d.arcs.length (arcsC x.d.arcs))(hf:W1.ownsRow W.heap.size 3 1 (.slice x.F x.d.free.length x.e) x.d.free.length (x.d.free.map (.int .i64)))
  (hg:W1.grownBy W' v.ownBlock) (ho:W'.ownsRow w.heap.size 134 3 v' (n+1) (hs.flatMap Lsh.hdr++x.hdr)):LoR w W' v' (n+1) (hs++[x]):=by
 have h1:=own_kept h.out hb;refine⟨by rw[List.flatMap_append];simpa using ho,?_,?_,(bcall h.bel hb).grown hg (bcall h.bel hb).size fun r hr=>(h.out.lt r hr).1⟩
 ·have h2:=(h.ar.fresh (y:=x.arow) hb h.bel.size ha).turn;rw[List.map_append];exact h2.kept hg fun z hz=>own_types h1 (h2.own z hz) (by decide)
 ·have h2:=(h.fr.fresh (y:=x.frow) hb h.bel.size hf).turn;rw[List.map_append];exact h2.kept hg fun z hz=>own_types h1 (h2.own z hz) (by decide)
theorem LoR.bare{v':Value}(h:LoR w W v n hs)(hg:W.grownBy W' v.ownBlock)(ho:W'.ownsRow w.heap.size 134 3 v' (n+1) (hs.flatMap Lsh.hdr++[.bool false,.slice none 0 0,.slice none 0 0])):LoR w W' v' (n+1) (hs++[⟨⟨false,[],[]⟩,none,0,none,0⟩]):=
 h.push (brefl W) ⟨rfl,.inl ⟨rfl,rfl⟩⟩ ⟨rfl,.inl ⟨rfl,rfl⟩⟩ hg ho
theorem LoR.lo{A:Option Addr}{c:Nat}(h:LoR w W (.slice A n c) n hs)(hn:n≤2097152)(ha:∀x∈hs,x.d.arcs.length≤2097152)(hf:∀x∈hs,x.d.free.length≤2097152):LoIn W W.heap.size A n c hs:=by
 obtain⟨A1,c1,e1,h1⟩:=own_shape h.out;injection e1 with _ _ e1
 refine⟨h.len,Sl.of_own h.out,by omega,hn,fun x hx=>?_,fun x hx=>?_⟩
 ·have ho:W.ownsRow w.heap.size 76 3 (.slice x.A x.d.arcs.length x.c) x.d.arcs.length (arcsC x.d.arcs):=h.ar.own x.arow (List.mem_map.2 ⟨x,hx,rfl⟩);obtain⟨A2,c2,e2,h2⟩:=own_shape ho;injection e2 with _ _ e2
  exact⟨Sl.of_own ho,by omega,ha x hx⟩
 ·have ho:W.ownsRow w.heap.size 3 1 (.slice x.F x.d.free.length x.e) x.d.free.length (x.d.free.map (.int .i64)):=h.fr.own x.frow (List.mem_map.2 ⟨x,hx,rfl⟩);obtain⟨A2,c2,e2,h2⟩:=own_shape ho;injection e2 with _ _ e2
  exact⟨Sl.of_own ho,by omega,hf x hx,(Sl.of_own ho).none_⟩
end
theorem lo_cell{W:World}{b n g c j:Nat}{hs:List Lsh}{x:Lsh}(h:W.ownsRow b 134 3 (.slice (some ⟨g,0,none⟩) n c) n (hs.flatMap Lsh.hdr))(hx:hs[j]? =some x):W.cell? ⟨g,j*3,none⟩=some (.bool x.d.fin)∧W.cell? ⟨g,j*3+1,none⟩=some (.slice x.A x.d.arcs.length x.c)∧W.cell? ⟨g,j*3+2,none⟩=some (.slice x.F x.d.free.length x.e):=by
 have k:∀q u,x.hdr[q]? =some u→q<3→W.cell? ⟨g,j*3+q,none⟩=some u:=fun q u hu hq=>by
  have:=h.cells (g:=g) rfl (j*3+q) u (by rw[flat_at Lsh.hdr 3 (fun _=>rfl) hs j q x hx hq];exact hu);rwa[Addr.add_lit,Nat.zero_add]at this
 exact⟨k 0 _ rfl (by omega),k 1 _ rfl (by omega),k 2 _ rfl (by omega)⟩
def Keeps(W W':World):Prop:=∀(b e s n:Nat) (v:Value) (xs:List Value),e≠76→e≠134→W.ownsRow b e s v n xs→W'.ownsRow b e s v n xs
theorem Keeps.below{W W':World}(h:Below W.heap.size W W'):Keeps W W':=fun _ _ _ _ _ _ _ _ ho=>own_kept ho h
theorem Keeps.trans{a b c:World}(h:Keeps a b)(h':Keeps b c):Keeps a c:=fun x e s n v xs h1 h2 ho=>h' x e s n v xs h1 h2 (h x e s n v xs h1 h2 ho)
theorem Keeps.loose{W W':World}{b s n:Nat}{v:Value}{xs:List Value}(ho:W.ownsRow b 134 s v n xs)(hg:W.grownBy W' v.ownBlock):Keeps W W':=fun _ _ _ _ _ _ _ h2 ho2=>ho2.kept hg (own_types ho ho2 fun h=>h2 h.symm)
theorem LoR.arc{w W W':World}{g n c i:Nat}{hs:List Lsh}{x:Lsh}{a:Arc3}{A2:Option Addr}{c2:Nat}(h:LoR w W (.slice (some ⟨g,0,none⟩) n c) n hs)(hx:hs[i]? =some x)(hg:W.grownBy W' (Value.slice x.A x.d.arcs.length x.c).ownBlock)
  (hy:W'.ownsRow w.heap.size 76 3 (.slice A2 (x.d.arcs.length+1) c2) (x.d.arcs.length+1) (arcsC x.d.arcs++arcC a)) (hm:(Value.slice A2 (x.d.arcs.length+1) c2).ownBlock=(Value.slice x.A x.d.arcs.length x.c).ownBlock∨∃q,(Value.slice A2 (x.d.arcs.length+1) c2).ownBlock=some q∧W.heap.size≤q):
  LoR w (W'.setCell ⟨g,i*3+1,none⟩ (.slice A2 (x.d.arcs.length+1) c2)) (.slice (some ⟨g,0,none⟩) n c) n (hs.set i ⟨⟨x.d.fin,x.d.arcs++[a],x.d.free⟩,A2,c2,x.F,x.e⟩)∧
  W'.cell? ⟨g,i*3+1,none⟩=some (.slice x.A x.d.arcs.length x.c)∧W'.frozen? ⟨g,i*3+1,none⟩=false∧g<W'.heap.size∧Keeps W (W'.setCell ⟨g,i*3+1,none⟩ (.slice A2 (x.d.arcs.length+1) c2)):=by
 have hxa:W.ownsRow w.heap.size 76 3 (.slice x.A x.d.arcs.length x.c) x.d.arcs.length (arcsC x.d.arcs):=h.ar.own x.arow (List.mem_map.2 ⟨x,List.mem_of_getElem? hx,rfl⟩);have hbel:=h.bel.grown hg h.bel.size fun r hr=>(hxa.lt r hr).1
 have ho1:=h.out.kept hg (own_types hxa h.out (by decide));obtain⟨q1,q2,cs,q3⟩:=own_blk ho1;obtain⟨_,k1,_⟩:=lo_cell ho1 hx;have hxr:(hs.map Lsh.arow)[i]? =some x.arow:=by rw[List.getElem?_map,hx];rfl
 refine⟨⟨?_,?_,?_,below_set hbel q1 (Nat.le_refl _)⟩,k1,free_at q3 _,q2,fun b e s n' v xs he1 he2 ho=>own_other (ho.kept hg (own_types hxa ho fun h=>he1 h.symm)) q3 fun h=>he2 h.symm⟩
 ·have h1:=own_put (j:=i*3+1) (u:=.slice A2 (x.d.arcs.length+1) c2) ho1;have e:(hs.flatMap Lsh.hdr).set (i*3+1) (.slice A2 (x.d.arcs.length+1) c2)=(hs.set i ⟨⟨x.d.fin,x.d.arcs++[a],x.d.free⟩,A2,c2,x.F,x.e⟩).flatMap Lsh.hdr:=by
   rw[set_split hx];conv=>lhs;rw[split_at hx]
   have hl:((hs.take i).flatMap Lsh.hdr).length=i*3:=by rw[lhdr_len,List.length_take,Nat.min_eq_left (by have:=(List.getElem?_eq_some_iff.1 hx).1;omega)]
   rw[List.flatMap_append,List.flatMap_append,List.flatMap_cons,List.flatMap_cons,List.set_append_right _ _ (by omega),hl,Nat.add_sub_cancel_left];unfold Lsh.hdr;simp
  rw[e]at h1;exact h1
 ·rw[List.map_set];have h1:=h.ar;rw[split_at hxr]at h1;have h2:=h1.grow (W2:=W') (y:=(⟨⟨x.d.fin,x.d.arcs++[a],x.d.free⟩,A2,c2,x.F,x.e⟩:Lsh).arow) hg (by
   show W'.ownsRow _ _ _ (.slice A2 (x.d.arcs++[a]).length c2) (x.d.arcs++[a]).length (arcsC (x.d.arcs++[a]));rw[List.length_append,List.length_singleton,arcsC_app];exact hy) (by
   show(Value.slice A2 (x.d.arcs++[a]).length c2).ownBlock=_∨∃q,(Value.slice A2 (x.d.arcs++[a]).length c2).ownBlock=some q∧_;rw[List.length_append,List.length_singleton];exact hm)
  rw[←set_split hxr]at h2;exact h2.kept (set_grown _ _ _) fun z hz=>row_not_cells (h2.own z hz) q3 (by decide)
 ·rw[List.map_set];have e:(hs.map Lsh.frow).set i (⟨⟨x.d.fin,x.d.arcs++[a],x.d.free⟩,A2,c2,x.F,x.e⟩:Lsh).frow=hs.map Lsh.frow:=by
   have e2:(⟨⟨x.d.fin,x.d.arcs++[a],x.d.free⟩,A2,c2,x.F,x.e⟩:Lsh).frow=x.frow:=rfl;rw[e2];apply List.ext_getElem?
   intro j
   by_cases hj:i=j
   ·subst hj;rw[List.getElem?_set_self (by rw[List.length_map];exact(List.getElem?_eq_some_iff.1 hx).1),List.getElem?_map,hx];rfl
   ·rw[List.getElem?_set_ne hj]
  rw[e];have h2:=h.fr.kept hg fun z hz=>own_types hxa (h.fr.own z hz) (by decide)
  exact h2.kept (set_grown _ _ _) fun z hz=>row_not_cells (h2.own z hz) q3 (by decide)
end
section
abbrev Edge:=Nat→List Nat→Nat→Prop
inductive Way (E:Edge):Nat→List Nat→Nat→Prop
 |nil (x:Nat):Way E x [] x
 |cons {x y z:Nat}{t u:List Nat} (h:E x t y) (r:Way E y u z):Way E x (t++u) z
section
variable {E F:Edge}{x y z:Nat}{t u:List Nat}
theorem Way.one(h:E x t y):Way E x t y:=by
 have:=Way.cons h (.nil y);rwa[List.append_nil]at this
theorem Way.trans(h:Way E x t y)(h':Way E y u z):Way E x (t++u) z:=by
 induction h with
 |nil=>exact h'
 |
  cons h1 _ ih=>
  rw[List.append_assoc];exact .cons h1 (ih h')
theorem Way.bind(h:∀x t y,E x t y→Way F x t y)(hw:Way E x t y):Way F x t y:=by
 induction hw with
 |nil=>exact .nil _
 |cons h1 _ ih=>exact(h _ _ _ h1).trans ih
theorem Way.mono(h:∀x t y,E x t y→F x t y)(hw:Way E x t y):Way F x t y:=hw.bind fun _ _ _ h1=>.one (h _ _ _ h1)
theorem Way.iff(h:∀x t y,E x t y↔F x t y):Way E x t y↔Way F x t y:=⟨.mono fun _ _ _=>(h _ _ _).1,.mono fun _ _ _=>(h _ _ _).2⟩
end
def edgeL(l:List Lst):Edge:=fun x t y=>∃s,l[x]? =some s∧((t=[]∧((y:Nat):Int)∈s.free)∨∃c:Nat,t=[c]∧∃a∈s.arcs,a.1≤(c:Int)∧(c:Int)≤a.2.1∧a.2.2=((y:Nat):Int))
theorem way_clo{l:List Lst}{P:Nat→Prop}{x y:Nat}{t:List Nat}(h:Way (edgeL l) x t y):t=[]→Clo l P x→Clo l P y:=by
 induction h with
 |nil=>exact fun _ h=>h
 |
  cons h1 _ ih=>
  intro he hx
  obtain⟨e1,e2⟩:=List.append_eq_nil_iff.1 he;refine ih e2 ?_;obtain⟨s,hs,⟨_,hf⟩|⟨c,hc,_⟩⟩:=h1
  ·exact .step hx hs hf
  ·rw[e1]at hc;cases hc
theorem clo_way{l:List Lst}{P:Nat→Prop}{y:Nat}:Clo l P y↔∃x,P x∧Way (edgeL l) x [] y:=by
 constructor
 ·intro h
  induction h with
  |base h=>exact⟨_,h,.nil _⟩
  |
   @step z x s hz hs hx ih=>
   obtain⟨u,hu,hw⟩:=ih;exact⟨u,hu,hw.trans (u:=[]) (.one ⟨s,hs,.inl ⟨rfl,hx⟩⟩)⟩
 ·rintro⟨x,hx,hw⟩;exact way_clo hw rfl (.base hx)
theorem way_first{l:List Lst}{x y:Nat}{t:List Nat}(h:Way (edgeL l) x t y):∀{c:Nat}{r:List Nat},t=c::r→∃z v,Way (edgeL l) x [] z∧edgeL l z [c] v∧Way (edgeL l) v r y:=by
 induction h with
 |nil=>intro c r e;cases e
 |
  @cons x y z t u h1 h2 ih=>
  intro c r e
  obtain⟨s,hs,⟨rfl,hf⟩|⟨d,rfl,ha⟩⟩:=h1
  ·obtain⟨w,v,k1,k2,k3⟩:=ih e;exact⟨w,v,(Way.one (E:=edgeL l) ⟨s,hs,.inl ⟨rfl,hf⟩⟩).trans (u:=[]) k1,k2,k3⟩
  ·injection e with e1 e2
   subst e1;have e2:u=r:=e2;subst e2;exact⟨x,y,.nil _,⟨s,hs,.inr ⟨d,rfl,ha⟩⟩,h2⟩
theorem run_way{l:List Lst}:∀(t:List Nat) (P:Nat→Prop) (y:Nat),runP l (Clo l P) t y↔∃x,P x∧Way (edgeL l) x t y
 |[],P,y=>clo_way
 |
  c::r,P,y=>by
  show runP l (Clo l (ovP l (Clo l P) c)) r y↔_;rw[run_way r];constructor
  ·rintro⟨v,⟨z,s,hz,hs,a,ha⟩,hw⟩;obtain⟨x,hx,hxz⟩:=clo_way.1 hz;refine⟨x,hx,?_⟩;have h1:edgeL l z [c] v:=⟨s,hs,.inr ⟨c,rfl,a,ha⟩⟩;exact hxz.trans (.cons h1 hw)
  ·rintro⟨x,hx,hw⟩;obtain⟨z,v,k1,⟨s,hs,⟨h1,_⟩|⟨d,h1,a,ha⟩⟩,k3⟩:=way_first hw rfl
   ·cases h1
   ·injection h1 with h1
    subst h1;exact⟨v,⟨z,s,clo_way.2 ⟨x,hx,k1⟩,hs,a,ha⟩,k3⟩
open Classical in
theorem takes_way{l:List Lst}{t:List Nat}:endB l (runP l (Clo l fun x=>x=0) t)=true↔∃z s,l[z]? =some s∧s.fin=true∧Way (edgeL l) 0 t z:=by
 unfold endB;rw[decide_eq_true_eq];constructor
 ·rintro⟨z,s,hs,hf,hz⟩;obtain⟨x,rfl,hw⟩:=(run_way t _ z).1 hz;exact⟨z,s,hs,hf,hw⟩
 ·rintro⟨z,s,hs,hf,hw⟩;exact⟨z,s,hs,hf,(run_way t _ z).2 ⟨0,rfl,hw⟩⟩
def orE(E F:Edge):Edge:=fun x t y=>E x t y∨F x t y
def oneE(a b:Nat)(P:List Nat→Prop):Edge:=fun x t y=>x=a∧y=b∧P t
theorem pass_way{E:Edge}{N a b:Nat}{P Q:List Nat→Prop}(hE:∀x t y,E x t y→x≠N∧y≠N)(ha:a≠N)(hb:b≠N){x z:Nat}{s:List Nat}(hx:x≠N)(hz:z≠N):
  Way (orE (orE E (oneE a N P)) (oneE N b Q)) x s z↔Way (orE E (oneE a b fun t=>∃p q,P p∧Q q∧t=p++q)) x s z:=by
 constructor
 ·intro h
  have key:∀{x z:Nat}{s:List Nat},Way (orE (orE E (oneE a N P)) (oneE N b Q)) x s z→z≠N→(x≠N→Way (orE E (oneE a b fun t=>∃p q,P p∧Q q∧t=p++q)) x s z)∧(x=N→∃q s',Q q∧s=q++s'∧Way (orE E (oneE a b fun t=>∃p q,P p∧Q q∧t=p++q)) b s' z):=by
   intro x z s h
   induction h with
   |nil x=>exact fun hz=>⟨fun _=>.nil _,fun e=>absurd e hz⟩
   |
    @cons x y z t u h1 _ ih=>
    intro hz
    obtain⟨i1,i2⟩:=ih hz;rcases h1 with(h1|⟨rfl,rfl,hp⟩)|⟨rfl,rfl,hq⟩
    ·obtain⟨k1,k2⟩:=hE _ _ _ h1;exact⟨fun _=>.cons (.inl h1) (i1 k2),fun e=>absurd e k1⟩
    ·refine⟨fun _=>?_,fun e=>absurd e ha⟩;obtain⟨q,s',hq,rfl,hw⟩:=i2 rfl;rw[←List.append_assoc];exact .cons (.inr ⟨rfl,rfl,t,q,hp,hq,rfl⟩) hw
    ·exact⟨fun k=>absurd rfl k,fun _=>⟨t,u,hq,rfl,i1 hb⟩⟩
  exact(key h hz).1 hx
 ·intro h
  refine h.bind fun x t y h1=>?_
  rcases h1 with h1|⟨rfl,rfl,p,q,hp,hq,rfl⟩
  ·exact .one (.inl (.inl h1))
  ·exact(Way.one (E:=orE (orE E (oneE x N P)) (oneE N y Q)) (.inl (.inr ⟨rfl,rfl,hp⟩))).trans (.one (.inr ⟨rfl,rfl,hq⟩))
def addArc(l:List Lst)(x:Nat)(a:Arc3):List Lst:=l.modify x fun s=>⟨s.fin,s.arcs++[a],s.free⟩
def leadRow:List Lst→Nat→Nat→List (Int×Int)→List Lst
 |l,_,_,[]=>l
 |l,a,b,[x]=>addArc l a (x.1,x.2,(b:Int))
 |l,a,b,x::y::r=>leadRow (addArc (l++[⟨false,[],[]⟩]) a (x.1,x.2,(l.length:Int))) l.length b (y::r)
def fitN:List (Int×Int)→List Nat→Prop
 |[],[]=>True
 |x::r,c::t=>x.1≤(c:Int)∧(c:Int)≤x.2∧fitN r t
 |_,_=>False
theorem addArc_len(l:List Lst)(x:Nat)(a:Arc3):(addArc l x a).length=l.length:=List.length_modify ..
theorem addArc_at{l:List Lst}{a:Nat}{s:Lst}(z:Arc3)(h:l[a]? =some s):(addArc l a z)[a]? =some ⟨s.fin,s.arcs++[z],s.free⟩:=by
 unfold addArc;rw[List.getElem?_modify,h];show some (if a=a then _ else _)=_;rw[if_pos rfl]
theorem addArc_ne{l:List Lst}{a x:Nat}(z:Arc3)(h:a≠x):(addArc l a z)[x]? =l[x]? :=by
 unfold addArc;rw[List.getElem?_modify];cases l[x]? with
 |none=>rfl
 |
  some s=>
  show some (if a=x then _ else _)=_;rw[if_neg h]
theorem addArc_edge{l:List Lst}{a b:Nat}{lo hi:Int}(ha:a<l.length)(x:Nat)(t:List Nat)(y:Nat):edgeL (addArc l a (lo,hi,(b:Int))) x t y↔orE (edgeL l) (oneE a b fun t=>∃c:Nat,t=[c]∧lo≤(c:Int)∧(c:Int)≤hi) x t y:=by
 by_cases e:a=x
 ·subst e;obtain⟨s0,hs0⟩:∃s,l[a]? =some s:=⟨l[a],List.getElem?_eq_getElem ha⟩;have hs1:=addArc_at (lo,hi,(b:Int)) hs0;constructor
  ·rintro⟨s,hs,h⟩;rw[hs1]at hs;injection hs with hs
   subst hs;rcases h with⟨h1,h2⟩|⟨c,rfl,z,hz,h1,h2,h3⟩
   ·exact .inl ⟨s0,hs0,.inl ⟨h1,h2⟩⟩
   ·rcases List.mem_append.1 hz with hz|hz
    ·exact .inl ⟨s0,hs0,.inr ⟨c,rfl,z,hz,h1,h2,h3⟩⟩
    ·rw[List.mem_singleton]at hz;subst hz;have h3:(b:Int)=(y:Int):=h3;exact .inr ⟨rfl,by omega,c,rfl,h1,h2⟩
  ·rintro(⟨s,hs,h⟩|⟨_,rfl,c,rfl,h1,h2⟩)
   ·rw[hs0]at hs;injection hs with hs
    subst hs;rcases h with⟨h1,h2⟩|⟨c,rfl,z,hz,h1⟩
    ·exact⟨_,hs1,.inl ⟨h1,h2⟩⟩
    ·exact⟨_,hs1,.inr ⟨c,rfl,z,List.mem_append_left _ hz,h1⟩⟩
   ·exact⟨_,hs1,.inr ⟨c,rfl,_,List.mem_append_right _ (List.mem_singleton.2 rfl),h1,h2,rfl⟩⟩
 ·unfold edgeL orE oneE;rw[addArc_ne _ e];exact⟨.inl,fun h=>h.elim id fun h=>absurd h.1.symm e⟩
theorem bare_edge{l:List Lst}(x:Nat)(t:List Nat)(y:Nat):edgeL (l++[⟨false,[],[]⟩]) x t y↔edgeL l x t y:=by
 unfold edgeL;by_cases h:x<l.length
 ·rw[List.getElem?_append_left h]
 ·rw[List.getElem?_append_right (by omega),List.getElem?_eq_none (l:=l) (by omega)];constructor
  ·rintro⟨s,hs,h1⟩;have hs:=List.mem_of_getElem? hs;rw[List.mem_singleton]at hs;subst hs;rcases h1 with⟨_,h1⟩|⟨_,_,z,hz,_⟩
   ·cases h1
   ·cases hz
  ·rintro⟨s,hs,_⟩;cases hs
theorem leadRow_len:∀(r:List (Int×Int)) (l:List Lst) (a b:Nat),(leadRow l a b r).length=l.length+(r.length-1)
 |[],l,a,b=>rfl
 |[x],l,a,b=>addArc_len ..
 |
  x::y::r,l,a,b=>by
  rw[leadRow,leadRow_len (y::r),addArc_len,List.length_append];simp only[List.length_cons,List.length_nil];omega
def InE(E:Edge)(n:Nat):Prop:=∀x t y,E x t y→x<n∧y<n
theorem InE.or{E F:Edge}{n:Nat}(h:InE E n)(h':InE F n):InE (orE E F) n:=fun x t y k=>k.elim (h x t y) (h' x t y)
theorem InE.more{E:Edge}{n m:Nat}(h:InE E n)(hm:n≤m):InE E m:=fun x t y k=>⟨Nat.lt_of_lt_of_le (h x t y k).1 hm,Nat.lt_of_lt_of_le (h x t y k).2 hm⟩
theorem InE.one{a b n:Nat}{P:List Nat→Prop}(ha:a<n)(hb:b<n):InE (oneE a b P) n:=by
 rintro x t y ⟨rfl,rfl,_⟩;exact⟨ha,hb⟩
theorem orE_iff{E E' F F':Edge}(h:∀x t y,E x t y↔E' x t y)(h':∀x t y,F x t y↔F' x t y)(x:Nat)(t:List Nat)(y:Nat):orE E F x t y↔orE E' F' x t y:=or_congr (h x t y) (h' x t y)
theorem leadRow_way:∀(r:List (Int×Int)) (l:List Lst) (a b:Nat) (X:Edge),r≠[]→a<l.length→b<l.length→InE (edgeL l) l.length→InE X l.length→∀{x z:Nat}{s:List Nat},x<l.length→z<l.length→
  (Way (orE (edgeL (leadRow l a b r)) X) x s z↔Way (orE (edgeL l) (orE (oneE a b (fitN r)) X)) x s z)
 |[],l,a,b,X,h,_,_,_,_,_,_,_,_,_=>absurd rfl h
 |
  [p],l,a,b,X,_,ha,hb,_,_,x,z,s,_,_=>by
  refine Way.iff fun x t y=>?_
  rw[leadRow];show edgeL (addArc l a (p.1,p.2,(b:Int))) x t y∨X x t y↔edgeL l x t y∨(oneE a b (fitN [p]) x t y∨X x t y);rw[addArc_edge ha];have e:oneE a b (fun t=>∃c:Nat,t=[c]∧p.1≤(c:Int)∧(c:Int)≤p.2) x t y↔oneE a b (fitN [p]) x t y:=by
   unfold oneE;refine and_congr Iff.rfl (and_congr Iff.rfl ?_);constructor
   ·rintro⟨c,rfl,h1,h2⟩;exact⟨h1,h2,trivial⟩
   ·intro h
    cases t with
    |nil=>exact h.elim
    |
     cons c t=>
     cases t with
     |nil=>exact⟨c,rfl,h.1,h.2.1⟩
     |cons d t=>exact h.2.2.elim
  unfold orE;rw[e];constructor
  ·rintro((h|h)|h)
   ·exact .inl h
   ·exact .inr (.inl h)
   ·exact .inr (.inr h)
  ·rintro(h|h|h)
   ·exact .inl (.inl h)
   ·exact .inl (.inr h)
   ·exact .inr h
 |
  p::q::r,l,a,b,X,_,ha,hb,hl,hX,x,z,s,hx,hz=>by
  rw[leadRow];have hlen:(addArc (l++[⟨false,[],[]⟩]) a (p.1,p.2,(l.length:Int))).length=l.length+1:=by rw[addArc_len,List.length_append];rfl
  have hedge:∀x t y,edgeL (addArc (l++[⟨false,[],[]⟩]) a (p.1,p.2,(l.length:Int))) x t y↔orE (edgeL l) (oneE a l.length fun t=>∃c:Nat,t=[c]∧p.1≤(c:Int)∧(c:Int)≤p.2) x t y:=fun x t y=>by
   rw[addArc_edge (by rw[List.length_append];omega)];exact orE_iff bare_edge (fun _ _ _=>Iff.rfl) x t y
  have hin:InE (edgeL (addArc (l++[⟨false,[],[]⟩]) a (p.1,p.2,(l.length:Int)))) (l.length+1):=fun x t y h=>((hl.more (Nat.le_succ _)).or (InE.one (by omega) (by omega))) x t y ((hedge x t y).1 h)
  rw[leadRow_way (q::r) _ l.length b X (by simp) (by rw[hlen];omega) (by rw[hlen];omega) (by rw[hlen];exact hin) (by rw[hlen];exact hX.more (Nat.le_succ _)) (by rw[hlen];omega) (by rw[hlen];omega)];have h1:Way (orE (edgeL (addArc (l++[⟨false,[],[]⟩]) a (p.1,p.2,(l.length:Int)))) (orE (oneE l.length b (fitN (q::r))) X)) x s z↔Way (orE (orE (orE (edgeL l) X) (oneE a l.length fun t=>∃c:Nat,t=[c]∧p.1≤(c:Int)∧(c:Int)≤p.2)) (oneE l.length b (fitN (q::r)))) x s z:=by
   refine Way.iff fun x t y=>?_
   show edgeL _ x t y∨(_∨X x t y)↔((edgeL l x t y∨X x t y)∨_)∨_;rw[hedge];unfold orE;constructor
   ·rintro((h|h)|h|h)
    ·exact .inl (.inl (.inl h))
    ·exact .inl (.inr h)
    ·exact .inr h
    ·exact .inl (.inl (.inr h))
   ·rintro(((h|h)|h)|h)
    ·exact .inl (.inl h)
    ·exact .inr (.inr h)
    ·exact .inl (.inr h)
    ·exact .inr (.inl h)
  rw[h1,pass_way (fun x t y h=>by have:=(hl.or hX) x t y h;omega) (by omega) (by omega) (by omega) (by omega)];refine Way.iff fun x t y=>?_
  have e:oneE a b (fun t=>∃u v,(∃c:Nat,u=[c]∧p.1≤(c:Int)∧(c:Int)≤p.2)∧fitN (q::r) v∧t=u++v) x t y↔oneE a b (fitN (p::q::r)) x t y:=by
   unfold oneE;refine and_congr Iff.rfl (and_congr Iff.rfl ?_);constructor
   ·rintro⟨_,v,⟨c,rfl,h1,h2⟩,h3,rfl⟩;exact⟨h1,h2,h3⟩
   ·intro h
    cases t with
    |nil=>exact h.elim
    |cons c t=>exact⟨[c],t,⟨c,rfl,h.1,h.2.1⟩,h.2.2,rfl⟩
  show(edgeL l x t y∨X x t y)∨_↔edgeL l x t y∨(_∨X x t y);rw[e];constructor
  ·rintro((h|h)|h)
   ·exact .inl h
   ·exact .inr (.inr h)
   ·exact .inr (.inl h)
  ·rintro(h|h|h)
   ·exact .inl (.inl h)
   ·exact .inr h
   ·exact .inl (.inr h)
theorem leadRow_in:∀(r:List (Int×Int)) (l:List Lst) (a b:Nat),a<l.length→b<l.length→InE (edgeL l) l.length→InE (edgeL (leadRow l a b r)) (leadRow l a b r).length
 |[],l,a,b,_,_,hl=>hl
 |
  [p],l,a,b,ha,hb,hl=>by
  rw[leadRow,addArc_len];exact fun x t y h=>(hl.or (InE.one ha hb)) x t y ((addArc_edge ha x t y).1 h)
 |
  p::q::r,l,a,b,ha,hb,hl=>by
  rw[leadRow];have hlen:(addArc (l++[⟨false,[],[]⟩]) a (p.1,p.2,(l.length:Int))).length=l.length+1:=by rw[addArc_len,List.length_append];rfl
  refine leadRow_in (q::r) _ l.length b (by rw[hlen];omega) (by rw[hlen];omega) ?_;rw[hlen];intro x t y h
  rw[addArc_edge (by rw[List.length_append];omega)]at h;have h:=(orE_iff bare_edge (fun _ _ _=>Iff.rfl) x t y).1 h;exact((hl.more (Nat.le_succ _)).or (InE.one (by omega) (by omega))) x t y h
def leadRows(l:List Lst)(a b:Nat)(rs:List (List (Int×Int))):List Lst:=rs.foldl (fun l r=>leadRow l a b r) l
theorem leadRows_way:∀(rs:List (List (Int×Int))) (l:List Lst) (a b:Nat) (X:Edge),(∀r∈rs,r≠[])→a<l.length→b<l.length→InE (edgeL l) l.length→InE X l.length→∀{x z:Nat}{s:List Nat},x<l.length→z<l.length→
  (Way (orE (edgeL (leadRows l a b rs)) X) x s z↔Way (orE (edgeL l) (orE (oneE a b fun t=>∃r∈rs,fitN r t) X)) x s z)
 |
  [],l,a,b,X,_,_,_,_,_,x,z,s,_,_=>by
  refine Way.iff fun x t y=>?_
  show edgeL l x t y∨X x t y↔edgeL l x t y∨(_∨X x t y);constructor
  ·rintro(h|h)
   ·exact .inl h
   ·exact .inr (.inr h)
  ·rintro(h|⟨_,_,r,hr,_⟩|h)
   ·exact .inl h
   ·cases hr
   ·exact .inr h
 |
  r::rs,l,a,b,X,hne,ha,hb,hl,hX,x,z,s,hx,hz=>by
  have hlen:=leadRow_len r l a b;show Way (orE (edgeL (leadRows (leadRow l a b r) a b rs)) X) x s z↔_;rw[leadRows_way rs (leadRow l a b r) a b X (fun q hq=>hne q (List.mem_cons_of_mem _ hq)) (by omega) (by omega) (leadRow_in r l a b ha hb hl) (hX.more (by omega)) (by omega) (by omega),
   leadRow_way r l a b _ (hne r (List.mem_cons_self ..)) ha hb hl ((InE.one ha hb).or hX) hx hz]
  refine Way.iff fun x t y=>?_
  show edgeL l x t y∨(oneE a b (fitN r) x t y∨(oneE a b _ x t y∨X x t y))↔edgeL l x t y∨(oneE a b _ x t y∨X x t y);constructor
  ·rintro(h|⟨h1,h2,h3⟩|⟨h1,h2,q,h3,h4⟩|h)
   ·exact .inl h
   ·exact .inr (.inl ⟨h1,h2,r,List.mem_cons_self ..,h3⟩)
   ·exact .inr (.inl ⟨h1,h2,q,List.mem_cons_of_mem _ h3,h4⟩)
   ·exact .inr (.inr h)
  ·rintro(h|⟨h1,h2,q,h3,h4⟩|h)
   ·exact .inl h
   ·rcases List.mem_cons.1 h3 with rfl|h3
    ·exact .inr (.inl ⟨h1,h2,h4⟩)
    ·exact .inr (.inr (.inl ⟨h1,h2,q,h3,h4⟩))
   ·exact .inr (.inr (.inr h))
end
section
theorem Way.snoc_ind{E:Edge}{x:Nat}{motive:Nat→List Nat→Prop}(h0:motive x [])(hs:∀y t u z,Way E x t y→motive y t→E y u z→motive z (t++u)){y:Nat}{t:List Nat}(h:Way E x t y):motive y t:=by
 have key:∀{v y:Nat}{t:List Nat},Way E v t y→∀t0,Way E x t0 v→motive v t0→motive y (t0++t):=by
  intro v y t h
  induction h with
  |nil=>intro t0 _ hm;rwa[List.append_nil]
  |
   cons h1 _ ih=>
   intro t0 hw hm
   rw[←List.append_assoc];exact ih _ (hw.trans (.one h1)) (hs _ _ _ _ hw hm h1)
 exact key h [] (.nil _) h0
def chainE:Nat→Nat→Nat→List (Int×Int)→Edge
 |_,_,_,[]=>fun _ _ _=>False
 |_,a,b,[p]=>oneE a b fun t=>∃c:Nat,t=[c]∧p.1≤(c:Int)∧(c:Int)≤p.2
 |N,a,b,p::q::r=>orE (oneE a N fun t=>∃c:Nat,t=[c]∧p.1≤(c:Int)∧(c:Int)≤p.2) (chainE (N+1) N b (q::r))
theorem leadRow_edge:∀(r:List (Int×Int)) (l:List Lst) (a b:Nat),a<l.length→∀x t y,edgeL (leadRow l a b r) x t y↔orE (edgeL l) (chainE l.length a b r) x t y
 |[],l,a,b,_,x,t,y=>⟨.inl,fun h=>h.elim id False.elim⟩
 |[p],l,a,b,ha,x,t,y=>addArc_edge ha x t y
 |
  p::q::r,l,a,b,ha,x,t,y=>by
  rw[leadRow,chainE];have hlen:(addArc (l++[⟨false,[],[]⟩]) a (p.1,p.2,(l.length:Int))).length=l.length+1:=by rw[addArc_len,List.length_append];rfl
  rw[leadRow_edge (q::r) _ l.length b (by rw[hlen];omega),hlen];show edgeL _ x t y∨_↔edgeL l x t y∨(_∨_);rw[addArc_edge (by rw[List.length_append];omega)];have:= @bare_edge l x t y;unfold orE;rw[this,or_assoc]
def chainsE:Nat→Nat→Nat→List (List (Int×Int))→Edge
 |_,_,_,[]=>fun _ _ _=>False
 |N,a,b,r::rs=>orE (chainE N a b r) (chainsE (N+(r.length-1)) a b rs)
theorem leadRows_edge:∀(rs:List (List (Int×Int))) (l:List Lst) (a b:Nat),a<l.length→∀x t y,edgeL (leadRows l a b rs) x t y↔orE (edgeL l) (chainsE l.length a b rs) x t y
 |[],l,a,b,_,x,t,y=>⟨.inl,fun h=>h.elim id False.elim⟩
 |
  r::rs,l,a,b,ha,x,t,y=>by
  have hlen:=leadRow_len r l a b;show edgeL (leadRows (leadRow l a b r) a b rs) x t y↔_;rw[leadRows_edge rs _ a b (by omega),chainsE];unfold orE;rw[leadRow_edge r l a b ha,hlen];unfold orE;rw[or_assoc]
def midsN:List (List (Int×Int))→Nat
 |[]=>0
 |r::rs=>(r.length-1)+midsN rs
theorem leadRows_len:∀(rs:List (List (Int×Int))) (l:List Lst) (a b:Nat),(leadRows l a b rs).length=l.length+midsN rs
 |[],l,a,b=>rfl
 |
  r::rs,l,a,b=>by
  show(leadRows (leadRow l a b r) a b rs).length=_;rw[leadRows_len rs,leadRow_len,midsN];omega
theorem leadRows_in:∀(rs:List (List (Int×Int))) (l:List Lst) (a b:Nat),a<l.length→b<l.length→InE (edgeL l) l.length→InE (edgeL (leadRows l a b rs)) (leadRows l a b rs).length
 |[],l,a,b,_,_,hl=>hl
 |
  r::rs,l,a,b,ha,hb,hl=>by
  have hlen:=leadRow_len r l a b;exact leadRows_in rs (leadRow l a b r) a b (by omega) (by omega) (leadRow_in r l a b ha hb hl)
def midP(N:Nat)(r:List (Int×Int))(u:List Nat)(y:Nat):Prop:=0<u.length∧u.length<r.length∧y+1=N+u.length∧fitN (r.take u.length) u
def midsP:Nat→List (List (Int×Int))→List Nat→Nat→Prop
 |_,[],_,_=>False
 |N,r::rs,u,y=>midP N r u y∨midsP (N+(r.length-1)) rs u y
theorem fitN_len:∀{r:List (Int×Int)}{u:List Nat},fitN r u→r.length=u.length
 |[],[],_=>rfl
 |_::_,_::_,h=>by rw[List.length_cons,List.length_cons,fitN_len h.2.2]
 |[],_::_,h=>h.elim
 |_::_,[],h=>h.elim
theorem fitN_snoc:∀{r:List (Int×Int)}{u:List Nat}{p:Int×Int}{c:Nat},fitN r u→p.1≤(c:Int)→(c:Int)≤p.2→fitN (r++[p]) (u++[c])
 |[],[],_,_,_,h1,h2=>⟨h1,h2,trivial⟩
 |_::_,_::_,_,_,h,h1,h2=>⟨h.1,h.2.1,fitN_snoc h.2.2 h1 h2⟩
 |[],_::_,_,_,h,_,_=>h.elim
 |_::_,[],_,_,h,_,_=>h.elim
theorem chain_in:∀{r:List (Int×Int)}{N a b:Nat}{x y:Nat}{t:List Nat},chainE N a b r x t y→∃(i:Nat) (p:Int×Int) (c:Nat),r[i]? =some p∧t=[c]∧p.1≤(c:Int)∧(c:Int)≤p.2∧(if i=0 then x=a else x+1=N+i)∧(if i+1=r.length then y=b else y=N+i)
 |[],_,_,_,_,_,_,h=>h.elim
 |
  [p],N,a,b,x,y,t,h=>by
  obtain⟨rfl,rfl,c,rfl,h1,h2⟩:=h;exact⟨0,p,c,rfl,rfl,h1,h2,rfl,rfl⟩
 |
  p::q::r,N,a,b,x,y,t,h=>by
  rcases h with⟨rfl,rfl,c,rfl,h1,h2⟩|h
  ·refine⟨0,p,c,rfl,rfl,h1,h2,rfl,?_⟩;rw[if_neg (by simp)];rfl
  ·obtain⟨i,p',c,h3,h4,h5,h6,h7,h8⟩:=chain_in h;refine⟨i+1,p',c,h3,h4,h5,h6,?_,?_⟩
   ·rw[if_neg (by omega)];split at h7
    ·omega
    ·omega
   ·rw[List.length_cons]at h8⊢;split at h8
    ·rw[if_pos (by simp at*;omega)];exact h8
    ·rw[if_neg (by simp at*;omega)];omega
theorem chain_out:∀{r:List (Int×Int)}{N a b:Nat}{i:Nat}{p:Int×Int}{c x y:Nat},r[i]? =some p→p.1≤(c:Int)→(c:Int)≤p.2→(if i=0 then x=a else x+1=N+i)→(if i+1=r.length then y=b else y=N+i)→chainE N a b r x [c] y
 |[],_,_,_,_,_,_,_,_,h,_,_,_,_=>by simp at h
 |
  [q],N,a,b,i,p,c,x,y,h,h1,h2,h3,h4=>by
  have hi:i=0:=by have:=(List.getElem?_eq_some_iff.1 h).1;simp at this;omega
  subst hi;simp at h
  subst h;exact⟨h3,h4,c,rfl,h1,h2⟩
 |
  q::q'::r,N,a,b,i,p,c,x,y,h,h1,h2,h3,h4=>by
  cases i with
  |
   zero=>
   simp at h
   subst h;rw[if_neg (by simp)]at h4;exact .inl ⟨h3,h4,c,rfl,h1,h2⟩
  |
   succ i=>
   refine .inr (chain_out (i:=i) (p:=p) (by simpa using h) h1 h2 ?_ ?_)
   ·rw[if_neg (by omega)]at h3;split<;>omega
   ·rw[List.length_cons]at h4;split at h4
    ·rw[if_pos (by omega)];exact h4
    ·rw[if_neg (by omega)];omega
theorem midsP_in:∀{rs:List (List (Int×Int))}{N:Nat}{u:List Nat}{y:Nat},midsP N rs u y→N≤y∧y<N+midsN rs
 |[],_,_,_,h=>h.elim
 |
  r::rs,N,u,y,h=>by
  rw[midsN];rcases h with⟨h1,h2,h3,_⟩|h
  ·omega
  ·have:=midsP_in h;omega
theorem chains_mid:∀{rs:List (List (Int×Int))}{N a b x y:Nat}{t:List Nat},a<N→b<N→chainsE N a b rs x t y→N≤y→(x=a∧midsP N rs t y)∨(N≤x∧∀u,midsP N rs u x→midsP N rs (u++t) y)
 |[],_,_,_,_,_,_,_,_,h,_=>h.elim
 |
  r::rs,N,a,b,x,y,t,ha,hb,h,hy=>by
  rcases h with h|h
  ·obtain⟨i,p,c,h1,rfl,h3,h4,h5,h6⟩:=chain_in h;have hil:=(List.getElem?_eq_some_iff.1 h1).1;have hne:¬i+1=r.length:=fun e=>by rw[if_pos e]at h6;omega
   rw[if_neg hne]at h6;by_cases e:i=0
   ·subst e;rw[if_pos rfl]at h5;refine .inl ⟨h5,.inl ⟨by simp,by simp;omega,by simp;omega,?_⟩⟩;have e1:r.take [c].length=[p]:=by
     show r.take 1=[p];rw[List.take_add_one,List.take_zero,h1];rfl
    rw[e1];exact⟨h3,h4,trivial⟩
   ·rw[if_neg e]at h5;refine .inr ⟨by omega,fun u hu=>?_⟩;rcases hu with⟨k1,k2,k3,k4⟩|hu
    ·have hul:u.length=i:=by omega
     refine .inl ⟨by simp,by simp;omega,by simp;omega,?_⟩;rw[List.length_append,List.length_singleton,hul,List.take_add_one,h1];rw[hul]at k4;exact fitN_snoc k4 h3 h4
    ·have:=midsP_in hu;omega
  ·by_cases hyr:N+(r.length-1)≤y
   ·rcases chains_mid (N:=N+(r.length-1)) (by omega) (by omega) h hyr with⟨h1,h2⟩|⟨h1,h2⟩
    ·exact .inl ⟨h1,.inr h2⟩
    ·refine .inr ⟨by omega,fun u hu=>?_⟩;rcases hu with⟨k1,k2,k3,_⟩|hu
     ·omega
     ·exact .inr (h2 u hu)
   ·exfalso
    have key:∀{rs:List (List (Int×Int))}{M x y:Nat}{t:List Nat},chainsE M a b rs x t y→y=b∨M≤y:=by
     intro rs
     induction rs with
     |nil=>intro M x y t h;exact h.elim
     |
      cons r rs ih=>
      intro M x y t h
      rcases h with h|h
      ·obtain⟨i,p,c,h1,_,_,_,_,h6⟩:=chain_in h;split at h6
       ·exact .inl h6
       ·exact .inr (by omega)
      ·rcases ih h with h|h
       ·exact .inl h
       ·exact .inr (by omega)
    rcases key h with h|h<;>omega
theorem mids_way{l:List Lst}{a b:Nat}{rs:List (List (Int×Int))}{X:Edge}(ha:a<l.length)(hb:b<l.length)(hl:InE (edgeL l) l.length)(hX:InE X l.length){x y:Nat}{t:List Nat}(hx:x<l.length)(hy:l.length≤y):
  Way (orE (edgeL (leadRows l a b rs)) X) x t y↔∃t' u,t=t'++u∧Way (orE (edgeL (leadRows l a b rs)) X) x t' a∧midsP l.length rs u y:=by
 constructor
 ·intro h
  refine Way.snoc_ind (motive:=fun y t=>l.length≤y→∃t' u,t=t'++u∧Way (orE (edgeL (leadRows l a b rs)) X) x t' a∧midsP l.length rs u y) (fun h=>by omega) (fun v t u z hw ih he hz=>?_) h hy;rcases he with he|he
  ·rcases(leadRows_edge rs l a b ha _ _ _).1 he with he|he
   ·have:=(hl _ _ _ he).2;omega
   ·rcases chains_mid ha hb he hz with⟨rfl,hm⟩|⟨hv,hm⟩
    ·exact⟨t,u,rfl,hw,hm⟩
    ·obtain⟨t',u',rfl,h1,h2⟩:=ih hv;exact⟨t',u'++u,by rw[List.append_assoc],h1,hm u' h2⟩
  ·have:=(hX _ _ _ he).2;omega
 ·rintro⟨t',u,rfl,hw,hm⟩;refine hw.trans ?_;have key:∀{rs':List (List (Int×Int))}{N:Nat}{u:List Nat}{y:Nat},midsP N rs' u y→Way (chainsE N a b rs') a u y:=by
   intro rs'
   induction rs' with
   |nil=>intro N u y h;exact h.elim
   |
    cons r rs' ih=>
    intro N u y h
    rcases h with⟨k1,k2,k3,k4⟩|h
    ·refine Way.mono (fun _ _ _ h=>.inl h) ?_;have hk:∀(n:Nat) (u:List Nat) (y:Nat),u.length=n→0<n→n<r.length→y+1=N+n→fitN (r.take n) u→Way (chainE N a b r) a u y:=by
      intro n
      induction n with
      |zero=>intro u y _ h0;omega
      |
       succ n ihn=>
       intro u y hu h0 hr hyn hf
       obtain⟨p,hp⟩:∃p,r[n]? =some p:=⟨r[n]'(by omega),List.getElem?_eq_getElem _⟩;rw[List.take_add_one,hp]at hf;have hf:fitN (r.take n++[p]) u:=hf;obtain⟨u',c,rfl⟩:∃u' c,u=u'++[c]:=⟨u.dropLast,u.getLast (by intro e;rw[e]at hu;cases hu),(List.dropLast_concat_getLast _).symm⟩;rw[List.length_append,List.length_singleton]at hu;have hsp:∀{q:List (Int×Int)}{v:List Nat},q.length=v.length→fitN (q++[p]) (v++[c])→fitN q v∧p.1≤(c:Int)∧(c:Int)≤p.2:=by
        intro q
        induction q with
        |
         nil=>
         intro v hv h
         cases v with
         |nil=>exact⟨trivial,h.1,h.2.1⟩
         |cons _ _=>cases hv
        |
         cons q0 q ihq=>
         intro v hv h
         cases v with
         |nil=>cases hv
         |
          cons v0 v=>
          obtain⟨i1,i2⟩:=ihq (by simpa using hv) h.2.2;exact⟨⟨h.1,h.2.1,i1⟩,i2⟩
       obtain⟨hf1,hf2,hf3⟩:=hsp (by rw[List.length_take];omega) hf;by_cases hn0:n=0
       ·subst hn0;have:u'=[]:=List.eq_nil_of_length_eq_zero (by omega);subst this;exact .one (chain_out hp hf2 hf3 (by rw[if_pos rfl]) (by rw[if_neg (by omega)];omega))
       ·have h1:=ihn u' (y-1) (by omega) (by omega) (by omega) (by omega) hf1;refine h1.trans (.one (chain_out hp hf2 hf3 ?_ ?_))
        ·rw[if_neg hn0];omega
        ·rw[if_neg (by omega)];omega
     exact hk u.length u y rfl k1 k2 k3 k4
    ·exact Way.mono (fun _ _ _ h=>.inr h) (ih h)
  exact Way.mono (fun x t y h=>.inl ((leadRows_edge rs l a b ha x t y).2 (.inr h))) (key hm)
end
section
open Go.RowKit
def lAw:List Lst:=[⟨false,[(97,98,0)],[1]⟩,⟨false,[(99,99,2)],[]⟩,⟨true,[],[]⟩]
theorem clo0(x:Nat):Clo lAw (fun x=>x=0) x↔x=0∨x=1:=by
 constructor
 ·intro h
  induction h with
  |base h=>exact .inl h
  |
   @step y x s _ hs hx ih=>
   rcases ih with rfl|rfl
   ·simp[lAw]at hs
    subst hs;simp at hx
    omega
   ·simp[lAw]at hs
    subst hs;simp at hx
 ·rintro(rfl|rfl)
  ·exact .base rfl
  ·exact .step (y:=0) (s:=⟨false,[(97,98,0)],[1]⟩) (.base rfl) rfl (by simp)
noncomputable def aS0:List Int:=setL 3 (Clo lAw fun x=>x=0)
theorem mem0(z:Int):z∈aS0↔z=0∨z=1:=by
 unfold aS0;rw[setL_mem];constructor
 ·rintro⟨x,rfl,_,h⟩;rcases(clo0 x).1 h with rfl|rfl<;>simp
 ·rintro(rfl|rfl)
  ·exact⟨0,rfl,by omega,(clo0 0).2 (.inl rfl)⟩
  ·exact⟨1,rfl,by omega,(clo0 1).2 (.inr rfl)⟩
theorem fin0:finS lAw aS0=false:=by
 unfold finS;rw[List.any_eq_false];intro z hz
 rcases(mem0 z).1 hz with rfl|rfl<;>decide
end
end Go.Proofs.YtaociahafamncaaGreatDoor
