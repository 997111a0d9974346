/- Folded. -/
import Derived.WalkKit
import Derived.WalkLawsBesides
import Derived.WalkSpells
import Derived.BigQuiet
import Derived.Deep.QuietTactic
import Derived.Deep.Draws
import Derived.Deep.LoopGhost
import Derived.Deep.DeepCutAuto
import Derived.Lib.Hide
import Derived.Below
import Derived.Laws.OwnMore
import Derived.Outline
import Derived.Maps.AppendAt
import Derived.Deep.Slices
import Derived.Deep.Fields
import Derived.ChangeArms
import Derived.ChangeSame
import Derived.SizedLaws
import Derived.OpenShut
import Derived.Laws.BytesArg
import Derived.Laws.BitsLemmas
import Derived.Deep.Onto
import Derived.IntWalk
import Derived.Deep.AppendLies
import Derived.Test.YtaociahafamncaaGreatDoorProg
import Derived.Deep.RegionHeld3
set_option maxRecDepth 100000
set_option maxHeartbeats 40000000
namespace Go.Proofs.YtaociahafamncaaGreatDoor
section
open Go.RowKit
theorem zHa{k:IntKind}{a b:Int}(h:a=b):Ending.returned (.int k a)=.returned (.int k b):=by rw[h]
theorem z01{a b:Bool}(h:a=b):Ending.returned (.bool a)=.returned (.bool b):=by rw[h]
def Sl(w:World)(B size:Nat)(A:Option Addr)(n:Nat)(xs:List Value):Prop:=
 xs.length=n*size∧(0<n→∃b off,A=some ⟨b,off,none⟩∧b<B∧∀j u,xs[j]? =some u→w.cell? ⟨b,off+j,none⟩=some u)
section
variable {w w':World}{B B' size n:Nat}{A:Option Addr}{xs:List Value}
theorem Sl.empty:Sl w B size A 0 []:=⟨by simp,fun h=>absurd h (by omega)⟩
theorem Sl.at_(h:Sl w B size A n xs){k:Nat}(hk:k<n):∃b off,A=some ⟨b,off,none⟩∧b<B∧∀j u,xs[j]? =some u→w.cell? ⟨b,off+j,none⟩=some u:=h.2 (by omega)
theorem Sl.keep(h:Sl w B size A n xs)(hk:∀b o,b<B→w'.cell? ⟨b,o,none⟩=w.cell? ⟨b,o,none⟩):Sl w' B size A n xs:=
 ⟨h.1,fun hn=>by
  obtain⟨b,off,e,hb,hc⟩:=h.2 hn;exact⟨b,off,e,hb,fun j u hu=>(hk _ _ hb).trans (hc j u hu)⟩⟩
theorem Sl.more(h:Sl w B size A n xs)(hB:B≤B'):Sl w B' size A n xs:=
 ⟨h.1,fun hn=>by
  obtain⟨b,off,e,hb,hc⟩:=h.2 hn;exact⟨b,off,e,by omega,hc⟩⟩
theorem Sl.below(h:Sl w B size A n xs)(hb:Below B w w'):Sl w' B size A n xs:=h.keep fun _ _ hp=>hb.cell hp
theorem Sl.drewN(h:Sl w B size A n xs)(k:Nat):Sl (w.drewN k) B size A n xs:=h
theorem Sl.alloc(h:Sl w B size A n xs)(hB:B≤w.heap.size)(o:Obj):Sl (w.alloc o) B size A n xs:=h.keep fun b o' hp=>World.cell?_alloc_lt w o ⟨b,o',none⟩ (by show b<_;omega)
theorem Sl.cut(h:Sl w B size A n xs){k cap:Nat}(hk:k≤n)(hc:n≤cap):
  Sl w B size (if cap=k then A else A.map (·.add (k*size))) (n-k) (xs.drop (k*size)):=by
 refine⟨by rw[List.length_drop,h.1,Nat.sub_mul],fun hn=>?_⟩;obtain⟨b,off,rfl,hb,hcell⟩:=h.2 (by omega);rw[if_neg (by omega)];refine⟨b,off+k*size,?_,hb,fun j u hu=>?_⟩
 ·simp only[Option.map_some,Addr.add];split
  ·rename_i h0;rw[h0];rfl
  ·rfl
 ·rw[Nat.add_assoc];exact hcell _ u (by rw[←hu,List.getElem?_drop])
theorem Sl.pre(h:Sl w B size A n xs){k:Nat}(hk:k≤n):Sl w B size A k (xs.take (k*size)):=by
 refine⟨by rw[List.length_take,h.1,Nat.min_eq_left (Nat.mul_le_mul_right _ hk)],fun hn=>?_⟩;obtain⟨b,off,rfl,hb,hcell⟩:=h.2 (by omega);refine⟨b,off,rfl,hb,fun j u hu=>hcell j u ?_⟩;rw[List.getElem?_take]at hu;split at hu
 ·exact hu
 ·cases hu
theorem Sl.of_own{base:Nat}{e:TypeId}{c:Nat}(h:w.ownsRow base e size (.slice A n c) n xs):Sl w w.heap.size size A n xs:=by
 refine⟨h.1,fun hn=>?_⟩;rcases h.2 with⟨_,h0⟩|⟨g,cap,cur,hv,_,hg,_⟩
 ·omega
 ·injection hv with hA _ _
  subst hA;have hlt:g<w.heap.size:=(Array.getElem?_eq_some_iff.1 hg).1;refine⟨g,0,rfl,hlt,fun j u hu=>?_⟩;have:=h.cells (g:=g) rfl j u hu;rwa[Addr.add_lit]at this
end
theorem za1{w:World}{base e size n:Nat}{v:Value}{xs:List Value}(h:w.ownsRow base e size v n xs):∃A c,v=.slice A n c∧n≤c:=by
 rcases h.2 with⟨rfl,rfl⟩|⟨g,cap,cur,hv,_,_,hc,_⟩
 ·exact⟨none,0,rfl,Nat.le_refl _⟩
 ·exact⟨_,_,hv,hc⟩
theorem flat_length{α:Type}(f:α→List Value)(m:Nat)(hf:∀x,(f x).length=m)(l:List α):(l.flatMap f).length=l.length*m:=by
 induction l with
 |nil=>simp
 |cons x l ih=>rw[List.flatMap_cons,List.length_append,ih,hf,List.length_cons,Nat.add_mul];omega
theorem zc7{α:Type}(f:α→List Value)(m:Nat)(hf:∀x,(f x).length=m)(l:List α)(k j:Nat)(x:α)(hx:l[k]? =some x)(hj:j<m):(l.flatMap f)[k*m+j]? =(f x)[j]? :=by
 induction l generalizing k with
 |nil=>simp at hx
 |
  cons y l ih=>
  rw[List.flatMap_cons];cases k with
  |
   zero=>
   simp at hx
   subst hx;rw[Nat.zero_mul,Nat.zero_add,List.getElem?_append_left (by rw[hf];exact hj)]
  |
   succ k=>
   rw[List.getElem?_append_right (by rw[hf,Nat.add_mul];omega),hf];have:(k+1)*m+j-m=k*m+j:=by rw[Nat.add_mul];omega
   rw[this];exact ih k (by simpa using hx)
def Elem(P:Program)(t e:TypeId)(size bytes:Nat):Prop:=
 P.underlying t=some (.slice e)∧∃i z,P.info? e=some i∧i.zero=some z∧i.size=size∧i.bytes=bytes∧z.cells.size=size∧0<size
theorem Elem.mk_{P:Program}{t e:TypeId}{z:Value}{size bytes:Nat}(ht:P.underlying t=some (.slice e))(h:(P.info? e).map (fun i=>(i.zero,i.size,i.bytes))=some (some z,size,bytes))(hz:z.cells.size=size)(hs:0<size):Elem P t e size bytes:=by
 obtain⟨i,h1,h2,h3,h4⟩:=info_parts h;exact⟨ht,i,z,h1,h2,h3,h4,hz,hs⟩
theorem zu1(w:World)(cs:Array Value)(e:TypeId):∀j u,cs.toList[j]? =some u→(w.alloc (.cells cs e)).cell? ((⟨w.heap.size,0,none⟩:Addr).add j)=some u:=by
 intro j u hu
 rw[Addr.add_lit,Nat.zero_add,cell_of_row _ w.heap.size j cs e (0,0) (heap_alloc_new w _)];simpa using hu
theorem zab{P:Program}{ops:Array Oper}{rest:List Oper}{o:Oper}{a:Act}{Q:Exit→Act→World→Prop}(w0 wr:World)(cs:Array Value)(hgd:o.guard=none)(s x:Operand)(t:TypeId)
  (ho:o.op=.call {callee:=.builtin .append,args:= #[s,x],argTypes:= #[t,t]})
  {base e size bytes:Nat} (he:Elem P t e size bytes) (v:Value) (n:Nat) (xs:List Value) (hs:a.eval s=v) (hown:wr.ownsRow base e size v n xs)
  {nb:Nat} (hx:a.eval x=.slice (some ⟨nb,0,none⟩) 1 1) (hnb:wr.heap.size=nb) (hl:cs.size=size) (h1:∀u∈cs.toList,u.oneCell'=true)
  (h63:n+1≤maxLen) (hbytes:(n+1)*bytes≤140737488355328) (hbase:base≤wr.heap.size) (hb:Below base w0 wr)
  (h:∀v' w',w'.ownsRow base e size v' (n+1) (xs++cs.toList)→Below base w0 w'→wr.grownBy w' v.ownBlock→(v'.ownBlock=v.ownBlock∨∃g,v'.ownBlock=some g∧wr.heap.size≤g)→wpList P ops Q rest (a.put o.dst v') w'):
  wpList P ops Q (o::rest) a (wr.alloc (.cells cs e)):=by
 subst hnb;obtain⟨ht,i,z,hi,hz,hsz,hby,hzs,hpos⟩:=he;refine wpList_append_own_at _ hgd s x t ho base e i z size bytes ht hi hz hsz hby hzs hpos v n xs hs (hown.alloc _) ⟨wr.heap.size,0,none⟩ 1 1 cs.toList hx (by simpa using hl) (zu1 wr cs e) h1 h63 hbytes (by simp;omega) ?_;intro v' w' h2 h3 _ h5
 have hall:wr.grownBy w' v.ownBlock:=(World.grownBy_alloc wr _ _).trans h3;refine h v' w' h2 (hb.grown hall hbase (fun k hk=>(hown.lt k hk).1)) hall ?_;rcases h5 with h5|h5
 ·exact .inl h5
 ·exact .inr ⟨_,h5,by simp⟩
theorem zlf{P:Program}(w:World){base t ty e size bytes:Nat}(he:Elem P t e size bytes){v:Value}{n:Nat}{xs:List Value}(hown:w.ownsRow base e size v n xs)(c:Nat):
  (Builtin.append_ #[t,t] ty #[v,.slice none 0 c]).run P w=.ok v w:=by
 obtain⟨ht,i,z,hi,_⟩:=he;rcases hown.2 with⟨rfl,rfl⟩|⟨g,cap,cur,rfl,_,_,hnc,_⟩
 ·simp[Builtin.append_,run_underlying ht,sizeOf,typeInfo,hi,Builtin.lenOf,Builtin.firstCells]
 ·simp[Builtin.append_,run_underlying ht,sizeOf,typeInfo,hi,Builtin.lenOf,Builtin.firstCells,hnc,storeCells]
theorem zk4{P:Program}(w:World){base t ty e size bytes:Nat}(he:Elem P t e size bytes){v:Value}{n:Nat}{xs:List Value}(hown:w.ownsRow base e size v n xs)
  {B:Nat}{A:Option Addr}{m c:Nat}{news:List Value} (hs:Sl w B size A m news) (hc:A=none→m=0) (h1:∀u∈news,u.oneCell'=true)
  (h63:n+m≤maxLen) (hbytes:(n+m)*bytes≤140737488355328) (hbase:base≤w.heap.size):
  ∃v' w',(Builtin.append_ #[t,t] ty #[v,.slice A m c]).run P w=.ok v' w'∧w'.ownsRow base e size v' (n+m) (xs++news)∧w.grownBy w' v.ownBlock∧
   (v'.ownBlock=v.ownBlock∨∃g,v'.ownBlock=some g∧w.heap.size≤g):=by
 cases A with
 |
  none=>
  obtain rfl:=hc rfl;have hn:news=[]:=List.eq_nil_of_length_eq_zero (by simpa using hs.1);subst hn;exact⟨v,w,zlf w he hown c,by simpa using hown,World.grownBy.refl w _,.inl rfl⟩
 |
  some ad=>
  have hcells:∀j u,news[j]? =some u→w.cell? (ad.add j)=some u:=by
   intro j u hu
   rcases Nat.eq_zero_or_pos m with h0|h0
   ·subst h0;have hn:news=[]:=List.eq_nil_of_length_eq_zero (by simpa using hs.1);subst hn;simp at hu
   ·obtain⟨b,off,ha,_,hcell⟩:=hs.2 h0;obtain rfl:=Option.some.inj ha;rw[Addr.add_lit];exact hcell j u hu
  obtain⟨ht,i,z,hi,hz,hsz,hby,hzs,hpos⟩:=he;obtain⟨v',w',hrun,h2,h3,_,h5⟩:=run_append_own_at (P:=P) w base t ty e i z size bytes ht hi hz hsz hby hzs hpos v n xs hown ad m c news hs.1 hcells h1 h63 hbytes hbase;refine⟨v',w',hrun,h2,h3,?_⟩;rcases h5 with h5|h5
  ·exact .inl h5
  ·exact .inr ⟨_,h5,Nat.le_refl _⟩
theorem zad{P:Program}{ops:Array Oper}{rest:List Oper}{o:Oper}{a:Act}{Q:Exit→Act→World→Prop}(w0 w:World)(hgd:o.guard=none)(s x:Operand)(t:TypeId)
  (ho:o.op=.call {callee:=.builtin .append,args:= #[s,x],argTypes:= #[t,t]})
  {base e size bytes:Nat} (he:Elem P t e size bytes) (v:Value) (n:Nat) (xs:List Value) (hs:a.eval s=v) (hown:w.ownsRow base e size v n xs)
  {B:Nat}{A:Option Addr}{m c:Nat}{news:List Value} (hx:a.eval x=.slice A m c) (hsl:Sl w B size A m news) (hc:A=none→m=0) (h1:∀u∈news,u.oneCell'=true)
  (h63:n+m≤maxLen) (hbytes:(n+m)*bytes≤140737488355328) (hbase:base≤w.heap.size) (hb:Below base w0 w)
  (h:∀v' w',w'.ownsRow base e size v' (n+m) (xs++news)→Below base w0 w'→w.grownBy w' v.ownBlock→(v'.ownBlock=v.ownBlock∨∃g,v'.ownBlock=some g∧w.heap.size≤g)→wpList P ops Q rest (a.put o.dst v') w'):
  wpList P ops Q (o::rest) a w:=by
 refine wpList_plain hgd fun K hK=>?_
 obtain⟨v',w',hr,h2,h3,h4⟩:=zk4 (ty:=o.type) w he hown hsl (c:=c) hc h1 h63 hbytes hbase;unfold Oper.wp execOp;simp only[ho,resolve,invoke,builtin,Sem.run_bind,Sem.run_pure,Result.andThen_ok,List.map_toArray,List.map_cons,List.map_nil,hs,hx,hr];exact hK _ _ (h v' w' h2 (hb.grown h3 hbase (fun k hk=>(hown.lt k hk).1)) h3 h4)
theorem za9{w W W':World}(h:Below w.heap.size w W)(h':Below W.heap.size W W'):Below w.heap.size w W':=h.trans (h'.mono h.size)
theorem bnew{w W:World}(h:Below w.heap.size w W)(o:Obj):Below w.heap.size w (W.alloc o):=h.alloc h.size o
theorem za0(w:World):Below w.heap.size w w:=Below.refl _ _
theorem below_drewN{B:Nat}{a w:World}(h:Below B a w)(n:Nat):Below B a (w.drewN n):=⟨h.os,h.tape,h.output,h.size,h.block⟩
section
open Go.ChangeShapes Go.WideShapes Go.Deep
variable {H:Type}{enc:TypeId×Value→H}{P:Program}{w:World}{base:Nat}{spare:Nat→Bool}{held:Bool}
theorem lt_of_cell{w:World}{a:Addr}{v:Value}(h:w.cell? a=some v):a.block<w.heap.size∧a.spot=none:=by
 unfold World.cell? at h;split at h
 ·rename_i c t f hc
  refine⟨(Array.getElem?_eq_some_iff.1 hc).1,?_⟩;split at h
  ·cases h
  ·rename_i hs;simpa using hs
 ·cases h
theorem z52{α:Type}[Inhabited α]{p:Nat→α→Prop}{n:Nat}(h:∀i,i<n→∃x,p i x):∃f:Nat→α,∀i,i<n→p i (f i):=by
 refine⟨fun i=>if hi:i<n then Classical.choose (h i hi)else default,fun i hi=>?_⟩;simp only[hi,dif_pos];exact Classical.choose_spec (h i hi)
end
end
section
open Go.RowKit
theorem zah{w:World}{base e size n c:Nat}{A:Option Addr}{xs:List Value}(h:w.ownsRow base e size (.slice A n c) n xs)(hn:0<n):∃g,A=some ⟨g,0,none⟩∧base≤g∧g<w.heap.size:=by
 rcases h.2 with⟨_,h0⟩|⟨g,cap,cur,hv,hb,hg,_⟩
 ·omega
 ·injection hv with hA _ _
  exact⟨g,hA,hb,(Array.getElem?_eq_some_iff.1 hg).1⟩
theorem zo7{w w':World}{b1 b2 e1 e2 s1 s2 n1 n2:Nat}{v1 v2:Value}{x1 x2:List Value}(h1:w.ownsRow b1 e1 s1 v1 n1 x1)(h2:w'.ownsRow b2 e2 s2 v2 n2 x2)(hb:w.heap.size≤b2):v2.ownBlock=none∨v2.ownBlock≠v1.ownBlock:=by
 cases h:v2.ownBlock with
 |none=>exact .inl rfl
 |
  some g=>
  refine .inr fun e=>?_
  have a:=(h1.lt g e.symm).2;have b:=(h2.lt g h).1;omega
theorem za4{w:World}{b1 b2 e1 e2 s1 s2 n1 n2:Nat}{v1 v2:Value}{x1 x2:List Value}(h1:w.ownsRow b1 e1 s1 v1 n1 x1)(h2:w.ownsRow b2 e2 s2 v2 n2 x2)(he:e1≠e2):v2.ownBlock=none∨v2.ownBlock≠v1.ownBlock:=by
 rcases h1.2 with⟨rfl,_⟩|⟨g1,c1,u1,rfl,_,k1,_⟩
 ·rcases h2.2 with⟨rfl,_⟩|⟨g2,c2,u2,rfl,_,k2,_⟩
  ·exact .inl rfl
  ·exact .inr (by simp[Value.ownBlock])
 ·rcases h2.2 with⟨rfl,_⟩|⟨g2,c2,u2,rfl,_,k2,_⟩
  ·exact .inl rfl
  ·refine .inr fun e=>?_
   simp only[Value.ownBlock,Option.some.injEq]at e;subst e;rw[k1]at k2;injection k2 with k2
   injection k2 with _ k2 _
   exact he k2
theorem za2{w w':World}{base e size n:Nat}{v:Value}{xs:List Value}(h:w.ownsRow base e size v n xs)(hb:Below w.heap.size w w'):w'.ownsRow base e size v n xs:=by
 refine⟨h.1,?_⟩;rcases h.2 with hn|⟨g,cap,cur,rfl,hg,hh,rest⟩
 ·exact .inl hn
 ·exact .inr ⟨g,cap,cur,rfl,hg,(hb.block g (Array.getElem?_eq_some_iff.1 hh).1).trans hh,rest⟩
theorem zc1(w:World)(e size:Nat){nb:Nat}(h:nb=w.heap.size){base:Nat}(hb:base≤w.heap.size):(w.alloc (.cells #[] e)).ownsRow base e size (.slice (some ⟨nb,0,none⟩) 0 0) 0 []:=by
 subst h;exact World.ownsRow_made w #[] 0 hb (Nat.zero_le _) (by simp)
theorem zg1(w:World)(cs:Array Value)(e size m:Nat)(hm:cs.size=m*size)(hx:m≤maxLen){nb:Nat}(h:nb=w.heap.size){base:Nat}(hb:base≤w.heap.size):(w.alloc (.cells cs e)).ownsRow base e size (.slice (some ⟨nb,0,none⟩) m m) m cs.toList:=by
 subst h;refine⟨by simpa using hm,.inr ⟨w.heap.size,m,cs,rfl,hb,heap_alloc_new w _,Nat.le_refl _,hx,hm,?_⟩⟩;exact List.take_of_length_le (by simp[hm])
theorem zb8{P:Program}{ops:Array Oper}{rest:List Oper}{o:Oper}{a:Act}{Q:Exit→Act→World→Prop}(w0 wr:World)(cs:Array Value)(hgd:o.guard=none)(s x:Operand)(t:TypeId)
  (ho:o.op=.call {callee:=.builtin .append,args:= #[s,x],argTypes:= #[t,t]})
  {base e size bytes:Nat} (he:Elem P t e size bytes) (v:Value) (n:Nat) (xs:List Value) (hs:a.eval s=v) (hown:wr.ownsRow base e size v n xs)
  {nb m:Nat} (hx:a.eval x=.slice (some ⟨nb,0,none⟩) m m) (hnb:wr.heap.size=nb) (hl:cs.size=m*size) (h1:∀u∈cs.toList,u.oneCell'=true)
  (h63:n+m≤maxLen) (hbytes:(n+m)*bytes≤140737488355328) (hbase:base≤wr.heap.size) (hb:Below base w0 wr)
  (h:∀v' w',w'.ownsRow base e size v' (n+m) (xs++cs.toList)→Below base w0 w'→wr.grownBy w' v.ownBlock→(v'.ownBlock=v.ownBlock∨∃g,v'.ownBlock=some g∧wr.heap.size≤g)→wpList P ops Q rest (a.put o.dst v') w'):
  wpList P ops Q (o::rest) a (wr.alloc (.cells cs e)):=by
 subst hnb;obtain⟨ht,i,z,hi,hz,hsz,hby,hzs,hpos⟩:=he;refine wpList_append_own_at _ hgd s x t ho base e i z size bytes ht hi hz hsz hby hzs hpos v n xs hs (hown.alloc _) ⟨wr.heap.size,0,none⟩ m m cs.toList hx (by simpa using hl) (zu1 wr cs e) h1 h63 hbytes (by simp;omega) ?_;intro v' w' h2 h3 _ h5
 have hall:wr.grownBy w' v.ownBlock:=(World.grownBy_alloc wr _ _).trans h3;refine h v' w' h2 (hb.grown hall hbase (fun k hk=>(hown.lt k hk).1)) hall ?_;rcases h5 with h5|h5
 ·exact .inl h5
 ·exact .inr ⟨_,h5,by simp⟩
theorem zjf{P:Program}{w:World}{base e n:Nat}{src dst:TypeId}{v:Value}{zs:List Int}(hs:P.underlying src=some (.slice e))(he:P.underlying e=some (.int .u8))(hd:P.underlying dst=some .string)
  (h:w.ownsRow base e 1 v n (zs.map (.int .u8))):(convert src dst v).run P w=.ok (.string (strOfNums zs)) w:=by
 have hl:zs.length=n:=by have:=h.1;simpa using this
 rcases h.2 with⟨rfl,rfl⟩|⟨g,cap,cur,rfl,_,hg,_,_,_,hx⟩
 ·obtain rfl:zs=[]:=List.eq_nil_of_length_eq_zero hl;rw[run_convert_bytes_nil w src e hs he 0 0 dst hd];rfl
 ·refine run_convert_bytes_arg w src e hs he g 0 n cap zs hl (fun i hi=>?_) dst hd;have:=h.cells (g:=g) rfl i (.int .u8 (zs.getD i 0)) (by simp[hl,hi]);rwa[Addr.add_lit]at this
theorem zh8(n:Int)(h₀:0≤n)(h₁:n<2^62):IntKind.i64.wrap n=n:=IntWalk.i64_in n (by omega)
theorem zf2(i:Nat)(hi:i≤62)(x:Int)(h0:0≤x)(h1:x<4611686018427387904):bits .and .i64 x (2^i-1)=x%2^i:=
 bits_mask .i64 62 (by decide) zh8 i hi x h0 h1
theorem zb4(i:Nat)(x y:Int)(h0:0≤x)(hx:x%2^i=0)(h1:x<4611686018427387904)(h2:0≤y)(h3:y<2^i)(h4:y<4611686018427387904):bits .or .i64 x y=x+y:=
 bits_join .i64 62 (by decide) zh8 i x y h0 hx h1 h2 h3 h4
theorem z44(a i:Nat):a|||(2^i-1)=a/2^i*2^i+(2^i-1):=by
 have hp:2^i-1<2^i:=by have:=Nat.two_pow_pos i;omega
 rw[Nat.mul_comm,Nat.two_pow_add_eq_or_of_lt hp];apply Nat.eq_of_testBit_eq
 intro j
 simp only[Nat.testBit_or,Nat.testBit_two_pow_sub_one,Nat.testBit_two_pow_mul,Nat.testBit_div_two_pow];by_cases h:j<i
 ·simp[h]
 ·simp[h,show i≤j by omega]
theorem z7k(i:Nat)(hi:i≤61)(x:Int)(h0:0≤x)(h1:x<4611686018427387904):bits .or .i64 x (2^i-1)=x-x%2^i+(2^i-1):=by
 obtain⟨a,rfl⟩:=Int.eq_ofNat_of_zero_le h0;have hc:((2:Int)^i-1)=((2^i-1:Nat):Int):=by
  have:=Nat.two_pow_pos i;rw[Int.natCast_sub (by omega)];simp
 have hlt:2^i-1<2^62:=by
  have:2^i≤2^61:=Nat.pow_le_pow_right (by omega) hi;omega
 rw[hc,(bits_nat .i64 62 (by decide) zh8 a _ (by omega) hlt).2,z44];have e2:((2:Int)^i)=((2^i:Nat):Int):=by simp
 rw[e2];generalize 2^i=M at*;have h:=Nat.div_add_mod a M;have h':(a:Int)%(M:Int)=((a%M:Nat):Int):=rfl;rw[h',Nat.mul_comm];have h2:a%M≤a:=Nat.mod_le _ _;omega
theorem zqa(a i:Nat)(h:i≤62)(ha:a<2^62):(BitVec.ofNat 64 a&&& ~~~(BitVec.ofNat 64 (2^i-1))).toNat=a/2^i*2^i:=by
 rw[Nat.mul_comm];apply Nat.eq_of_testBit_eq
 intro j
 have hm:a%2^64=a:=Nat.mod_eq_of_lt (by omega);simp only[BitVec.toNat_and,BitVec.toNat_not,BitVec.toNat_ofNat,Nat.testBit_and,Nat.testBit_two_pow_mul,Nat.testBit_div_two_pow,hm];have hp:(2^i-1)%2^64=2^i-1:=by
  have:2^i≤2^62:=Nat.pow_le_pow_right (by omega) h;exact Nat.mod_eq_of_lt (by omega)
 rw[hp];have hs:2^64-1-(2^i-1)=2^64-((2^i-1)+1):=by omega
 rw[hs,Nat.testBit_two_pow_sub_succ (by
                      have:2^i≤2^62:=Nat.pow_le_pow_right (by omega) h;omega)]
 rw[Nat.testBit_two_pow_sub_one];by_cases hj:j<i
 ·have:¬i≤j:=by omega
  simp[hj,this]
 ·have e:j-i+i=j:=by omega
  have hi:i≤j:=by omega
  by_cases h64:j<64
  ·simp[hj,h64,e,hi]
  ·have:a.testBit j=false:=Nat.testBit_lt_two_pow (Nat.lt_of_lt_of_le ha (Nat.pow_le_pow_right (by omega) (by omega)));simp[this,e]
theorem zm7(i:Nat)(hi:i≤62)(x:Int)(h0:0≤x)(h1:x<4611686018427387904):bits .andNot .i64 x (2^i-1)=x-x%2^i:=by
 obtain⟨a,rfl⟩:=Int.eq_ofNat_of_zero_le h0;have hc:((2:Int)^i-1)=((2^i-1:Nat):Int):=by
  have:=Nat.two_pow_pos i;rw[Int.natCast_sub (by omega)];simp
 have hh:=zqa a i hi (by omega);rw[hc];simp only[bits,BitVec.ofInt_natCast];have hb:IntKind.i64.bits=64:=rfl;rw[hb,hh];have h:=Nat.div_add_mod a (2^i);have h2:a/2^i*2^i≤a:=Nat.div_mul_le_self _ _;rw[Nat.mul_comm]at h;have e2:((2:Int)^i)=((2^i:Nat):Int):=by simp
 rw[e2,IntWalk.i64_in _ (by omega),←Int.natCast_emod];omega
theorem z39{P:Program}{ops:Array Oper}{o:Oper}{a:Act}{K:Act→World→Prop}{Q:Exit→Act→World→Prop}{E:Prop}(w0 wr wx:World)(cs:Array Value)(hgd:o.guard=none)(s x:Operand)(t:TypeId)
  (ho:o.op=.call {callee:=.builtin .append,args:= #[s,x],argTypes:= #[t,t]})
  {base e size bytes:Nat} (he:Elem P t e size bytes) (v:Value) (n:Nat) (xs:List Value) (hs:a.eval s=v) (hown:wr.ownsRow base e size v n xs)
  {nb m:Nat} (hx:a.eval x=.slice (some ⟨nb,0,none⟩) m m) (hnb:wr.heap.size=nb) (hwx:Below wr.heap.size wr wx) (hxs:wx.heap.size=wr.heap.size+1) (hxc:wx.heap[wr.heap.size]? =some (.cells cs e (0,0)))
  (hl:cs.size=m*size) (h1:∀u∈cs.toList,u.oneCell'=true) (hm:0<m)
  (h63:n+m≤maxLen) (hbytes:(n+m)*bytes≤140737488355328) (hbase:base≤wr.heap.size) (hb:Below base w0 wr)
  (h:∀g cap w',w'.ownsRow base e size (.slice (some ⟨g,0,none⟩) (n+m) cap) (n+m) (xs++cs.toList)→Below base w0 w'→K (a.put o.dst (.slice (some ⟨g,0,none⟩) (n+m) cap)) w'):
  if Region.wanted o (yielded ops a.tmps)=true then Oper.wp P o a wx K Q else E:=by
 subst hnb;obtain⟨ht,i,z,hi,hz,hsz,hby,hzs,hpos⟩:=he;refine step_append_lies wx hgd s x t ho base e i z size bytes ht hi hz hsz hby hzs hpos v n xs hs (za2 hown hwx) ⟨wr.heap.size,0,none⟩ m m cs.toList hx (by simpa using hl) ?_ h1 hm h63 hbytes (by have:=hwx.size;omega) _ rfl ?_
 ·intro j u hu
  rw[Addr.add_lit,Nat.zero_add,cell_of_row _ wr.heap.size j cs e (0,0) hxc];simpa using hu
 ·intro g cap w' h2 h3 _ _
  refine h g cap w' h2 ((hb.trans (hwx.mono hbase)).grown h3 (by omega) (fun k hk=>(hown.lt k hk).1))
end
namespace Sp
open Go.RowKit
def zb1(c:Int):Bool:=decide (0≤c∧c≤1114111∧(c<55296∨57343<c))
theorem zf6{c:Int}(h:0≤c∧c≤1114111∧(c<55296∨57343<c)):zb1 c=true:=decide_eq_true h
theorem zv0{c:Int}(h:¬(0≤c∧c≤1114111∧(c<55296∨57343<c))):zb1 c=false:=decide_eq_false h
theorem zsi{c:Int}(h:zb1 c=true):0≤c∧c≤1114111∧(c<55296∨57343<c):=of_decide_eq_true h
def encC(c:Int):List Int:=
 if c<128 then[c]else if c<2048 then[192+c/64,128+c%64]else if c<65536 then[224+c/4096,128+c/64%64,128+c%64]
 else[240+c/262144,128+c/4096%64,128+c/64%64,128+c%64]
def encL(l:List Int):List Int:=l.flatMap encC
theorem z9f(l:List Int)(c:Int):encL (l++[c])=encL l++encC c:=by simp[encL]
theorem zik(c:Int):1≤(encC c).length∧(encC c).length≤4:=by
 unfold encC;split
 ·simp
 ·split
  ·simp
  ·split<;>simp
theorem zE6(l:List Int):(encL l).length≤4*l.length:=by
 unfold encL;induction l with
 |nil=>simp
 |
  cons c l ih=>
  have:=(zik c).2;rw[List.flatMap_cons,List.length_append,List.length_cons];omega
theorem zg3(c:Int)(w:World):Calls Tryz.prog 92 #[.int .i64 c] w fun e w'=>e=.returned (.bool (zb1 c))∧w=w':=by
 by_cases h:0≤c∧c≤1114111∧(c<55296∨57343<c)
 ·rw[zf6 h];obtain⟨h1,h2,h3⟩:=h;by_cases h4:c<55296
  all_goals
   have q:57343<c∨c<55296:=by omega
   go_enter Tryz.func92,Tryz.ntmps92
   go_wp2
   go_ret;refine⟨z01 ?_,rfl⟩;simp
   try omega
 ·rw[zv0 h];go_enter Tryz.func92,Tryz.ntmps92
  go_wp2
  all_goals
   go_ret;refine⟨z01 ?_,rfl⟩;simp
   try omega
theorem zqi:Elem Tryz.prog 108 5 1 1:=Elem.mk_ Tryz.underlying108 (z:=.int .u8 0) (by kernel_rfl) rfl (by omega)
theorem b2{c:Int}(h0:128≤c)(h1:c<2048):bits .or .i64 192 (c/64)%256=192+c/64∧bits .or .i64 128 (bits .and .i64 c 63)%256=128+c%64:=by
 have a:=zf2 6 (by omega) c (by omega) (by omega);have b:=zb4 6 128 (c%64) (by omega) (by decide) (by omega) (by omega) (by omega) (by omega);have d:=zb4 6 192 (c/64) (by omega) (by decide) (by omega) (by omega) (by omega) (by omega);simp only[Int.reducePow,Int.reduceSub]at a;rw[a,b,d];omega
theorem b3{c:Int}(h0:2048≤c)(h1:c<65536):bits .or .i64 224 (c/4096)%256=224+c/4096∧bits .or .i64 128 (bits .and .i64 (c/64) 63)%256=128+c/64%64∧bits .or .i64 128 (bits .and .i64 c 63)%256=128+c%64:=by
 have a:=zf2 6 (by omega) c (by omega) (by omega);have a2:=zf2 6 (by omega) (c/64) (by omega) (by omega);have b:=zb4 6 128 (c%64) (by omega) (by decide) (by omega) (by omega) (by omega) (by omega);have b2:=zb4 6 128 (c/64%64) (by omega) (by decide) (by omega) (by omega) (by omega) (by omega);have d:=zb4 5 224 (c/4096) (by omega) (by decide) (by omega) (by omega) (by omega) (by omega);simp only[Int.reducePow,Int.reduceSub]at a a2;rw[a,b,a2,b2,d];omega
theorem b4{c:Int}(h0:65536≤c)(h1:c≤1114111):bits .or .i64 240 (c/262144)%256=240+c/262144∧bits .or .i64 128 (bits .and .i64 (c/4096) 63)%256=128+c/4096%64∧bits .or .i64 128 (bits .and .i64 (c/64) 63)%256=128+c/64%64∧bits .or .i64 128 (bits .and .i64 c 63)%256=128+c%64:=by
 have a:=zf2 6 (by omega) c (by omega) (by omega);have a2:=zf2 6 (by omega) (c/64) (by omega) (by omega);have a3:=zf2 6 (by omega) (c/4096) (by omega) (by omega);have b:=zb4 6 128 (c%64) (by omega) (by decide) (by omega) (by omega) (by omega) (by omega);have b2:=zb4 6 128 (c/64%64) (by omega) (by decide) (by omega) (by omega) (by omega) (by omega);have b3:=zb4 6 128 (c/4096%64) (by omega) (by decide) (by omega) (by omega) (by omega) (by omega);have d:=zb4 4 240 (c/262144) (by omega) (by decide) (by omega) (by omega) (by omega) (by omega);simp only[Int.reducePow,Int.reduceSub]at a a2 a3;rw[a,b,a2,b2,a3,b3,d];omega
def zyd(l:List Int):Bool:=l.all zb1
def encS(l:List Int):ByteArray:=if zyd l then strOfNums (encL l)else ByteArray.empty
def encE(l:List Int):Int:=if zyd l then 0 else 1
theorem zr2{l:List Int}{k:Nat}{c:Int}(h:l[k]? =some c):l.take (k+1)=l.take k++[c]:=by
 obtain⟨hk,rfl⟩:=List.getElem?_eq_some_iff.1 h;rw[List.take_succ_eq_append_getElem hk]
def EncR(w:World)(l:List Int)(n:Nat)(v i:Value)(wr:World):Prop:=
 ∃k:Nat,k≤n∧i=.int .i64 k∧wr.ownsRow w.heap.size 5 1 v (encL (l.take k)).length ((encL (l.take k)).map (.int .u8))∧Below w.heap.size w wr∧(l.take k).all zb1=true
theorem EncR.step{w wr:World}{l:List Int}{n k:Nat}{v:Value}{c:Int}{bs:List Int}(hb:encC c=bs)(hk:k<n)(hc:l[k]? =some c)(hw:zb1 c=true)(ha:(l.take k).all zb1=true)
  (hown:wr.ownsRow w.heap.size 5 1 v ((encL (l.take k)).length+bs.length) ((encL (l.take k)).map (.int .u8)++bs.map (.int .u8))) (hB:Below w.heap.size w wr):EncR w l n v (.int .i64 ((k:Int)+1)) wr:=by
 subst hb;refine⟨k+1,by omega,by go_num,?_,hB,?_⟩
 ·rw[zr2 hc,z9f,List.length_append,List.map_append];exact hown
 ·rw[zr2 hc,List.all_append,ha,List.all_cons,hw];rfl
theorem z50(w:World)(A:Option Addr)(n cp:Nat)(l:List Int)(B:Nat)(hB:B≤w.heap.size)(hs:Sl w B 1 A n (l.map (.int .i64)))(hl:n≤17592186044416):
  Calls Tryz.prog 94 #[.slice A n cp] w fun e w'=>e=.returned (.tuple #[.string (encS l),.int .i64 (encE l)])∧Below w.heap.size w w':=by
 have hln:l.length=n:=by have:=hs.1;simpa using this
 go_enter Tryz.func94,Tryz.ntmps94
 go_wp2_with fail;go_loopw [4,10] (fun v i wr=>EncR w l n v i wr) (fun _ i _=>n-(intOf i).toNat)
 case atStart=>exact⟨0,Nat.zero_le _,rfl,by simpa[encL]using zc1 w 5 1 rfl (Nat.le_refl _),bnew (za0 w) _,rfl⟩
 case round=>
  obtain⟨k,hk,rfl,hown,hbl,hall⟩:=hrel;by_cases hlt:k<n
  ·obtain⟨b,off,rfl,hbB,hcell⟩:=hs.at_ hlt;obtain⟨c,hc⟩:∃c,l[k]? =some c:=⟨l[k],List.getElem?_eq_getElem (by omega)⟩;have hcw:wr.cell? ⟨b,off+k,none⟩=some (.int .i64 c):=(hbl.cell (p:=⟨b,off+k,none⟩) (by show b<_;omega)).trans (hcell k _ (by simp[hc]));have hw:=Lib.hid (zg3 c);have hlen4:=zE6 (l.take k);rw[List.length_take]at hlen4;have hsz:=hbl.size;have HB:=Lib.hid hbl;have HO:=Lib.hid hown;have HA:=Lib.hid hall;have HC:=Lib.hid hc;obtain⟨hB2,hS2,hL2,hN2⟩:(b<wr.heap.size)∧(w.heap.size≤wr.heap.size)∧((encL (l.take k)).length≤4*k)∧k+1≤17592186044416:=⟨by omega,hsz,by omega,by omega⟩;clear hcell hs hlen4 hsz hbl hown hall hc hl;by_cases hwh:0≤c∧c≤1114111∧(c<55296∨57343<c)
   ·have hy:=Lib.hid (zf6 hwh);obtain⟨c0,c1,_⟩:=hwh;by_cases c2:c<128
    ·have eb:=Lib.hid (show encC c=[c] by unfold encC;rw[if_pos c2]);have e1:=Lib.hid (show c%256=c by omega);go_wp2_with (first
      |(go_at_call 92;refine(hw.out _).mono ?_;rw[hy.out];rintro e w' ⟨rfl,rfl⟩)
      |(at_builtin;refine zb8 w _ _ rfl _ _ _ rfl zqi _ _ _ rfl HO.out (m:=1) rfl rfl rfl (by simp[Value.oneCell']) (by unfold maxLen;omega) (by omega) hS2 HB.out ?_;intro v1 w1 hown1 hb1 _ _))
     go_roundw;case rel=>exact EncR.step eb.out hlt HC.out hy.out HA.out (by first|exact hown1|(rw[e1.out]at hown1;exact hown1)) hb1
     case measure=>simp[intOf];omega
    by_cases c3:c<2048
    ·have eb:=Lib.hid (show encC c=[192+c/64,128+c%64] by unfold encC;rw[if_neg c2,if_pos c3]);have e1:=Lib.hid (b2 (c:=c) (by omega) (by omega));go_wp2_with (first
      |(go_at_call 92;refine(hw.out _).mono ?_;rw[hy.out];rintro e w' ⟨rfl,rfl⟩)
      |(at_builtin;refine zb8 w _ _ rfl _ _ _ rfl zqi _ _ _ rfl HO.out (m:=2) rfl rfl rfl (by simp[Value.oneCell']) (by unfold maxLen;omega) (by omega) hS2 HB.out ?_;intro v1 w1 hown1 hb1 _ _))
     go_roundw;case rel=>exact EncR.step eb.out hlt HC.out hy.out HA.out (by have h:=hown1;simp only[e1.out]at h;exact h) hb1
     case measure=>simp[intOf];omega
    by_cases c4:c<65536
    ·have eb:=Lib.hid (show encC c=[224+c/4096,128+c/64%64,128+c%64] by unfold encC;rw[if_neg c2,if_neg c3,if_pos c4]);have e1:=Lib.hid (b3 (c:=c) (by omega) (by omega));go_wp2_with (first
      |(go_at_call 92;refine(hw.out _).mono ?_;rw[hy.out];rintro e w' ⟨rfl,rfl⟩)
      |(at_builtin;refine zb8 w _ _ rfl _ _ _ rfl zqi _ _ _ rfl HO.out (m:=3) rfl rfl rfl (by simp[Value.oneCell']) (by unfold maxLen;omega) (by omega) hS2 HB.out ?_;intro v1 w1 hown1 hb1 _ _))
     go_roundw;case rel=>exact EncR.step eb.out hlt HC.out hy.out HA.out (by have h:=hown1;simp only[e1.out]at h;exact h) hb1
     case measure=>simp[intOf];omega
    ·have eb:=Lib.hid (show encC c=[240+c/262144,128+c/4096%64,128+c/64%64,128+c%64] by unfold encC;rw[if_neg c2,if_neg c3,if_neg c4]);have e1:=Lib.hid (b4 (c:=c) (by omega) (by omega));go_wp2_with (first
      |(go_at_call 92;refine(hw.out _).mono ?_;rw[hy.out];rintro e w' ⟨rfl,rfl⟩)
      |(at_builtin;refine zb8 w _ _ rfl _ _ _ rfl zqi _ _ _ rfl HO.out (m:=4) rfl rfl rfl (by simp[Value.oneCell']) (by unfold maxLen;omega) (by omega) hS2 HB.out ?_;intro v1 w1 hown1 hb1 _ _))
     go_roundw;case rel=>exact EncR.step eb.out hlt HC.out hy.out HA.out (by have h:=hown1;simp only[e1.out]at h;exact h) hb1
     case measure=>simp[intOf];omega
   ·have hy:=Lib.hid (zv0 hwh);clear hwh;have hr:encS l=ByteArray.empty∧encE l=1:=by
     have:zyd l=false:=by
      unfold zyd;rw[List.all_eq_false];exact⟨c,List.mem_of_getElem? HC.out,by rw[hy.out];simp⟩
     unfold encS encE;rw[this];exact⟨rfl,rfl⟩
    have HR:=Lib.hid hr;clear hr;go_wp2_with (go_at_call 92;refine(hw.out _).mono ?_;rw[hy.out];rintro e w' ⟨rfl,rfl⟩)
    go_ret2;exact⟨by rw[HR.out.1,HR.out.2];rfl,HB.out⟩
  ·obtain rfl:k=n:=by omega
   have hall':l.take k=l:=List.take_of_length_le (by omega);rw[hall']at hown hall;have hr:encS l=strOfNums (encL l)∧encE l=0:=by
    have:zyd l=true:=hall;unfold encS encE;rw[this];exact⟨rfl,rfl⟩
   have HR:=Lib.hid hr;have HB:=Lib.hid hbl;have kc:=zjf (P:=Tryz.prog) Tryz.underlying108 Tryz.underlying5 (dst:=9) Tryz.underlying9 hown;clear hown hall hall' hbl hr hs hln hlt;go_wp2_with fail;go_ret2;exact⟨by rw[HR.out.1,HR.out.2];rfl,HB.out⟩
end Sp
namespace Sp
def szC(c:Int):Int:=if c<128 then 1 else if c<2048 then 2 else if c<65536 then 3 else 4
theorem znh(c:Int):((encC c).length:Int)=szC c:=by
 unfold encC szC;split
 ·rfl
 ·split
  ·rfl
  ·split<;>rfl
def cutC(lo hi:Int):Option Int:=
 if lo/64≠hi/64∧1<szC lo∧lo%64≠0 then some (lo-lo%64+64)
 else if lo/64≠hi/64∧1<szC lo∧hi%64≠63 then some (hi-hi%64)
 else if lo/4096≠hi/4096∧2<szC lo∧lo%4096≠0 then some (lo-lo%4096+4096)
 else if lo/4096≠hi/4096∧2<szC lo∧hi%4096≠4095 then some (hi-hi%4096)
 else if lo/262144≠hi/262144∧3<szC lo∧lo%262144≠0 then some (lo-lo%262144+262144)
 else if lo/262144≠hi/262144∧3<szC lo∧hi%262144≠262143 then some (hi-hi%262144)
 else none
theorem ze3{lo hi c:Int}(h:lo≤hi)(hc:cutC lo hi=some c):lo<c∧c≤hi:=by
 unfold cutC at hc;split at hc
 ·injection hc;omega
 split at hc
 ·injection hc;omega
 split at hc
 ·injection hc;omega
 split at hc
 ·injection hc;omega
 split at hc
 ·injection hc;omega
 split at hc
 ·injection hc;omega
 ·cases hc
def zh0(lo hi:Int):List (Int×Int):=(encC lo).zip (encC hi)
def ztd:Nat→Int→Int→List (List (Int×Int))
 |0,_,_=>[]
 |n+1,lo,hi=>match cutC lo hi with
  |some c=>ztd n lo (c-1)++ztd n c hi
  |none=>[zh0 lo hi]
theorem zid:∀(n m:Nat) (lo hi:Int),lo≤hi→(hi-lo).toNat<n→n≤m→ztd m lo hi=ztd n lo hi
 |0,_,_,_,_,h,_=>by omega
 |n+1,0,_,_,_,_,h=>by omega
 |
  n+1,m+1,lo,hi,h,hn,hm=>by
  rw[ztd,ztd];cases hc:cutC lo hi with
  |none=>rfl
  |
   some c=>
   obtain⟨h1,h2⟩:=ze3 h hc;simp only
   rw[zid n m lo (c-1) (by omega) (by omega) (by omega),zid n m c hi (by omega) (by omega) (by omega)]
def zbh(lo hi:Int):List (List (Int×Int)):=ztd ((hi-lo).toNat+1) lo hi
theorem zc9{lo hi c:Int}(h:lo≤hi)(hc:cutC lo hi=some c):zbh lo hi=zbh lo (c-1)++zbh c hi:=by
 obtain⟨h1,h2⟩:=ze3 h hc;unfold zbh;rw[ztd,hc];simp only
 rw[zid ((c-1-lo).toNat+1) _ lo (c-1) (by omega) (by omega) (by omega),zid ((hi-c).toNat+1) _ c hi (by omega) (by omega) (by omega)]
theorem zdb{lo hi:Int}(hc:cutC lo hi=none):zbh lo hi=[zh0 lo hi]:=by
 unfold zbh;rw[ztd,hc]
def Cls(lo hi:Int):Prop:=(0≤lo∧hi≤127)∨(128≤lo∧hi≤2047)∨(2048≤lo∧hi≤55295)∨(57344≤lo∧hi≤65535)∨(65536≤lo∧hi≤1114111)
theorem zk6{motive:Int→Int→Prop}(cut:∀lo hi c,lo≤hi→Cls lo hi→cutC lo hi=some c→lo<c→c≤hi→motive lo (c-1)→motive c hi→motive lo hi)
  (leaf:∀lo hi,lo≤hi→Cls lo hi→cutC lo hi=none→motive lo hi):∀lo hi,lo≤hi→Cls lo hi→motive lo hi:=by
 have key:∀n:Nat,∀lo hi,(hi-lo).toNat<n→lo≤hi→Cls lo hi→motive lo hi:=by
  intro n
  induction n with
  |zero=>intro lo hi h;omega
  |
   succ n ih=>
   intro lo hi hn h hk
   cases hc:cutC lo hi with
   |none=>exact leaf lo hi h hk hc
   |
    some c=>
    obtain⟨h1,h2⟩:=ze3 h hc;exact cut lo hi c h hk hc h1 h2 (ih lo (c-1) (by omega) (by omega) (by unfold Cls at*;omega)) (ih c hi (by omega) (by omega) (by unfold Cls at*;omega))
 intro lo hi h hk
 exact key _ lo hi (Nat.lt_succ_self _) h hk
end Sp
namespace Sp
open Go.RowKit
theorem zE5{c:Int}(h:zb1 c=true):encS [c]=strOfNums (encC c)∧encE [c]=0:=by
 have:zyd [c]=true:=by simp[zyd,h]
 unfold encS encE;rw[this];exact⟨by simp[encL],rfl⟩
theorem zK5(w:World)(x:Value)(e:TypeId):Sl (w.alloc (.cells #[x] e)) (w.heap.size+1) 1 (some ⟨w.heap.size,0,none⟩) 1 [x]:=
 ⟨rfl,fun _=>⟨w.heap.size,0,rfl,by omega,fun j u hu=>by
  have h:=zu1 w #[x] e j u hu;rwa[Addr.add_lit]at h⟩⟩
theorem zm3(w:World)(c:Int)(hw:zb1 c=true):Calls Tryz.prog 94 #[.slice (some ⟨w.heap.size,0,none⟩) 1 1] (w.alloc (.cells #[.int .i64 c] 3)) fun e w'=>e=.returned (.tuple #[.string (strOfNums (encC c)),.int .i64 0])∧Below w.heap.size w w':=by
 refine(z50 (w.alloc (.cells #[.int .i64 c] 3)) _ 1 1 [c] (w.heap.size+1) (by simp) (zK5 w _ _) (by omega)).mono ?_;rintro e w' ⟨rfl,hb⟩;obtain⟨h1,h2⟩:=zE5 hw;rw[h1,h2];exact⟨rfl,za9 (bnew (za0 w) _) hb⟩
theorem size_any(c:Int)(hw:zb1 c=true)(w:World):Calls Tryz.prog 93 #[.int .i64 c] w fun e w'=>e=.returned (.int .i64 (szC c))∧Below w.heap.size w w':=by
 have HC:=Lib.hid (zm3 w c hw);have hz:(((strOfNums (encC c)).size:Nat):Int)=szC c:=by rw[strOfNums_size,znh]
 generalize strOfNums (encC c)=s at*;have HZ:=Lib.hid hz;clear hz hw;go_enter Tryz.func93,Tryz.ntmps93
 go_wp2_with fail;refine HC.out.mono ?_;rintro e w1 ⟨rfl,hb1⟩;go_wp2_with fail;go_ret;exact⟨zHa HZ.out,hb1⟩
end Sp
end Go.Proofs.YtaociahafamncaaGreatDoor
