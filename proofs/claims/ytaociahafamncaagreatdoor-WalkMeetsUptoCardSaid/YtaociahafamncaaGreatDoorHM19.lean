/- Folded. -/
import Derived.Test.YtaociahafamncaaGreatDoorHM18
set_option maxRecDepth 100000
set_option maxHeartbeats 40000000
namespace Go.Proofs.YtaociahafamncaaGreatDoor
section
open Go.RowKit
structure Plain{σ:Type}[DecidableEq σ](W:Bfs σ):Prop where
 eqv:∀z y,W.eqv z y=decide (z=y)
 rep:∀x,W.rep x=x
section
variable {σ:Type} [DecidableEq σ]{W:Bfs σ}
def ze2{σ:Type}[DecidableEq σ](y:σ)(met:List σ):Option Nat:=zai (fun z=>decide (z=y)) met
theorem Plain.find(h:Plain W)(y:σ)(met:List σ):zai (fun z=>W.eqv z y) met=ze2 y met:=by
 unfold ze2;congr 1
 funext z
 exact h.eqv z y
theorem Plain.refl(h:Plain W)(x:σ):W.eqv (W.rep x) x=true:=by rw[h.rep,h.eqv];simp
theorem zm2{y:σ}{met more:List σ}{i:Nat}(h:ze2 y met=some i):ze2 y (met++more)=some i:=by
 unfold ze2 at h⊢;rw[zba,h]
theorem zwk{y:σ}{met:List σ}(h:ze2 y met=none):ze2 y (met++[y])=some met.length:=by
 unfold ze2 at h⊢;rw[zba,h];simp[zai]
theorem Plain.row_range(h:Plain W)(x:σ)(met:List σ)(b:Nat):∀m,(∀c,b≤c→c<b+(m+1)→W.step x c=W.step x b)→W.row x met (b+(m+1))=match W.step x b with
  |none=>W.row x met b
  |some y=>match ze2 y (W.row x met b)with
   |some _=>W.row x met b
   |none=>W.row x met b++[y]
 |
  0,_=>by
  show W.row x met (b+1)=_;rw[Bfs.row];cases hs:W.step x b with
  |none=>rfl
  |
   some y=>
   simp only
   rw[h.find,h.rep];cases ze2 y (W.row x met b)<;>rfl
 |
  m+1,hc=>by
  have ih:=h.row_range x met b m fun c h1 h2=>hc c h1 (by omega)
  show W.row x met (b+(m+1)+1)=_;rw[Bfs.row,hc (b+(m+1)) (by omega) (by omega),ih];cases hs:W.step x b with
  |none=>rfl
  |
   some y=>
   simp only
   cases hf:ze2 y (W.row x met b)with
   |
    some i=>
    simp only
    rw[h.find,hf]
   |
    none=>
    simp only
    rw[h.find,zwk hf]
theorem Plain.row_has(h:Plain W)(x:σ)(met:List σ)(b:Nat){c:Nat}(hc:c<b){y:σ}(hy:W.step x c=some y):∃i,ze2 y (W.row x met b)=some i:=by
 obtain⟨z,hz,he⟩:=W.row_met h.refl x met b c hc y hy;rw[h.eqv,decide_eq_true_eq]at he;subst he;cases hf:ze2 z (W.row x met b)with
 |some i=>exact⟨i,rfl⟩
 |
  none=>
  have:=ze8.1 hf z hz;simp at this
theorem Plain.num(h:Plain W)(met:List σ)(x:σ)(c:Nat):W.num met x c=(W.step x c).bind fun y=>ze2 y met:=by
 unfold Bfs.num;cases W.step x c with
 |none=>rfl
 |some y=>exact h.find y met
theorem Plain.runs_range(h:Plain W)(x:σ)(met:List σ)(b m:Nat)(hc:∀c,b≤c→c<b+(m+1)→W.step x c=W.step x b){y:σ}(hy:W.step x b=some y){i:Nat}(hi:ze2 y (W.row x met (b+(m+1)))=some i):
  runs (W.num (W.row x met (b+(m+1))) x) (b+(m+1))=zbf (runs (W.num (W.row x met b) x) b) ((b:Int),((b+m:Nat):Int),(i:Int)):=by
 have hpre:∃more,W.row x met (b+(m+1))=W.row x met b++more:=by
  rw[h.row_range x met b m hc,hy];simp only
  split
  ·exact⟨[],by simp⟩
  ·exact⟨_,rfl⟩
 have e1:runs (W.num (W.row x met (b+(m+1))) x) b=runs (W.num (W.row x met b) x) b:=by
  refine zcc b fun c hcb=>?_
  rw[h.num,h.num];cases hs:W.step x c with
  |none=>rfl
  |
   some z=>
   obtain⟨j,hj⟩:=h.row_has x met b hcb hs;obtain⟨more,hm⟩:=hpre;simp only[Option.bind_some];rw[hm,zm2 hj,hj]
 rw[zle (W.num (W.row x met (b+(m+1))) x) b i m fun c h1 h2=>by rw[h.num,hc c h1 h2,hy];exact hi,e1]
theorem Plain.runs_skip(h:Plain W)(x:σ)(met:List σ)(b m:Nat)(hc:∀c,b≤c→c<b+(m+1)→W.step x c=W.step x b)(hy:W.step x b=none):
  W.row x met (b+(m+1))=W.row x met b∧runs (W.num (W.row x met (b+(m+1))) x) (b+(m+1))=runs (W.num (W.row x met b) x) b:=by
 have e1:W.row x met (b+(m+1))=W.row x met b:=by rw[h.row_range x met b m hc,hy]
 rw[e1];refine⟨rfl,zk3 _ b (m+1) fun c h1 h2=>?_⟩;rw[h.num,hc c h1 h2,hy];rfl
structure MadeP(W:Bfs σ)(fin fin0:σ→Bool)(x0:σ)(i:Nat)(met:List σ)(ds:List St):Prop where
 run:met=W.run i 0 [x0]
 le:i≤met.length
 out_:ds=((met.take i).map fun x=>((fin x,runs (W.num met x) 256):St))++(met.drop i).map fun x=>(fin0 x,[])
 has:∀(j:Nat) x,j<i→met[j]? =some x→∀c y,c<256→W.step x c=some y→∃q,ze2 y met=some q
theorem MadeP.start(W:Bfs σ)(fin fin0:σ→Bool)(x0:σ):MadeP W fin fin0 x0 0 [x0] [(fin0 x0,[])]:=⟨rfl,Nat.zero_le _,rfl,fun _ _ hj=>absurd hj (Nat.not_lt_zero _)⟩
structure MidP(W:Bfs σ)(fin fin0:σ→Bool)(x0:σ)(i:Nat)(met:List σ)(x:σ)(b:Nat)(met1:List σ)(arcs:List Arc3)(fc:Bool)(ds:List St):Prop where
 got:met[i]? =some x
 row:met1=W.row x met b
 arcs_:arcs=runs (W.num met1 x) b
 out_:ds=((met.take i).map fun x=>((fin x,runs (W.num met x) 256):St))++(fc,[])::(met1.drop (i+1)).map fun x=>(fin0 x,[])
theorem MadeP.enter{fin fin0:σ→Bool}{x0 x:σ}{i:Nat}{met:List σ}{ds:List St}(h:MadeP W fin fin0 x0 i met ds)(hx:met[i]? =some x):MidP W fin fin0 x0 i met x 0 met [] (fin0 x) ds:=by
 refine⟨hx,rfl,rfl,?_⟩;rw[h.out_];congr 1
 obtain⟨h1,h2⟩:=List.getElem?_eq_some_iff.1 hx;rw[List.drop_eq_getElem_cons h1,h2,List.map_cons]
end
theorem MidP.fin{σ:Type}{W:Bfs σ}{fin fin0:σ→Bool}{x0 x:σ}{i b:Nat}{met met1:List σ}{arcs:List Arc3}{fc:Bool}{ds:List St}(h:MidP W fin fin0 x0 i met x b met1 arcs fc ds)(hi:i≤met.length)(fc':Bool):MidP W fin fin0 x0 i met x b met1 arcs fc' (ds.set i (fc',[])):=by
 refine⟨h.got,h.row,h.arcs_,?_⟩;rw[h.out_,List.set_append_right _ _ (by rw[List.length_map,List.length_take];omega),List.length_map,List.length_take,Nat.min_eq_left hi,Nat.sub_self];rfl
section
variable {σ:Type} [DecidableEq σ]{W:Bfs σ}
theorem MidP.skip{fin fin0:σ→Bool}{x0 x:σ}{i b m:Nat}{met met1:List σ}{arcs:List Arc3}{fc:Bool}{ds:List St}(hW:Plain W)(h:MidP W fin fin0 x0 i met x b met1 arcs fc ds)(hc:∀c,b≤c→c<b+(m+1)→W.step x c=W.step x b)(hy:W.step x b=none):MidP W fin fin0 x0 i met x (b+(m+1)) met1 arcs fc ds:=by
 obtain⟨e1,e2⟩:=hW.runs_skip x met b m hc hy;refine⟨h.got,by rw[e1];exact h.row,?_,h.out_⟩;rw[h.arcs_,h.row,←e2,e1]
theorem MidP.old{fin fin0:σ→Bool}{x0 x y:σ}{i b m q:Nat}{met met1:List σ}{arcs:List Arc3}{fc:Bool}{ds:List St}(hW:Plain W)(h:MidP W fin fin0 x0 i met x b met1 arcs fc ds)(hc:∀c,b≤c→c<b+(m+1)→W.step x c=W.step x b)(hy:W.step x b=some y)(hq:ze2 y met1=some q):MidP W fin fin0 x0 i met x (b+(m+1)) met1 (zbf arcs ((b:Int),((b+m:Nat):Int),(q:Int))) fc ds:=by
 have e1:W.row x met (b+(m+1))=met1:=by
  rw[hW.row_range x met b m hc,hy];simp only
  rw[←h.row,hq]
 refine⟨h.got,e1.symm,?_,h.out_⟩;have e2:=hW.runs_range x met b m hc hy (i:=q) (by rw[e1];exact hq);rw[e1,←h.row,←h.arcs_]at e2;exact e2.symm
theorem MidP.new{fin fin0:σ→Bool}{x0 x y:σ}{i b m:Nat}{met met1:List σ}{arcs:List Arc3}{fc:Bool}{ds:List St}(hW:Plain W)(h:MidP W fin fin0 x0 i met x b met1 arcs fc ds)(hc:∀c,b≤c→c<b+(m+1)→W.step x c=W.step x b)(hy:W.step x b=some y)(hq:ze2 y met1=none):MidP W fin fin0 x0 i met x (b+(m+1)) (met1++[y]) (zbf arcs ((b:Int),((b+m:Nat):Int),(met1.length:Int))) fc (ds++[(fin0 y,[])]):=by
 have e1:W.row x met (b+(m+1))=met1++[y]:=by
  rw[hW.row_range x met b m hc,hy];simp only
  rw[←h.row,hq]
 have hil:=(List.getElem?_eq_some_iff.1 h.got).1;have hle:i+1≤met1.length:=by
  obtain⟨more,hm⟩:=W.row_pre x met b;rw[h.row,hm,List.length_append];omega
 refine⟨h.got,e1.symm,?_,?_⟩
 ·have e2:=hW.runs_range x met b m hc hy (i:=met1.length) (by rw[e1];exact zwk hq);rw[e1,←h.row,←h.arcs_]at e2;exact e2.symm
 ·rw[h.out_,List.drop_append_of_le_length hle,List.map_append];simp
theorem MidP.leave{fin fin0:σ→Bool}{x0 x:σ}{i:Nat}{met met1:List σ}{arcs:List Arc3}{ds ds0:List St}(hW:Plain W)(h0:MadeP W fin fin0 x0 i met ds0)(h:MidP W fin fin0 x0 i met x 256 met1 arcs (fin x) ds):MadeP W fin fin0 x0 (i+1) met1 (ds.set i (fin x,arcs)):=by
 obtain⟨more,hm⟩:=W.row_pre x met 256;have hil:=(List.getElem?_eq_some_iff.1 h.got).1;rw[←h.row]at hm;refine⟨?_,by rw[hm,List.length_append];omega,?_,fun j y hj hy c z hcz hs=>?_⟩
 ·rw[h.row,Bfs.run_succ,Nat.zero_add,←h0.run,h.got]
 ·rw[h.out_,List.set_append_right _ _ (by rw[List.length_map,List.length_take];omega),List.length_map,List.length_take,Nat.min_eq_left h0.le,Nat.sub_self,List.set_cons_zero];have htake:met1.take (i+1)=met.take i++[x]:=by
   rw[hm,List.take_append_of_le_length (by omega),List.take_add_one,h.got];rfl
  rw[htake,List.map_append,List.append_assoc];have e1:((met.take i).map fun x=>((fin x,runs (W.num met x) 256):St))=(met.take i).map fun x=>((fin x,runs (W.num met1 x) 256):St):=by
   refine List.map_congr_left fun y hy=>?_
   obtain⟨j,hj⟩:=List.mem_iff_getElem?.1 hy;rw[List.getElem?_take]at hj;split at hj
   ·rename_i hji
    have:runs (W.num met y) 256=runs (W.num met1 y) 256:=by
     refine zcc 256 fun c hc=>?_
     rw[hW.num,hW.num];cases hs:W.step y c with
     |none=>rfl
     |
      some z=>
      obtain⟨q,hq⟩:=h0.has j y hji hj c z hc hs;simp only[Option.bind_some];rw[hm,zm2 hq,hq]
    rw[this]
   ·cases hj
  rw[e1,h.arcs_];rfl
 ·by_cases hji:j<i
  ·rw[hm,List.getElem?_append_left (by omega)]at hy;obtain⟨q,hq⟩:=h0.has j y hji hy c z hcz hs;rw[hm];exact⟨q,zm2 hq⟩
  ·obtain rfl:j=i:=by omega
   rw[hm,List.getElem?_append_left hil,h.got]at hy;injection hy with hy
   subst hy;have:=hW.row_has x met 256 hcz hs;rw[←h.row]at this;exact this
end
theorem zFi{σ:Type}(W:Bfs σ)(x0:σ)(f:Nat):∀k,(W.run f 0 [x0]).length≤(W.run (f+k) 0 [x0]).length
 |0=>Nat.le_refl _
 |
  k+1=>by
  refine Nat.le_trans (zFi W x0 f k) ?_;rw[←Nat.add_assoc,W.run_succ];split
  ·rename_i x _
   obtain⟨more,hm⟩:=W.row_pre x (W.run (f+k) 0 [x0]) 256;rw[hm,List.length_append];omega
  ·exact Nat.le_refl _
section
variable {σ:Type} [DecidableEq σ]{W:Bfs σ}
theorem MadeP.last{fin fin0:σ→Bool}{x0:σ}{i:Nat}{met:List σ}{ds:List St}(hW:Plain W)(h:MadeP W fin fin0 x0 i met ds)(hi:i=met.length):ds=W.out fin met∧(∀x∈met,W.Met met x)∧∀f,(W.run f 0 [x0]).length≤met.length:=by
 subst hi;refine⟨?_,fun x hx c hc y hy=>?_,fun f=>?_⟩
 ·have:=h.out_;rw[List.take_length,List.drop_length]at this;rw[this];show _++[]=_;rw[List.append_nil];rfl
 ·obtain⟨j,hj⟩:=List.mem_iff_getElem?.1 hx;obtain⟨q,hq⟩:=h.has j x (List.getElem?_eq_some_iff.1 hj).1 hj c y hc hy;obtain⟨z,hz,he⟩:=ze7 hq;have he:=of_decide_eq_true he;subst he;exact⟨z,List.mem_of_getElem? hz,by rw[hW.eqv];simp⟩
 ·rcases Nat.le_total f met.length with hf|hf
  ·obtain⟨k,hk⟩:∃k,met.length=f+k:=⟨met.length-f,by omega⟩;have h1:=zFi W x0 f k;rw[←hk]at h1;exact Nat.le_trans h1 (by rw[←h.run];exact Nat.le_refl _)
  ·obtain⟨k,rfl⟩:∃k,f=met.length+k:=⟨f-met.length,by omega⟩;have h1:=W.run_end (f:=met.length) (i:=0) (met:=[x0]) (by rw[Nat.zero_add,←h.run,List.getElem?_eq_none_iff];exact Nat.le_refl _) k;rw[h1,←h.run];exact Nat.le_refl _
end
end
section
open Go.RowKit
theorem za7(w:World)(a:Addr)(u:Value):w.grownBy (w.setCell a u) (some a.block):=
 ⟨rfl,rfl,rfl,by simp[World.setCell],fun k _ hk=>Below.heap_setCell _ _ _ k (fun e=>hk (by rw[e]))⟩
theorem blk_set{w:World}{b j:Nat}{C:Array Value}{t:TypeId}{f:Nat×Nat}(h:w.heap[b]? =some (.cells C t f))(v:Value):(w.setCell ⟨b,j,none⟩ v).heap[b]? =some (.cells (C.setIfInBounds j v) t f):=by
 simp[World.setCell,Array.getElem?_modify,h]
theorem grown_through{a b c:World}{row:Option Nat}(hb:Below a.heap.size a b)(hg:b.grownBy c row):a.grownBy c row:=
 ⟨hg.os.trans hb.os,hg.tape.trans hb.tape,hg.output.trans hb.output,Nat.le_trans hb.size hg.size,fun k hk h=>(hg.block k (Nat.lt_of_lt_of_le hk hb.size) h).trans (hb.block k hk)⟩
theorem zc4{P:Program}{ops:Array Oper}{o:Oper}{a:Act}{K:Act→World→Prop}{Q:Exit→Act→World→Prop}{E:Prop}(wx:World)(cs:Array Value)(hgd:o.guard=none)(s x:Operand)(t:TypeId)
  (ho:o.op=.call {callee:=.builtin .append,args:= #[s,x],argTypes:= #[t,t]})
  {base e size bytes:Nat} (he:Elem P t e size bytes) (v:Value) (n:Nat) (xs:List Value) (hs:a.eval s=v) (hown:wx.ownsRow base e size v n xs)
  {nb m:Nat} (hx:a.eval x=.slice (some ⟨nb,0,none⟩) m m) (hxc:wx.heap[nb]? =some (.cells cs e (0,0)))
  (hl:cs.size=m*size) (h1:∀u∈cs.toList,u.oneCell'=true) (hm:0<m)
  (h63:n+m≤maxLen) (hbytes:(n+m)*bytes≤140737488355328) (hbase:base≤wx.heap.size)
  (h:∀g cap w',w'.ownsRow base e size (.slice (some ⟨g,0,none⟩) (n+m) cap) (n+m) (xs++cs.toList)→wx.grownBy w' v.ownBlock→(v.ownBlock=some g∨wx.heap.size≤g)→K (a.put o.dst (.slice (some ⟨g,0,none⟩) (n+m) cap)) w'):
  if Region.wanted o (yielded ops a.tmps)=true then Oper.wp P o a wx K Q else E:=by
 obtain⟨ht,i,z,hi,hz,hsz,hby,hzs,hpos⟩:=he;refine step_append_lies wx hgd s x t ho base e i z size bytes ht hi hz hsz hby hzs hpos v n xs hs hown ⟨nb,0,none⟩ m m cs.toList hx (by simpa using hl) ?_ h1 hm h63 hbytes hbase _ rfl ?_
 ·intro j u hu
  rw[Addr.add_lit,Nat.zero_add,cell_of_row _ nb j cs e (0,0) hxc];simpa using hu
 ·intro g cap w' h2 h3 h4 _
  exact h g cap w' h2 h3 (h4.elim .inl fun e=>.inr (by omega))
theorem own_lower{w:World}{b b' e s n:Nat}{v:Value}{xs:List Value}(h:w.ownsRow b e s v n xs)(hb:b'≤b):w.ownsRow b' e s v n xs:=by
 refine⟨h.1,?_⟩;rcases h.2 with hn|⟨g,cap,cur,rfl,hg,rest⟩
 ·exact .inl hn
 ·exact .inr ⟨g,cap,cur,rfl,by omega,rest⟩
theorem own_set{w:World}{b e s n k j:Nat}{v u:Value}{xs:List Value}(h:w.ownsRow b e s v n xs)(hb:k<b):(w.setCell ⟨k,j,none⟩ u).ownsRow b e s v n xs:=by
 refine h.kept (za7 _ _ _) ?_;cases hv:v.ownBlock with
 |none=>exact .inl rfl
 |
  some g=>
  refine .inr fun e=>?_
  injection e with e
  have:=(h.lt g hv).1;simp at e
  omega
theorem below_set{w w':World}{B k j:Nat}{u:Value}(h:Below B w w')(hk:B≤k)(hB:B≤w.heap.size):Below B w (w'.setCell ⟨k,j,none⟩ u):=h.grown (za7 _ _ _) (Nat.le_trans hB h.size) (fun q hq=>by injection hq with hq;simp at hq;omega)
theorem free_at{w:World}{b:Nat}{C:Array Value}{t:TypeId}(h:w.heap[b]? =some (.cells C t (0,0)))(j:Nat):w.frozen? ⟨b,j,none⟩=false:=by simp[World.frozen?,h]
theorem zf0{W:World}{base e s n c g j:Nat}{u:Value}{xs:List Value}(h:W.ownsRow base e s (.slice (some ⟨g,0,none⟩) n c) n xs):(W.setCell ⟨g,j,none⟩ u).ownsRow base e s (.slice (some ⟨g,0,none⟩) n c) n (xs.set j u):=by
 obtain⟨h0,h⟩:=h;refine⟨by rw[List.length_set];exact h0,?_⟩;rcases h with⟨hv,_⟩|⟨g',cap,cur,hv,hb,hg,h1,h2,h3,h4⟩
 ·cases hv
 ·injection hv with hv1 _ hv3
  injection hv1 with hv1
  injection hv1 with hv1 _ _
  subst hv1 hv3;refine .inr ⟨g,c,_,rfl,hb,blk_set hg u,h1,h2,by simpa using h3,?_⟩;rw[←h4,Array.toList_setIfInBounds,List.take_set]
end
section
open Go.RowKit
theorem zhi:Elem Tryz.prog 72 76 3 24:=Elem.mk_ Tryz.underlying72 (z:=.agg #[.int .i64 0,.int .i64 0,.int .i64 0]) (by kernel_rfl) rfl (by omega)
def zFd(w:World)(base:Nat)(v:Value)(l:List Arc3):Ending→World→Prop:=fun e w'=>∃v',e=.returned v'∧w'.ownsRow base 76 3 v' l.length (zaa l)∧w.grownBy w' v.ownBlock∧(v'.ownBlock=v.ownBlock∨∃g,v'.ownBlock=some g∧w.heap.size≤g)
theorem zn6(w:World)(base:Nat)(hbase:base≤w.heap.size)(A:Option Addr)(n c:Nat)(l:List Arc3)(hown:w.ownsRow base 76 3 (.slice A n c) n (zaa l))(hn:n≤1099511627776)(lo hi tt:Int)(hlo:0≤lo∧lo≤256)(hh:∀a∈l,0≤a.2.1∧a.2.1≤256):
  Calls Tryz.prog 32 #[.slice A n c,.agg #[.int .i64 lo,.int .i64 hi,.int .i64 tt]] w (zFd w base (.slice A n c) (zbf l (lo,hi,tt))):=by
 have hll:l.length=n:=by have:=hown.1;rw[zl8]at this;omega
 have HO:=Lib.hid hown;have HBW:Hid (Below base w (w.alloc (.cells #[.int .i64 lo,.int .i64 hi,.int .i64 tt] 76))):=(Below.refl _ _).alloc hbase _;have HO1:=Lib.hid (za2 hown (bnew (za0 w) (.cells #[.int .i64 lo,.int .i64 hi,.int .i64 tt] 76)));have HGA:Hid (w.grownBy (w.alloc (.cells #[.int .i64 lo,.int .i64 hi,.int .i64 tt] 76)) (Value.slice A n c).ownBlock):=World.grownBy_alloc w _ _;have hblk:=heap_alloc_new w (.cells #[.int .i64 lo,.int .i64 hi,.int .i64 tt] 76);have e0:(w.alloc (.cells #[.int .i64 lo,.int .i64 hi,.int .i64 tt] 76)).cell? ⟨w.heap.size,0,none⟩=some (.int .i64 lo):=cell_of_row _ w.heap.size 0 _ _ (0,0) hblk;have e1:(w.alloc (.cells #[.int .i64 lo,.int .i64 hi,.int .i64 tt] 76)).cell? ⟨w.heap.size,1,none⟩=some (.int .i64 hi):=cell_of_row _ w.heap.size 1 _ _ (0,0) hblk;have e2:(w.alloc (.cells #[.int .i64 lo,.int .i64 hi,.int .i64 tt] 76)).cell? ⟨w.heap.size,2,none⟩=some (.int .i64 tt):=cell_of_row _ w.heap.size 2 _ _ (0,0) hblk;obtain⟨hlo0,hlo1⟩:=hlo;by_cases h0:n=0
 ·subst h0;have hl0:l=[]:=List.eq_nil_of_length_eq_zero hll;have HJ:Hid ((zbf l (lo,hi,tt)).length=0+1∧zaa (zbf l (lo,hi,tt))=zaa l++[.int .i64 lo,.int .i64 hi,.int .i64 tt]):=by
   rw[hl0];exact⟨rfl,rfl⟩
  clear hh hl0 hown hblk hll;go_enter Tryz.func32,Tryz.ntmps32
  go_wp2_with fail;generalize w.alloc (.cells #[.int .i64 lo,.int .i64 hi,.int .i64 tt] 76)=W1 at*;go_region
  have HO2:Hid (W1.drew.ownsRow base 76 3 (.slice A 0 c) 0 (zaa l)):=HO1.out;have HGA2:Hid (w.grownBy W1.drew (Value.slice A 0 c).ownBlock):=⟨HGA.out.os,HGA.out.tape,HGA.out.output,HGA.out.size,HGA.out.block⟩;have HBW2:Hid (Below base w W1.drew):=Below.drew HBW.out;have d0:W1.drew.cell? ⟨w.heap.size,0,none⟩=some (.int .i64 lo):=e0;have d1:W1.drew.cell? ⟨w.heap.size,1,none⟩=some (.int .i64 hi):=e1;have d2:W1.drew.cell? ⟨w.heap.size,2,none⟩=some (.int .i64 tt):=e2;generalize W1.drew=W2 at*;clear e0 e1 e2;go_wp2_with (at_builtin;refine zab w W2 _ rfl _ _ _ rfl zhi _ _ _ rfl HO2.out rfl (by simp) rfl (by simp[Value.oneCell']) (by unfold maxLen;omega) (by omega) (Nat.le_trans hbase HBW2.out.size) HBW2.out ?_;intro v9 w9 hown9 _ hg9 hor9;have HO9:=Lib.hid hown9;have HG9:=Lib.hid hg9;have HR9:=Lib.hid hor9;clear hown9 hg9 hor9)
  go_ret;exact⟨v9,rfl,by rw[HJ.out.1,HJ.out.2];exact HO9.out,HGA2.out.trans HG9.out,HR9.out.imp id fun⟨g,h1,h2⟩=>⟨g,h1,Nat.le_trans HBW2.out.size h2⟩⟩
 obtain⟨m,b,rfl⟩:∃m b,l=m++[b]:=⟨l.dropLast,l.getLast (by intro e;rw[e]at hll;exact h0 hll.symm),(List.dropLast_concat_getLast _).symm⟩;rw[List.length_append,List.length_singleton]at hll;have hb:=hh b (by simp);obtain⟨k,hk⟩:∃k,m.length=k:=⟨_,rfl⟩;have hidx:(n:Int)-1=(k:Int):=by omega
 obtain⟨g,rfl,hbg,hgl⟩:=zah HO1.out (by omega);have hcell:∀j u,(arcC b)[j]? =some u→j<3→(w.alloc (.cells #[.int .i64 lo,.int .i64 hi,.int .i64 tt] 76)).cell? ⟨g,k*3+j,none⟩=some u:=fun j u hu hj=>by
  have:=HO1.out.cells (g:=g) rfl (k*3+j) u (by unfold zaa;rw[zc7 arcC 3 (fun _=>rfl) (m++[b]) k j b (by rw[←hk];simp) hj];exact hu);rwa[Addr.add_lit,Nat.zero_add]at this
 have f1:=hcell 1 _ rfl (by omega);have f2:=hcell 2 _ rfl (by omega);have hfr:(w.alloc (.cells #[.int .i64 lo,.int .i64 hi,.int .i64 tt] 76)).frozen? ⟨g,k*3+1,none⟩=false:=by
  rcases HO1.out.2 with⟨hv,_⟩|⟨g',cap,cur,hv,_,hg,_⟩
  ·cases hv
  ·injection hv with hv _ _
   injection hv with hv
   injection hv with hv _ _
   subst hv;exact free_at hg _
 have i0:(0:Int)≤(k:Int):=by omega
 have i1:(k:Int)<(n:Int):=by omega
 have q0:decide ((k:Int)≥0)=true:=decide_eq_true (by omega);have HLAST:(m++[b]).getLast? =some b:=by simp
 obtain⟨blo,bhi,bto⟩:=b;simp only at hb hcell f1 f2 HLAST;have hwr:IntKind.i64.wrap (bhi+1)=bhi+1:=IntWalk.i64_in _ (by omega);clear hown hblk hh hcell;by_cases hj:bto=tt∧bhi+1=lo
 ·have HJ:Hid (zbf (m++[(blo,bhi,bto)]) (lo,hi,tt)=m++[(blo,hi,bto)]):=by
   show _=_;unfold zbf;rw[HLAST];simp only
   rw[if_pos hj,List.dropLast_concat]
  have q1:(bto==tt)=true:=by simpa using hj.1
  have q2:(bhi+1==lo)=true:=by simpa using hj.2
  have HSET:Hid (((w.alloc (.cells #[.int .i64 lo,.int .i64 hi,.int .i64 tt] 76)).setCell ⟨g,k*3+1,none⟩ (.int .i64 hi)).ownsRow base 76 3 (.slice (some ⟨g,0,none⟩) n c) n (zaa (m++[(blo,hi,bto)]))):=by
   have h1:=zf0 (j:=k*3+1) (u:=.int .i64 hi) HO1.out;have h2:(zaa (m++[(blo,bhi,bto)])).set (k*3+1) (.int .i64 hi)=zaa (m++[(blo,hi,bto)]):=by
    rw[zge,zge,List.set_append,if_neg (by rw[zl8];omega),zl8,hk,Nat.add_sub_cancel_left];rfl
   rw[h2]at h1;exact h1
  have HLN:Hid ((m++[(blo,hi,bto)]).length=n):=by show _=_;rw[List.length_append,List.length_singleton];omega
  have HGS:Hid (w.grownBy ((w.alloc (.cells #[.int .i64 lo,.int .i64 hi,.int .i64 tt] 76)).setCell ⟨g,k*3+1,none⟩ (.int .i64 hi)) (Value.slice (some ⟨g,0,none⟩) n c).ownBlock):=HGA.out.trans (za7 _ ⟨g,k*3+1,none⟩ _);clear hj HLAST hll hk;go_enter Tryz.func32,Tryz.ntmps32
  go_wp2_with fail;generalize w.alloc (.cells #[.int .i64 lo,.int .i64 hi,.int .i64 tt] 76)=W1 at*;go_region
  all_goals
   go_wp2_with fail;go_ret;exact⟨_,rfl,by rw[HJ.out,HLN.out];exact HSET.out,⟨HGS.out.os,HGS.out.tape,HGS.out.output,HGS.out.size,HGS.out.block⟩,.inl rfl⟩
 ·have HJ:Hid ((zbf (m++[(blo,bhi,bto)]) (lo,hi,tt)).length=n+1∧zaa (zbf (m++[(blo,bhi,bto)]) (lo,hi,tt))=zaa (m++[(blo,bhi,bto)])++[.int .i64 lo,.int .i64 hi,.int .i64 tt]):=by
   have e:zbf (m++[(blo,bhi,bto)]) (lo,hi,tt)=m++[(blo,bhi,bto)]++[(lo,hi,tt)]:=by
    unfold zbf;rw[HLAST];simp only
    rw[if_neg hj]
   rw[e,zge];exact⟨by rw[List.length_append,List.length_append];simp only[List.length_singleton];omega,rfl⟩
  by_cases hj1:bto=tt
  ·have q1:(bto==tt)=true:=by simpa using hj1
   have q2:(bhi+1==lo)=false:=by simpa using fun e=>hj ⟨hj1,e⟩
   clear hj HLAST hll hk hj1 hfr;go_enter Tryz.func32,Tryz.ntmps32
   go_wp2_with fail;generalize w.alloc (.cells #[.int .i64 lo,.int .i64 hi,.int .i64 tt] 76)=W1 at*;go_region
   have HO2:Hid (W1.drew.ownsRow base 76 3 (.slice (some ⟨g,0,none⟩) n c) n (zaa (m++[(blo,bhi,bto)]))):=HO1.out;have HGA2:Hid (w.grownBy W1.drew (Value.slice (some ⟨g,0,none⟩) n c).ownBlock):=⟨HGA.out.os,HGA.out.tape,HGA.out.output,HGA.out.size,HGA.out.block⟩;have HBW2:Hid (Below base w W1.drew):=Below.drew HBW.out;have d0:W1.drew.cell? ⟨w.heap.size,0,none⟩=some (.int .i64 lo):=e0;have d1:W1.drew.cell? ⟨w.heap.size,1,none⟩=some (.int .i64 hi):=e1;have d2:W1.drew.cell? ⟨w.heap.size,2,none⟩=some (.int .i64 tt):=e2;generalize W1.drew=W2 at*;clear e0 f1 f2 e1 e2;go_wp2_with (at_builtin;refine zab w W2 _ rfl _ _ _ rfl zhi _ _ _ rfl HO2.out rfl (by simp) rfl (by simp[Value.oneCell']) (by unfold maxLen;omega) (by omega) (Nat.le_trans hbase HBW2.out.size) HBW2.out ?_;intro v9 w9 hown9 _ hg9 hor9;have HO9:=Lib.hid hown9;have HG9:=Lib.hid hg9;have HR9:=Lib.hid hor9;clear hown9 hg9 hor9)
   go_ret;exact⟨v9,rfl,by rw[HJ.out.1,HJ.out.2];exact HO9.out,HGA2.out.trans HG9.out,HR9.out.imp id fun⟨g,h1,h2⟩=>⟨g,h1,Nat.le_trans HBW2.out.size h2⟩⟩
  ·have q1:(bto==tt)=false:=by simpa using hj1
   clear hj HLAST hll hk hj1 hfr;go_enter Tryz.func32,Tryz.ntmps32
   go_wp2_with fail;generalize w.alloc (.cells #[.int .i64 lo,.int .i64 hi,.int .i64 tt] 76)=W1 at*;go_region
   have HO2:Hid (W1.drew.ownsRow base 76 3 (.slice (some ⟨g,0,none⟩) n c) n (zaa (m++[(blo,bhi,bto)]))):=HO1.out;have HGA2:Hid (w.grownBy W1.drew (Value.slice (some ⟨g,0,none⟩) n c).ownBlock):=⟨HGA.out.os,HGA.out.tape,HGA.out.output,HGA.out.size,HGA.out.block⟩;have HBW2:Hid (Below base w W1.drew):=Below.drew HBW.out;have d0:W1.drew.cell? ⟨w.heap.size,0,none⟩=some (.int .i64 lo):=e0;have d1:W1.drew.cell? ⟨w.heap.size,1,none⟩=some (.int .i64 hi):=e1;have d2:W1.drew.cell? ⟨w.heap.size,2,none⟩=some (.int .i64 tt):=e2;generalize W1.drew=W2 at*;clear e0 f1 f2 e1 e2;go_wp2_with (at_builtin;refine zab w W2 _ rfl _ _ _ rfl zhi _ _ _ rfl HO2.out rfl (by simp) rfl (by simp[Value.oneCell']) (by unfold maxLen;omega) (by omega) (Nat.le_trans hbase HBW2.out.size) HBW2.out ?_;intro v9 w9 hown9 _ hg9 hor9;have HO9:=Lib.hid hown9;have HG9:=Lib.hid hg9;have HR9:=Lib.hid hor9;clear hown9 hg9 hor9)
   go_ret;exact⟨v9,rfl,by rw[HJ.out.1,HJ.out.2];exact HO9.out,HGA2.out.trans HG9.out,HR9.out.imp id fun⟨g,h1,h2⟩=>⟨g,h1,Nat.le_trans HBW2.out.size h2⟩⟩
end
section
open Go.RowKit
structure ArcsIn(w:World)(B:Nat)(A:Option Addr)(m c:Nat)(l:List Arc3):Prop where
 len:l.length=m
 sl:Sl w B 3 A m (zaa l)
 cm:m≤140737488355328
theorem ArcsIn.keep{w w':World}{B B' m c:Nat}{A:Option Addr}{l:List Arc3}(h:ArcsIn w B A m c l)(hb:Below B w w')(hB:B≤B'):ArcsIn w' B' A m c l:=⟨h.len,(h.sl.below hb).more hB,h.cm⟩
theorem ArcsIn.at_{w:World}{B m c:Nat}{A:Option Addr}{l:List Arc3}(h:ArcsIn w B A m c l)(hn:0<m):∃b off,A=some ⟨b,off,none⟩∧b<B∧∀k a,l[k]? =some a→w.cell? ⟨b,off+k*3,none⟩=some (.int .i64 a.1)∧w.cell? ⟨b,off+k*3+1,none⟩=some (.int .i64 a.2.1)∧w.cell? ⟨b,off+k*3+2,none⟩=some (.int .i64 a.2.2):=by
 obtain⟨b,off,hA,hb,hc⟩:=h.sl.at_ hn;refine⟨b,off,hA,hb,fun k e he=>?_⟩;have g:∀j u,(arcC e)[j]? =some u→j<3→w.cell? ⟨b,off+(k*3+j),none⟩=some u:=fun j u hu hj=>
  hc _ _ (by unfold zaa;rw[zc7 arcC 3 (fun _=>rfl) l k j e he hj];exact hu)
 exact⟨g 0 _ rfl (by omega),by have:=g 1 _ rfl (by omega);rwa[←Nat.add_assoc]at this,by have:=g 2 _ rfl (by omega);rwa[←Nat.add_assoc]at this⟩
def zxb(w:World)(B:Nat)(A:Option Addr)(n:Nat)(L:List Bool):Prop:=L.length=n∧Sl w B 1 A n (L.map .bool)
def Ints(w:World)(B:Nat)(A:Option Addr)(n:Nat)(L:List Int):Prop:=L.length=n∧Sl w B 1 A n (L.map (.int .i64))
theorem zxb.at_{w:World}{B n:Nat}{A:Option Addr}{L:List Bool}(h:zxb w B A n L)(hn:0<n):∃b off,A=some ⟨b,off,none⟩∧b<B∧∀k x,L[k]? =some x→w.cell? ⟨b,off+k,none⟩=some (.bool x):=by
 obtain⟨b,off,hA,hb,hc⟩:=h.2.at_ hn;exact⟨b,off,hA,hb,fun k x hx=>hc k _ (by rw[List.getElem?_map,hx];rfl)⟩
theorem Ints.at_{w:World}{B n:Nat}{A:Option Addr}{L:List Int}(h:Ints w B A n L)(hn:0<n):∃b off,A=some ⟨b,off,none⟩∧b<B∧∀k x,L[k]? =some x→w.cell? ⟨b,off+k,none⟩=some (.int .i64 x):=by
 obtain⟨b,off,hA,hb,hc⟩:=h.2.at_ hn;exact⟨b,off,hA,hb,fun k x hx=>hc k _ (by rw[List.getElem?_map,hx];rfl)⟩
theorem zxb.keep{w w':World}{B B' n:Nat}{A:Option Addr}{L:List Bool}(h:zxb w B A n L)(hb:Below B w w')(hB:B≤B'):zxb w' B' A n L:=⟨h.1,(h.2.below hb).more hB⟩
theorem Ints.keep{w w':World}{B B' n:Nat}{A:Option Addr}{L:List Int}(h:Ints w B A n L)(hb:Below B w w')(hB:B≤B'):Ints w' B' A n L:=⟨h.1,(h.2.below hb).more hB⟩
def ledF(L:List Bool)(C:List Int)(t:Int):Option Nat:=if L.getD t.toNat false then some (C.getD t.toNat 0).toNat else none
theorem zp1(l:List Arc3)(a:Arc3):(zbf l a).length≤l.length+1:=by
 unfold zbf;split
 ·rename_i b hb
  split
  ·rw[List.length_append,List.length_dropLast,List.length_singleton];omega
  ·rw[List.length_append,List.length_singleton];exact Nat.le_refl _
 ·simp
theorem zn5(f:Int→Option Nat)(l:List Arc3):(ledA f l).length≤l.length:=by
 induction l using zhc with
 |h0=>exact Nat.le_refl _
 |
  h1 l a ih=>
  rw[zkh,List.length_append,List.length_singleton];split
  ·exact Nat.le_trans (zp1 _ _) (by omega)
  ·omega
theorem zu7{l:List Arc3}{a:Arc3}{P:Int→Prop}(h:∀b∈l,P b.2.1)(ha:P a.2.1):∀b∈zbf l a,P b.2.1:=by
 intro b hb
 unfold zbf at hb;split at hb
 ·split at hb
  ·rcases List.mem_append.1 hb with hb|hb
   ·exact h b (List.dropLast_subset _ hb)
   ·rw[List.mem_singleton.1 hb];exact ha
  ·rcases List.mem_append.1 hb with hb|hb
   ·exact h b hb
   ·rw[List.mem_singleton.1 hb];exact ha
 ·rw[List.mem_singleton.1 hb];exact ha
theorem zIb{f:Int→Option Nat}{P:Int→Prop}{l:List Arc3}(h:∀b∈l,P b.2.1):∀b∈ledA f l,P b.2.1:=by
 induction l using zhc with
 |h0=>intro b hb;cases hb
 |
  h1 l a ih=>
  rw[zkh];have hl:=ih fun b hb=>h b (List.mem_append_left _ hb)
  split
  ·exact zu7 hl (h a (by simp))
  ·exact hl
theorem zrg(w:World)(B:Nat)(hB:B≤w.heap.size)(A:Option Addr)(m c:Nat)(l:List Arc3)(h:ArcsIn w B A m c l)(hasc:Asc l 256)(hm:m≤1000000)
  (Al:Option Addr) (n cl:Nat) (L:List Bool) (hL:zxb w B Al n L) (Ac:Option Addr) (cc:Nat) (C:List Int) (hC:Ints w B Ac n C) (hto:∀a∈l,0≤a.2.2∧a.2.2<(n:Int)) (hcp:∀x∈C,0≤x):
  Calls Tryz.prog 69 #[.slice A m c,.slice Al n cl,.slice Ac n cc] w fun e w'=>∃v,e=.returned v∧w'.ownsRow w.heap.size 76 3 v (ledA (ledF L C) l).length (zaa (ledA (ledF L C) l))∧Below w.heap.size w w':=by
 have HA:=Lib.hid h;have HL:=Lib.hid hL;have HC:=Lib.hid hC;have HASC:=Lib.hid hasc;have HTO:=Lib.hid hto;have HCP:=Lib.hid hcp;have hlen:=h.len;clear h hL hC hasc hto hcp;go_enter Tryz.func69,Tryz.ntmps69
 go_wp2_with fail;go_loopw [7,12] (fun ov jv wr=>∃(j:Nat) (Ao:Option Addr) (p co:Nat) (acc:List Arc3),j≤m∧jv=.int .i64 j∧ov=.slice Ao p co∧Hid (acc=ledA (ledF L C) (l.take j)∧acc.length=p∧p≤m)∧Hid (wr.ownsRow w.heap.size 76 3 (.slice Ao p co) p (zaa acc))∧Hid (Below w.heap.size w wr)) (fun _ jv _=>m-(intOf jv).toNat)
 case atStart=>exact⟨0,none,0,0,[],Nat.zero_le _,rfl,rfl,⟨rfl,rfl,Nat.zero_le _⟩,⟨rfl,.inl ⟨rfl,rfl⟩⟩,za0 w⟩
 case round=>
  obtain⟨j,Ao,p,co,acc,hj,rfl,rfl,HACC,HO,HB⟩:=hrel;by_cases hjm:j<m
  ·have HWJ:=HA.out.keep (HB.out.mono hB) (Nat.le_refl _);obtain⟨ab,aoff,rfl,hab,hac⟩:=HWJ.at_ (by omega);obtain⟨a,ha⟩:∃a,l[j]? =some a:=⟨l[j]'(by omega),List.getElem?_eq_getElem _⟩;obtain⟨a0,a1,a2⟩:=hac j a ha;have habw:ab<wr.heap.size:=Nat.lt_of_lt_of_le hab (Nat.le_trans hB HB.out.size);have htake:l.take (j+1)=l.take j++[a]:=by rw[List.take_add_one,ha];rfl
   have hao:=HASC.out.ok a (List.mem_of_getElem? ha);have hat:=HTO.out a (List.mem_of_getElem? ha);obtain⟨lo,hi,tt⟩:=a;simp only at a0 a1 a2 hao hat
   obtain⟨tk,rfl⟩:=Int.eq_ofNat_of_zero_le hat.1;have htn:tk<n:=by omega
   obtain⟨lb,loff,rfl,hlb,hlc⟩:=(HL.out.keep (HB.out.mono hB) (Nat.le_refl _)).at_ (by omega);obtain⟨cb,coff,rfl,hcb,hcc⟩:=(HC.out.keep (HB.out.mono hB) (Nat.le_refl _)).at_ (by omega);obtain⟨lv,hlv⟩:∃x,L[tk]? =some x:=⟨L[tk]'(by have:=HL.out.1;omega),List.getElem?_eq_getElem _⟩;obtain⟨cv,hcv⟩:∃x,C[tk]? =some x:=⟨C[tk]'(by have:=HC.out.1;omega),List.getElem?_eq_getElem _⟩;have l0:=hlc tk lv hlv;have c0:=hcc tk cv hcv;have hlbw:lb<wr.heap.size:=Nat.lt_of_lt_of_le hlb (Nat.le_trans hB HB.out.size);have hcbw:cb<wr.heap.size:=Nat.lt_of_lt_of_le hcb (Nat.le_trans hB HB.out.size);have hcv0:=HCP.out cv (List.mem_of_getElem? hcv);obtain⟨ck,rfl⟩:=Int.eq_ofNat_of_zero_le hcv0;have hf:ledF L C ((tk:Nat):Int)=if lv then some ck else none:=by
    unfold ledF;rw[Int.toNat_natCast,List.getD_eq_getElem?_getD,List.getD_eq_getElem?_getD,hlv,hcv];rfl
   have HN:Hid (ledA (ledF L C) (l.take (j+1))=if lv then zbf acc (lo,hi,(ck:Int))else acc):=by
    show _=_;rw[htake,zkh,←HACC.out.1,hf];cases lv<;>rfl
   have i0:(0:Int)≤(tk:Int):=by omega
   have i1:(tk:Int)<(n:Int):=by omega
   have HB1:=Lib.hid (bnew HB.out (.cells #[.int .i64 lo,.int .i64 hi,.int .i64 (tk:Int)] 76));have HO1:=Lib.hid (za2 HO.out (bnew (za0 wr) (.cells #[.int .i64 lo,.int .i64 hi,.int .i64 (tk:Int)] 76)));obtain⟨hp,hpm⟩:=HACC.out.2;have hhi:∀b∈acc,0≤b.2.1∧b.2.1≤256:=by
    rw[HACC.out.1];exact zIb (P:=fun z=>0≤z∧z≤256) fun b hb=>by
     have:=HASC.out.ok b (List.mem_of_mem_take hb);omega
   have HHI:=Lib.hid hhi;clear hac ha htake hlc hcc hlv hcv hf hcv0 HWJ hhi;cases lv with
   |
    true=>
    have HJN:Hid (zbf acc (lo,hi,(ck:Int))=ledA (ledF L C) (l.take (j+1))∧(zbf acc (lo,hi,(ck:Int))).length≤m):=by
     have h1:zbf acc (lo,hi,(ck:Int))=ledA (ledF L C) (l.take (j+1)):=HN.out.symm;refine⟨h1,?_⟩;rw[h1];exact Nat.le_trans (zn5 _ _) (by rw[List.length_take];omega)
    go_wp2_with fail;have hxb:=heap_alloc_new wr (.cells #[.int .i64 lo,.int .i64 hi,.int .i64 (tk:Int)] 76);have hxs:(wr.alloc (.cells #[.int .i64 lo,.int .i64 hi,.int .i64 (tk:Int)] 76)).heap.size=wr.heap.size+1:=by simp
    have hlN:∀q,(Value.slice Ao p co).ownBlock=some q→q<wr.heap.size:=fun q hq=>(HO.out.lt q hq).2
    clear a0 a1 a2 l0 habw hlbw;generalize wr.alloc (.cells #[.int .i64 lo,.int .i64 hi,.int .i64 (tk:Int)] 76)=WX at*;generalize wr.heap.size=N at*;have hbx:w.heap.size≤WX.heap.size:=HB1.out.size;have hcbl:cb<w.heap.size:=Nat.lt_of_lt_of_le hcb hB;have hcx:WX.cell? ⟨cb,coff+tk,none⟩=some (.int .i64 (ck:Int)):=by
     have h1:=HB1.out.cell (p:=⟨cb,coff+tk,none⟩) hcbl;have h2:=HB.out.cell (p:=⟨cb,coff+tk,none⟩) hcbl;rw[h1,←h2];exact c0
    have HGX:Hid (∀w',WX.grownBy w' (Value.slice Ao p co).ownBlock→(w'.cell? ⟨N,0,none⟩=some (.int .i64 lo)∧w'.cell? ⟨N,1,none⟩=some (.int .i64 hi)∧w'.cell? ⟨N,2,none⟩=some (.int .i64 (tk:Int))∧w'.cell? ⟨cb,coff+tk,none⟩=some (.int .i64 (ck:Int)))∧Below w.heap.size w w'):=fun w' hg=>by
     have kb:=(hg.block N (by omega) (fun e=>by have:=hlN N e.symm;omega)).trans hxb;have hbb:=HB1.out.grown hg hbx fun q hq=>by have:=(HO1.out.lt q hq).1;omega
     have hc1:=(hbb.cell (p:=⟨cb,coff+tk,none⟩) hcbl);have hc2:=HB1.out.cell (p:=⟨cb,coff+tk,none⟩) hcbl;exact⟨⟨cell_of_row _ N 0 _ _ (0,0) kb,cell_of_row _ N 1 _ _ (0,0) kb,cell_of_row _ N 2 _ _ (0,0) kb,by rw[hc1,←hc2];exact hcx⟩,hbb⟩
    have K3:=Lib.hid (HGX.out WX ⟨rfl,rfl,rfl,Nat.le_refl _,fun _ _ _=>rfl⟩).1;clear hxb hxs hlN c0 hcx;go_region_held3 (fun w'=>w'.cell? ⟨N,0,none⟩=some (.int .i64 lo)∧w'.cell? ⟨N,1,none⟩=some (.int .i64 hi)∧w'.cell? ⟨N,2,none⟩=some (.int .i64 (tk:Int))∧w'.cell? ⟨cb,coff+tk,none⟩=some (.int .i64 (ck:Int)))
     (first
      |assumption
      |exact K3.out
      |exact HS7.out.1)
     (first|(go_at_call 32;refine(zn6 _ w.heap.size (by exact hbx) Ao p co acc (by exact HO1.out) (by omega) lo hi (ck:Int) ⟨by omega,by omega⟩ HHI.out).mono ?_;rintro e w7 ⟨v7,rfl,hown7,hg7,_⟩;have HO7:=Lib.hid hown7;have HS7:=Lib.hid (HGX.out w7 (by exact⟨hg7.os,hg7.tape,hg7.output,hg7.size,hg7.block⟩));clear hown7 hg7))
    all_goals
     obtain⟨A7,c7,rfl,_⟩:=za1 HO7.out;have HN2:Hid (zbf acc (lo,hi,(ck:Int))=ledA (ledF L C) (l.take (j+1))∧(zbf acc (lo,hi,(ck:Int))).length=(zbf acc (lo,hi,(ck:Int))).length∧(zbf acc (lo,hi,(ck:Int))).length≤m):=⟨HJN.out.1,rfl,HJN.out.2⟩;have HB7:=Lib.hid HS7.out.2;go_wp2_with fail;go_roundw;case rel=>exact⟨j+1,A7,_,c7,zbf acc (lo,hi,(ck:Int)),by omega,by go_num,rfl,HN2,HO7,HB7⟩
     case measure=>simp[intOf];omega
   |
    false=>
    have HN2:Hid (acc=ledA (ledF L C) (l.take (j+1))∧acc.length=p∧p≤m):=⟨by rw[HN.out];rfl,hp,hpm⟩;go_wp2_with fail;go_roundw;case rel=>exact⟨j+1,Ao,p,co,acc,by omega,by go_num,rfl,HN2,HO1,HB1⟩
    case measure=>simp[intOf];omega
  ·obtain rfl:j=m:=by omega
   have hall:l.take j=l:=List.take_of_length_le (by omega);have HE:=Lib.hid HACC.out.1;rw[hall]at HE;have HP:=Lib.hid HACC.out.2.1;go_wp2_with fail;go_ret;exact⟨_,rfl,by rw[←HE.out,HP.out];exact HO.out,HB.out⟩
end
end Go.Proofs.YtaociahafamncaaGreatDoor
