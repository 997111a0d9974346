/- Folded. -/
import Derived.Test.YtaociahafamncaaGreatDoorHM7
set_option maxRecDepth 100000
set_option maxHeartbeats 40000000
namespace Go.Proofs.YtaociahafamncaaGreatDoor
namespace F
open Go.RowKit Go.Maps
theorem z3i(t:List UInt8)(h:(zb7 t).2.1=0):(zb7 t).1≤9223372036854775807:=by
 unfold zb7 at h⊢;by_cases he:(numR t).2.2=0
 ·rw[if_pos he]at h⊢;show(numR t).1≤_;unfold numR at he⊢;by_cases hne:t=[]
  ·rw[if_pos hne];omega
  rw[if_neg hne]at he⊢;simp only at he⊢;have hb:=zfj t 0;by_cases h1:16≤zac t 0∧zac t 0<240
  ·rw[if_pos h1];show(zac t 0:Int)-128≤_;omega
  rw[if_neg h1]at he⊢;by_cases h2:zac t 0<8∨247<zac t 0
  ·rw[if_pos h2]at he;cases he
  rw[if_neg h2]at he⊢;generalize(if zac t 0<16 then 16-zac t 0 else zac t 0-239)=K at*;by_cases h3:t.length≤K
  ·rw[if_pos h3]at he;cases he
  rw[if_neg h3]at he⊢;generalize decide (zac t 0<16)=fl at*;by_cases h4:1<K∧zdg fl (zac t 1)=0
  ·rw[if_pos h4]at he;cases he
  rw[if_neg h4]at he⊢;by_cases h5:accN fl t K≤9223372036854775695
  ·rw[if_pos h5];by_cases h6:zac t 0<16
   ·rw[if_pos h6];show-113-(accN fl t K:Int)≤_;omega
   ·rw[if_neg h6];show(accN fl t K:Int)+112≤_;omega
  ·rw[if_neg h5]at he;cases he
 ·rw[if_neg he]at h;exact absurd h he
theorem zxi(t:List UInt8):(zb7 t).2.2.length≤t.length:=by
 unfold zb7;split
 ·rw[List.length_drop];omega
 ·exact Nat.le_refl _
theorem zcd(t:List UInt8)(h:(za3 t).2.1=0):zbd (za3 t).1:=by
 unfold za3 at h⊢;split
 ·rename_i hc;rw[if_pos hc]at h;cases h
 ·rename_i hc
  rw[if_neg hc]at h;have h1:=z3i t h;have:¬(zb7 t).1<0:=fun e=>hc ⟨h,e⟩
  exact⟨by omega,h1⟩
theorem zck(t:List UInt8):(za3 t).2.2.length≤t.length:=by
 unfold za3;split
 ·exact Nat.le_refl _
 ·exact zxi t
def rdN:Nat→List Int→List UInt8→Int×List Int×List UInt8
 |0,acc,t=>(0,acc,t)
 |k+1,acc,t=>if(za3 t).2.1=0 then rdN k (acc++[(za3 t).1]) (za3 t).2.2 else((za3 t).2.1,acc,t)
theorem zvb(acc:List Int)(k:Nat){t:List UInt8}(h:(za3 t).2.1=0):rdN (k+1) acc t=rdN k (acc++[(za3 t).1]) (za3 t).2.2:=if_pos h
theorem zth(acc:List Int)(k:Nat){t:List UInt8}(h:(za3 t).2.1≠0):rdN (k+1) acc t=((za3 t).2.1,acc,t):=if_neg h
abbrev Ways:=List (Int×Int×Int)
def rdW(n:Nat)(sizes deep:List Int):Nat→Ways→Int→Int→List UInt8→Int×Ways×Int×Int×List UInt8
 |0,ws,s,dp,t=>(0,ws,s,dp,t)
 |
  k+1,ws,s,dp,t=>
  if(rdN 3 [] t).1≠0 then((rdN 3 [] t).1,ws,s,dp,t)else
  if 255<(rdN 3 [] t).2.1.getD 0 0∨(n:Int)≤(rdN 3 [] t).2.1.getD 2 0 then(3,ws,s,dp,t)else
  rdW n sizes deep k (ws++[((rdN 3 [] t).2.1.getD 0 0,(rdN 3 [] t).2.1.getD 1 0,(rdN 3 [] t).2.1.getD 2 0)]) (s+sizes.getD ((rdN 3 [] t).2.1.getD 2 0).toNat 0)
   (if 0<sizes.getD ((rdN 3 [] t).2.1.getD 2 0).toNat 0 then max dp (deep.getD ((rdN 3 [] t).2.1.getD 2 0).toNat 0+1)else dp) (rdN 3 [] t).2.2
theorem zte{n:Nat}{sizes deep:List Int}{k:Nat}{ws:Ways}{s dp:Int}{t:List UInt8}{e:Int}{acc:List Int}{u:List UInt8}(h:rdN 3 [] t=(e,acc,u))(he:e≠0):rdW n sizes deep (k+1) ws s dp t=(e,ws,s,dp,t):=by
 rw[rdW,h];exact if_pos he
theorem z7d{n:Nat}{sizes deep:List Int}{k:Nat}{ws:Ways}{s dp:Int}{t:List UInt8}{a b c:Int}{u:List UInt8}(h:rdN 3 [] t=(0,[a,b,c],u))(hb:255<a∨(n:Int)≤c):rdW n sizes deep (k+1) ws s dp t=(3,ws,s,dp,t):=by
 rw[rdW,h];exact if_pos hb
theorem z7c{n:Nat}{sizes deep:List Int}{k:Nat}{ws:Ways}{s dp:Int}{t:List UInt8}{a b:Int}{c:Nat}{u:List UInt8}(h:rdN 3 [] t=(0,[a,b,(c:Int)],u))(h1:a≤255)(h2:c<n):
  rdW n sizes deep (k+1) ws s dp t=rdW n sizes deep k (ws++[(a,b,(c:Int))]) (s+sizes.getD c 0) (if 0<sizes.getD c 0 then max dp (deep.getD c 0+1)else dp) u:=by
 have hn:¬(255<a∨(n:Int)≤(c:Int)):=by omega
 rw[rdW,h];exact if_neg hn
def zk9(fin:Bool)(out:Int)(w:Int×Ways×Int×Int×List UInt8):Int×Nd×Int×Int×List UInt8:=
 if w.1≠0 then(w.1,⟨false,0,[]⟩,0,0,[])else
 if 65536<w.2.2.1∨64<w.2.2.2.1 then(3,⟨false,0,[]⟩,0,0,[])else
 (0,⟨fin,out,w.2.1⟩,w.2.2.1,w.2.2.2.1,w.2.2.2.2)
theorem zk8{fin:Bool}{out e:Int}{r:Ways×Int×Int×List UInt8}(h:e≠0):zk9 fin out (e,r)=(e,⟨false,0,[]⟩,0,0,[]):=if_pos h
theorem zvc{fin:Bool}{out s d:Int}{ws:Ways}{t:List UInt8}(h:65536<s∨64<d):zk9 fin out (0,ws,s,d,t)=(3,⟨false,0,[]⟩,0,0,[]):=if_pos h
theorem zti{fin:Bool}{out s d:Int}{ws:Ways}{t:List UInt8}(h:¬(65536<s∨64<d)):zk9 fin out (0,ws,s,d,t)=(0,⟨fin,out,ws⟩,s,d,t):=if_neg h
def zca(n:Nat)(sizes deep:List Int)(t:List UInt8):Int×Nd×Int×Int×List UInt8:=
 if(za3 t).2.1≠0 then((za3 t).2.1,⟨false,0,[]⟩,0,0,[])else
 if 513<(za3 t).1 then(3,⟨false,0,[]⟩,0,0,[])else
 if(za3 t).1%2=1 then
  if(za3 (za3 t).2.2).2.1≠0 then((za3 (za3 t).2.2).2.1,⟨false,0,[]⟩,0,0,[])else
  zk9 true (za3 (za3 t).2.2).1 (rdW n sizes deep ((za3 t).1/2).toNat [] 1 0 (za3 (za3 t).2.2).2.2)
 else zk9 false 0 (rdW n sizes deep ((za3 t).1/2).toNat [] 0 0 (za3 t).2.2)
theorem z06{n:Nat}{sizes deep:List Int}{t:List UInt8}(h:(za3 t).2.1≠0):zca n sizes deep t=((za3 t).2.1,⟨false,0,[]⟩,0,0,[]):=if_pos h
theorem z05{n:Nat}{sizes deep:List Int}{t:List UInt8}(h:(za3 t).2.1=0)(h2:513<(za3 t).1):zca n sizes deep t=(3,⟨false,0,[]⟩,0,0,[]):=by
 unfold zca;rw[if_neg (by simpa using h),if_pos h2]
theorem z04{n:Nat}{sizes deep:List Int}{t:List UInt8}(h:(za3 t).2.1=0)(h2:(za3 t).1≤513)(h3:(za3 t).1%2=1)(h4:(za3 (za3 t).2.2).2.1≠0):zca n sizes deep t=((za3 (za3 t).2.2).2.1,⟨false,0,[]⟩,0,0,[]):=by
 unfold zca;rw[if_neg (by simpa using h),if_neg (by omega),if_pos h3,if_pos h4]
theorem ztg{n:Nat}{sizes deep:List Int}{t:List UInt8}(h:(za3 t).2.1=0)(h2:(za3 t).1≤513)(h3:(za3 t).1%2=1)(h4:(za3 (za3 t).2.2).2.1=0):zca n sizes deep t=zk9 true (za3 (za3 t).2.2).1 (rdW n sizes deep ((za3 t).1/2).toNat [] 1 0 (za3 (za3 t).2.2).2.2):=by
 unfold zca;rw[if_neg (by simpa using h),if_neg (by omega),if_pos h3,if_neg (by simpa using h4)]
theorem ztf{n:Nat}{sizes deep:List Int}{t:List UInt8}(h:(za3 t).2.1=0)(h2:(za3 t).1≤513)(h3:¬(za3 t).1%2=1):zca n sizes deep t=zk9 false 0 (rdW n sizes deep ((za3 t).1/2).toNat [] 0 0 (za3 t).2.2):=by
 unfold zca;rw[if_neg (by simpa using h),if_neg (by omega),if_neg h3]
structure RdAt(W:World)(p b base:Nat)(A:Option Addr)(n c:Nat)(vs vd:Value)(sizes deep:List Int)(t:List UInt8):Prop where
 cur:zek W b t
 nod:∃x y,W.heap[p]? =some (.cells #[.slice A n c,x,y] 95 (0,0))
 sz:W.ownsRow base 3 1 vs n (sizes.map (.int .i64))
 dp:W.ownsRow base 3 1 vd n (deep.map (.int .i64))
 lt:b<base
theorem RdAt.ne{W:World}{p b base n c:Nat}{A:Option Addr}{vs vd:Value}{sizes deep:List Int}{t:List UInt8}(h:RdAt W p b base A n c vs vd sizes deep t):p≠b:=by
 intro e
 subst e;obtain⟨x,y,hn⟩:=h.nod;have:=h.cur;unfold zek at this;rw[hn]at this;injection this with this
 injection this with h1 _ _
 have:=congrArg Array.size h1;simp at this
theorem RdAt.grown{W W':World}{p b base n c:Nat}{A:Option Addr}{vs vd:Value}{sizes deep:List Int}{t t':List UInt8}(h:RdAt W p b base A n c vs vd sizes deep t)(hg:W.grownBy W' (some b))(hc:zek W' b t'):RdAt W' p b base A n c vs vd sizes deep t':=by
 obtain⟨x,y,hn⟩:=h.nod;have hne:=h.ne;refine⟨hc,⟨x,y,(hg.block p (Array.getElem?_eq_some_iff.1 hn).1 (by simpa using hne)).trans hn⟩,h.sz.kept hg (.inr fun e=>?_),h.dp.kept hg (.inr fun e=>?_),h.lt⟩
 ·have:=(h.sz.lt b e).1;have:=h.lt;omega
 ·have:=(h.dp.lt b e).1;have:=h.lt;omega
theorem RdAt.below{W W':World}{p b base n c:Nat}{A:Option Addr}{vs vd:Value}{sizes deep:List Int}{t:List UInt8}(h:RdAt W p b base A n c vs vd sizes deep t)(hb:Below W.heap.size W W'):RdAt W' p b base A n c vs vd sizes deep t:=
 h.grown (below_grown hb _) (zi0 h.cur hb)
theorem RdAt.cell{W:World}{p b base n c:Nat}{A:Option Addr}{vs vd:Value}{sizes deep:List Int}{t:List UInt8}(h:RdAt W p b base A n c vs vd sizes deep t):W.cell? ⟨p,0,none⟩=some (.slice A n c):=by
 obtain⟨x,y,hn⟩:=h.nod;exact cell_of_row _ p 0 _ _ (0,0) hn
structure CG(w W:World)(b:Nat)(t:List UInt8):Prop where
 cur:zek W b t
 gr:w.grownBy W (some b)
 lt:b<w.heap.size
theorem CG.below{w W W':World}{b:Nat}{t:List UInt8}(h:CG w W b t)(hb:Below w.heap.size W W'):CG w W' b t:=
 ⟨(hb.block b h.lt).trans h.cur,⟨hb.os.trans h.gr.os,hb.tape.trans h.gr.tape,hb.output.trans h.gr.output,Nat.le_trans h.gr.size hb.size,fun k hk hr=>(hb.block k hk).trans (h.gr.block k hk hr)⟩,h.lt⟩
theorem CG.call{w W W':World}{b:Nat}{t t':List UInt8}(h:CG w W b t)(hc:zek W' b t')(hg:W.grownBy W' (some b)):CG w W' b t':=⟨hc,h.gr.trans hg,h.lt⟩
theorem CG.rd{w W:World}{p b base n c:Nat}{A:Option Addr}{vs vd:Value}{sizes deep:List Int}{t t0:List UInt8}(h:CG w W b t)(hr:RdAt w p b base A n c vs vd sizes deep t0):RdAt W p b base A n c vs vd sizes deep t:=hr.grown h.gr h.cur
theorem CG.set{w W:World}{b N:Nat}{t:List UInt8}(h:CG w W b t)(hN:w.heap.size≤N)(i:Nat)(v:Value):CG w (W.setCell ⟨N,i,none⟩ v) b t:=h.below ((Below.refl _ _).setCell hN _)
structure NwAt(W:World)(N:Nat)(fin:Bool)(out:Int)(A:Option Addr)(m c:Nat)(ws:Ways):Prop where
 blk:W.heap[N]? =some (.cells #[.bool fin,.int .i64 out,.slice A m c] 88 (0,0))
 own:W.ownsRow (N+1) 107 3 (.slice A m c) m (waysC ws)
 len:ws.length=m
section
variable {W W':World}{N b m c:Nat}{fin:Bool}{out:Int}{A:Option Addr}{ws:Ways}
theorem NwAt.grown(h:NwAt W N fin out A m c ws)(hg:W.grownBy W' (some b))(hb:b<N):NwAt W' N fin out A m c ws:=
 ⟨(hg.block N (Array.getElem?_eq_some_iff.1 h.blk).1 (by simp;omega)).trans h.blk,h.own.kept hg (.inr fun e=>by have:=(h.own.lt b e).1;omega),h.len⟩
theorem NwAt.below(h:NwAt W N fin out A m c ws)(hb:Below W.heap.size W W'):NwAt W' N fin out A m c ws:=
 ⟨(hb.block N (Array.getElem?_eq_some_iff.1 h.blk).1).trans h.blk,za2 h.own hb,h.len⟩
theorem NwAt.lt(h:NwAt W N fin out A m c ws):N<W.heap.size:=(Array.getElem?_eq_some_iff.1 h.blk).1
theorem NwAt.cells(h:NwAt W N fin out A m c ws):W.cell? ⟨N,0,none⟩=some (.bool fin)∧W.cell? ⟨N,1,none⟩=some (.int .i64 out)∧W.cell? ⟨N,2,none⟩=some (.slice A m c):=
 ⟨cell_of_row _ N 0 _ _ (0,0) h.blk,cell_of_row _ N 1 _ _ (0,0) h.blk,cell_of_row _ N 2 _ _ (0,0) h.blk⟩
theorem NwAt.free(h:NwAt W N fin out A m c ws):W.frozen? ⟨N,0,none⟩=false∧W.frozen? ⟨N,1,none⟩=false∧W.frozen? ⟨N,2,none⟩=false:=by
 refine⟨?_,?_,?_⟩<;>simp[World.frozen?,h.blk]
theorem NwAt.setOut(h:NwAt W N fin out A m c ws)(z:Int):NwAt (W.setCell ⟨N,1,none⟩ (.int .i64 z)) N fin z A m c ws:=by
 refine⟨?_,h.own.kept (za7 _ _ _) (.inr fun e=>by have:=(h.own.lt _ e).1;simp at this;omega),h.len⟩;simp[World.setCell,Array.getElem?_modify,h.blk]
theorem NwAt.setFin(h:NwAt W N fin out A m c ws)(z:Bool):NwAt (W.setCell ⟨N,0,none⟩ (.bool z)) N z out A m c ws:=by
 refine⟨?_,h.own.kept (za7 _ _ _) (.inr fun e=>by have:=(h.own.lt _ e).1;simp at this;omega),h.len⟩;simp[World.setCell,Array.getElem?_modify,h.blk]
theorem NwAt.setAt{V i:Nat}{v:Value}{cs:Array Value}{e:TypeId}{fr:Nat×Nat}(h:NwAt W N fin out A m c ws)(hV:V≠N)(hb:W.heap[V]? =some (.cells cs e fr))(he:e≠107:=by decide):NwAt (W.setCell ⟨V,i,none⟩ v) N fin out A m c ws:=
 ⟨(Below.heap_setCell _ _ _ N (by show N≠V;omega)).trans h.blk,h.own.kept (za7 _ _ _) (za5 h.own hb he),h.len⟩
theorem NwAt.push{W1:World}{A1:Option Addr}{c1:Nat}{x:Int×Int×Int}(h:NwAt W N fin out A m c ws)(hg:W.grownBy W1 (Value.slice A m c).ownBlock)(ho:W1.ownsRow (N+1) 107 3 (.slice A1 (m+1) c1) (m+1) (waysC ws++wayC x)):
  NwAt (W1.setCell ⟨N,2,none⟩ (.slice A1 (m+1) c1)) N fin out A1 (m+1) c1 (ws++[x]):=by
 have b1:=(hg.block N h.lt (fun e=>by have:=(h.own.lt _ e.symm).1;omega)).trans h.blk;refine⟨?_,?_,by rw[List.length_append,h.len];rfl⟩
 ·simp[World.setCell,Array.getElem?_modify,b1]
 ·have hE:waysC (ws++[x])=waysC ws++wayC x:=by unfold waysC;rw[List.flatMap_append];simp
  rw[hE];exact ho.kept (za7 _ _ _) (.inr fun e=>by have:=(ho.lt _ e).1;simp at this;omega)
theorem NwAt.pushBelow{W1:World}{A1:Option Addr}{c1:Nat}{B:Nat}(h:NwAt W N fin out A m c ws)(hg:W.grownBy W1 (Value.slice A m c).ownBlock)(hB:B≤N):Below B W (W1.setCell ⟨N,2,none⟩ (.slice A1 (m+1) c1)):=by
 have hlt:=h.lt;refine((Below.refl B W).grown hg (by omega) (fun k hk=>?_)).setCell (by show B≤N;omega) _;have:=(h.own.lt k hk).1;omega
end
theorem zt7{W:World}{b i:Nat}{cs:Array Value}{e:TypeId}{fr:Nat×Nat}(h:W.heap[b]? =some (.cells cs e fr)){v:Value}(hv:cs[i]? =some v):W.setCell ⟨b,i,none⟩ v=W:=by
 obtain⟨hi,hx⟩:=Array.getElem?_eq_some_iff.1 hv;obtain⟨hb,hy⟩:=Array.getElem?_eq_some_iff.1 h;have e1:cs.setIfInBounds i v=cs:=by
  apply Array.ext
  ·simp
  ·intro j h1 h2
   rw[Array.getElem_setIfInBounds];split
   ·rename_i hj;subst hj;exact hx.symm
   ·rfl
 have e2:(W.setCell ⟨b,i,none⟩ v).heap=W.heap:=by
  apply Array.ext
  ·simp[World.setCell]
  ·intro j h1 h2
   simp only[World.setCell,Array.getElem_modify];split
   ·rename_i hj
    subst hj;rw[hy];simp[e1]
   ·rfl
 show{W with heap:=(W.setCell ⟨b,i,none⟩ v).heap}=W;rw[e2]
theorem z0b{W:World}{b b' e s n:Nat}{v:Value}{xs:List Value}(h:W.ownsRow b e s v n xs)(hb:b'≤b):W.ownsRow b' e s v n xs:=by
 refine⟨h.1,?_⟩;rcases h.2 with hn|⟨g,cap,cur,hv,hg,rest⟩
 ·exact .inl hn
 ·exact .inr ⟨g,cap,cur,hv,by omega,rest⟩
theorem zo0{W:World}{N:Nat}{x y z:Value}{e:TypeId}{fr:Nat×Nat}(h:W.heap[N]? =some (.cells #[x,y,z] e fr)):((W.setCell ⟨N,0,none⟩ x).setCell ⟨N,1,none⟩ y).setCell ⟨N,2,none⟩ z=W:=by
 rw[zt7 h rfl,zt7 h rfl,zt7 h rfl]
theorem zb5{fn:Func}{p t u v:Tmp}{ty:TypeId}(h:fn.results= #[.cell p ty,.tmp t,.tmp u,.tmp v]){P:Program}(tmps:Array Value)(w:World)(g:Nat)(cs:Array Value)
  (hp:tmps.getD p undef=.pointer (some ⟨g,0,none⟩)) (hl:(loadVar ty ⟨g,0,none⟩).run P w=.ok (.agg cs) w):
  (results fn tmps).run P w=.ok (.tuple #[.agg cs,tmps.getD t undef,tmps.getD u undef,tmps.getD v undef]) w:=by
 have hp':tmps[p]?.getD undef=.pointer (some ⟨g,0,none⟩):=by simpa using hp
 simp[results,h,hp',asAddr,hl]
theorem zd1{w:World}{g:Nat}{cs:Array Value}{fr:Nat×Nat}(hg:w.heap[g]? =some (.cells cs 88 fr))(hc:cs.size=3):(loadVar 88 ⟨g,0,none⟩).run Tryz.prog w=.ok (.agg cs) w:=
 run_loadVar_row w g 88 88 cs fr _ hg Tryz.underlying88 rfl (by rw[hc];kernel_rfl)
end F
namespace F
open Go.RowKit
def zLb(fl:Bool)(z:Int):Int:=if fl then 255-z else z
def ztj(fl:Bool)(x:Nat):List Int:=(places x).map (zLb fl)
theorem conv_one(w:World)(z:Int):(convert 108 9 (.slice (some ⟨w.heap.size,0,none⟩) 1 1)).run Tryz.prog (w.alloc (.cells #[.int .u8 z] 5))=.ok (.string (strOfNums [z])) (w.alloc (.cells #[.int .u8 z] 5)):=by
 have h:(w.alloc (.cells #[.int .u8 z] 5)).ownsRow 0 5 1 (.slice (some ⟨w.heap.size,0,none⟩) 1 1) 1 ([z].map (.int .u8)):=zg1 w #[.int .u8 z] 5 1 1 rfl (by unfold maxLen;omega) rfl (Nat.zero_le _);exact zjf (P:=Tryz.prog) Tryz.underlying108 Tryz.underlying5 (dst:=9) Tryz.underlying9 h
def numA(n:Int):List Int:=if-112≤n∧n≤111 then[128+n]else if 0<n then(239+((ztj false (n-112).toNat).length:Int))::ztj false (n-112).toNat else(16-((ztj true (-(n+113)).toNat).length:Int))::ztj true (-(n+113)).toNat
end F
namespace F
open Go.RowKit Go.Maps
def gath(ds:List Nd):Nat→Nat→List UInt8→Int→List Ent
 |0,_,_,_=>[]
 |f+1,i,t,z=>match ds[i]? with
  |some d=>(if d.fin then[(t,IntKind.i64.wrap (z+d.out))]else[])++d.ways.flatMap fun x=>gath ds f x.2.2.toNat (t++[UInt8.ofNat x.1.toNat]) (IntKind.i64.wrap (z+x.2.1))
  |none=>[]
theorem gath_s{ds:List Nd}{i:Nat}{d:Nd}(h:ds[i]? =some d)(f:Nat)(t:List UInt8)(z:Int):gath ds (f+1) i t z=(if d.fin then[(t,IntKind.i64.wrap (z+d.out))]else[])++d.ways.flatMap fun x=>gath ds f x.2.2.toNat (t++[UInt8.ofNat x.1.toNat]) (IntKind.i64.wrap (z+x.2.1)):=by
 rw[gath,h]
theorem el_ent:Elem Tryz.prog 22 29 2 24:=Elem.mk_ Tryz.underlying22 (z:=.agg #[.string ⟨#[]⟩,.int .i64 0]) (by kernel_rfl) rfl (by omega)
structure OutAt(W:World)(p N:Nat)(v:Value)(l:List Ent):Prop where
 dblk:W.heap[N]? =some (.cells #[.pointer (some ⟨p,0,none⟩)] 23 (0,0))
 oblk:W.heap[N+1]? =some (.cells #[v] 22 (0,0))
 wblk:W.heap[N+2]? =some (.cells #[.func (.func 60) #[] #[.pointer (some ⟨N,0,none⟩),.pointer (some ⟨N+1,0,none⟩),.pointer (some ⟨N+2,0,none⟩)]] 127 (0,0))
 own:W.ownsRow (N+3) 29 2 v l.length (entsC l)
theorem OutAt.lt{W:World}{p N:Nat}{v:Value}{l:List Ent}(h:OutAt W p N v l):N+2<W.heap.size:=(Array.getElem?_eq_some_iff.1 h.wblk).1
theorem OutAt.cells{W:World}{p N:Nat}{v:Value}{l:List Ent}(h:OutAt W p N v l):W.cell? ⟨N,0,none⟩=some (.pointer (some ⟨p,0,none⟩))∧W.cell? ⟨N+1,0,none⟩=some v∧W.cell? ⟨N+2,0,none⟩=some (.func (.func 60) #[] #[.pointer (some ⟨N,0,none⟩),.pointer (some ⟨N+1,0,none⟩),.pointer (some ⟨N+2,0,none⟩)]):=
 ⟨cell_of_row _ N 0 _ _ (0,0) h.dblk,cell_of_row _ (N+1) 0 _ _ (0,0) h.oblk,cell_of_row _ (N+2) 0 _ _ (0,0) h.wblk⟩
theorem OutAt.free{W:World}{p N:Nat}{v:Value}{l:List Ent}(h:OutAt W p N v l):W.frozen? ⟨N+1,0,none⟩=false:=by
 simp[World.frozen?,h.oblk]
theorem OutAt.below{W W':World}{p N:Nat}{v:Value}{l:List Ent}(h:OutAt W p N v l)(hb:Below W.heap.size W W'):OutAt W' p N v l:=by
 have:=h.lt;exact⟨(hb.block N (by omega)).trans h.dblk,(hb.block (N+1) (by omega)).trans h.oblk,(hb.block (N+2) (by omega)).trans h.wblk,za2 h.own hb⟩
theorem OutAt.push{W W1:World}{p N:Nat}{v v1:Value}{l:List Ent}{e:Ent}(h:OutAt W p N v l)(hg:W.grownBy W1 v.ownBlock)(ho:W1.ownsRow (N+3) 29 2 v1 (l.length+1) (entsC l++entC e)):
  OutAt (W1.setCell ⟨N+1,0,none⟩ v1) p N v1 (l++[e])∧Below N W (W1.setCell ⟨N+1,0,none⟩ v1):=by
 have hlt:=h.lt;have hne:∀k,k<N+3→some k≠v.ownBlock:=fun k hk e=>by
  have:=(h.own.lt k e.symm).1;omega
 have b0:=(hg.block N (by omega) (hne N (by omega))).trans h.dblk;have b1:=(hg.block (N+1) (by omega) (hne _ (by omega))).trans h.oblk;have b2:=(hg.block (N+2) (by omega) (hne _ (by omega))).trans h.wblk;refine⟨⟨(Below.heap_setCell _ _ _ N (by show N≠N+1;omega)).trans b0,?_,(Below.heap_setCell _ _ _ (N+2) (by show N+2≠N+1;omega)).trans b2,?_⟩,?_⟩
 ·simp[World.setCell,Array.getElem?_modify,b1]
 ·have hE:entsC (l++[e])=entsC l++entC e:=by unfold entsC;rw[List.flatMap_append];simp
  rw[hE,List.length_append];refine ho.kept (za7 _ _ _) (.inr ?_);intro e'
  have:=(ho.lt _ e').1;simp only at this;omega
 ·refine((Below.refl N W).grown hg (by omega) (fun k hk=>?_)).setCell (by show N≤N+1;omega) _;have:=(h.own.lt k hk).1;omega
theorem OutAt.grown{W W1:World}{p N:Nat}{v:Value}{l:List Ent}(h:OutAt W p N v l)(hg:W.grownBy W1 v.ownBlock):W1.cell? ⟨N+1,0,none⟩=some v∧W1.frozen? ⟨N+1,0,none⟩=false:=by
 have hlt:=h.lt;have b1:=(hg.block (N+1) (by omega) (fun e=>by have:=(h.own.lt _ e.symm).1;omega)).trans h.oblk;exact⟨cell_of_row _ (N+1) 0 _ _ (0,0) b1,by simp[World.frozen?,b1]⟩
theorem zJa{c:Int}:strOfNums [c]=⟨#[UInt8.ofNat c.toNat]⟩:=by
 apply ByteArray.ext
 simp[strOfNums]
theorem term_cat(t:List UInt8)(c:Int)(hl:t.length≤1125899906842624)(w:World):(Op.stringOp .add ⟨t.toArray⟩ (strOfNums [c])).run Tryz.prog w=.ok (.string ⟨(t++[UInt8.ofNat c.toNat]).toArray⟩) w:=by
 have e:(⟨t.toArray⟩:ByteArray)++strOfNums [c]=⟨(t++[UInt8.ofNat c.toNat]).toArray⟩:=by
  rw[zJa];apply ByteArray.ext
  simp
 rw[←e];exact run_string_add_sum w _ _ (by rw[strOfNums_size,size_mk];simp;omega)
def zF9(w0:World)(p N:Nat)(l:List Ent):Ending→World→Prop:=fun e w'=>e=.returned (.tuple #[])∧∃v',OutAt w' p N v' l∧Below N w0 w'
theorem walk_any(w0:World)(p B n c:Nat)(A:Option Addr)(base cnt:Int)(hs:List Nh)(hd:DictAt w0 p B A n c base cnt hs)(hf:Fine (hs.map (·.d)))(N:Nat)(hN:w0.heap.size=N):
  ∀(f i:Nat),i<f→i<n→∀(w:World) (v:Value) (l:List Ent) (t:List UInt8) (z:Int),OutAt w p N v l→Below N w0 w→t.length+i≤1125899906842624→(l++gath (hs.map (·.d)) f i t z).length≤4294967296→
   Calls Tryz.prog 60 #[.int .i64 i,.string ⟨t.toArray⟩,.int .i64 z,.pointer (some ⟨N,0,none⟩),.pointer (some ⟨N+1,0,none⟩),.pointer (some ⟨N+2,0,none⟩)] w (zF9 w0 p N (l++gath (hs.map (·.d)) f i t z))
 |0,i,hi,_,w,v,l,t,z,ho,hb,ht,hl=>absurd hi (by omega)
 |
  f+1,i,hi,hin,w,v,l,t,z,ho,hb,ht,hl=>by
  have IH:=Lib.hid (walk_any w0 p B n c A base cnt hs hd hf N hN f);have HD:=Lib.hid hd;have hdw:DictAt w p B A n c base cnt hs:=hd.keep (by rw[hN];exact hb);have hlen:=hd.len;obtain⟨c0,_,_⟩:=hdw.cells;obtain⟨g,rfl,hgl,hnode⟩:=hdw.node_ (by omega);obtain⟨x,hx⟩:∃x,hs[i]? =some x:=⟨hs[i]'(by omega),List.getElem?_eq_getElem _⟩;obtain⟨n0,n1,n2⟩:=hnode i x hx;have hxm:(hs.map (·.d))[i]? =some x.d:=by rw[List.getElem?_map,hx];rfl
  obtain⟨hcx,hcx2⟩:=hdw.caps (List.mem_of_getElem? hx);obtain⟨_,hn63⟩:=hdw.cap;obtain⟨k0,k1,k2⟩:=ho.cells;have HFI:=Lib.hid (hf i x.d hxm);have HX:=Lib.hid hx;have HO:=Lib.hid ho;have HB:=Lib.hid hb;have HNN:=Lib.hid hN;have hN1:N+1<w.heap.size:=by have:=ho.lt;omega
  have hN0:N<w.heap.size:=by have:=ho.lt;omega
  have hlt:=ho.lt;rw[gath_s hxm]at hl⊢;have HLL:=Lib.hid hl;obtain⟨m,hm⟩:∃m,x.d.ways.length=m:=⟨_,rfl⟩;obtain⟨XA,hXA⟩:∃a,x.A=a:=⟨_,rfl⟩;rw[hm]at n2 hcx hcx2;rw[hXA]at n2;have HM:=Lib.hid hm;have HXA:=Lib.hid hXA;clear hnode hx hxm hm hXA hl hdw hd hf hN ho hb;obtain⟨pre,hpre⟩:∃pre,(if x.d.fin then[(t,IntKind.i64.wrap (z+x.d.out))]else[])=pre:=⟨_,rfl⟩;rw[hpre]at HLL⊢;have HPRE:=Lib.hid hpre;clear hpre;go_enter Tryz.func60,Tryz.ntmps60
  have hnew:=Lib.hid (bnew (za0 w) (.cells #[.bool x.d.fin,.int .i64 x.d.out,.slice XA m x.c] 88));have HO2:=Lib.hid (HO.out.below hnew.out);have HB2:=Lib.hid (HB.out.trans (hnew.out.mono (show N≤w.heap.size by omega)));by_cases hfin:x.d.fin=true
  rw[hfin]at n0 HPRE hnew HO2 HB2;rw[if_pos rfl]at HPRE;obtain⟨S,hS⟩:∃S,IntKind.i64.wrap (z+x.d.out)=S:=⟨_,rfl⟩;rw[hS]at HPRE;have hbig:l.length+1≤4294967296:=by
   have h1:=HLL.out;rw[←HPRE.out,List.length_append,List.length_append]at h1;simp at h1
   omega
  have HK9:Hid (∀W1,(w.alloc (.cells #[.bool true,.int .i64 x.d.out,.slice XA m x.c] 88)).grownBy W1 v.ownBlock→W1.cell? ⟨w.heap.size,2,none⟩=some (.slice XA m x.c)):=by
   intro W1 hg
   have hb:=hg.block w.heap.size (by simp) (fun e=>by have:=(HO.out.own.lt _ e.symm).2;omega);exact cell_of_row _ w.heap.size 2 _ _ (0,0) (hb.trans (heap_alloc_new w _))
  go_wp2_with (at_builtin;refine zab (w.alloc (.cells #[.bool true,.int .i64 x.d.out,.slice XA m x.c] 88)) _ _ rfl _ _ _ rfl el_ent _ _ _ rfl HO2.out.own rfl (by simp) rfl (by simp[Value.oneCell']) (by unfold maxLen;omega) (by omega) (by simp;omega) (Below.refl _ _) ?_;intro v1 w1 hown1 hb1 hg1 _;obtain⟨A1,c1,rfl,_⟩:=za1 hown1;obtain⟨k1w,f1w⟩:=HO2.out.grown hg1;have k9:w1.cell? ⟨w.heap.size,2,none⟩=some (.slice XA m x.c):=HK9.out w1 hg1;have HP1:=Lib.hid (HO2.out.push (e:=(t,S)) hg1 hown1))
  have HO3:=Lib.hid HP1.out.1;have HB3:=Lib.hid (HB2.out.trans HP1.out.2);clear HP1 hown1 hb1 hg1 k1w f1w k9 HK9 hnew HO2 HB2 k0 k1 k2 HO HB c0 n0 n1 n2;rw[HPRE.out]at HO3;generalize w1.setCell ⟨N+1,0,none⟩ (.slice A1 (l.length+1) c1)=W3 at*;have HE3:∃v3,Hid (OutAt W3 p N v3 (l++pre)):=⟨_,HO3⟩;clear HO3 hbig hS hfin HPRE;rotate_left
  have hfin2:x.d.fin=false:=by simpa using hfin
  rw[hfin2]at n0 HPRE hnew HO2 HB2;rw[if_neg (by simp)]at HPRE;go_wp2_with fail;generalize w.alloc (.cells #[.bool false,.int .i64 x.d.out,.slice XA m x.c] 88)=W3 at*;have HB3:=HB2;have HE3:∃v3,Hid (OutAt W3 p N v3 (l++pre)):=⟨_,by rw[←HPRE.out,List.append_nil];exact HO2⟩;clear HO2 HB2 hnew HPRE hfin hfin2 k0 k1 k2 HO HB c0 n0 n1 n2;rotate_left
  all_goals
   obtain⟨v3,HO3⟩:=HE3;go_loopw [33] (fun jv wr=>∃(j:Nat) (v':Value),j≤m∧jv=.int .i64 j∧Hid (OutAt wr p N v' (l++pre++(x.d.ways.take j).flatMap fun x=>gath (hs.map (·.d)) f x.2.2.toNat (t++[UInt8.ofNat x.1.toNat]) (IntKind.i64.wrap (z+x.2.1))))∧Hid (Below N w0 wr)) (fun jv _=>m-(intOf jv).toNat)
   case atStart=>exact⟨0,v3,Nat.zero_le _,rfl,by simpa using HO3,HB3⟩
   case round=>
    obtain⟨j,v',hj,rfl,HO,HB⟩:=hrel;by_cases hjm:j<m
    ·have hdw:DictAt wr p B (some ⟨g,0,none⟩) n c base cnt hs:=HD.out.keep (by rw[HNN.out];exact HB.out);have hway:=hdw.way_ (List.mem_of_getElem? HX.out) (by rw[HM.out];omega);obtain⟨gw,hA,hgw,hcell⟩:=hway;rw[HXA.out]at hA;subst hA;obtain⟨y,hy⟩:∃y,x.d.ways[j]? =some y:=⟨x.d.ways[j]'(by rw[HM.out];omega),List.getElem?_eq_getElem _⟩;obtain⟨d0,d1,d2⟩:=hcell j y hy;obtain⟨⟨y0,y1⟩,⟨y2,y3⟩,y4,y5⟩:=HFI.out.2 y (List.mem_of_getElem? hy);have HW:=Lib.hid (show((x.d.ways.take (j+1)).flatMap fun x=>gath (hs.map (·.d)) f x.2.2.toNat (t++[UInt8.ofNat x.1.toNat]) (IntKind.i64.wrap (z+x.2.1)))=((x.d.ways.take j).flatMap fun x=>gath (hs.map (·.d)) f x.2.2.toNat (t++[UInt8.ofNat x.1.toNat]) (IntKind.i64.wrap (z+x.2.1)))++gath (hs.map (·.d)) f y.2.2.toNat (t++[UInt8.ofNat y.1.toNat]) (IntKind.i64.wrap (z+y.2.1)) by
      rw[List.take_add_one,hy,List.flatMap_append];simp)
     have HLE:Hid ((l++pre++((x.d.ways.take (j+1)).flatMap fun x=>gath (hs.map (·.d)) f x.2.2.toNat (t++[UInt8.ofNat x.1.toNat]) (IntKind.i64.wrap (z+x.2.1)))).length≤4294967296):=by
      show _≤_;refine Nat.le_trans ?_ HLL.out;rw[←List.append_assoc];conv=>rhs;rw[←List.take_append_drop (j+1) x.d.ways,List.flatMap_append]
      simp only[List.length_append];omega
     obtain⟨yc,yo,yt⟩:=y;simp only at d0 d1 d2 y0 y1 y2 y3 y4 y5 HW;obtain⟨yn,rfl⟩:=Int.eq_ofNat_of_zero_le y4;obtain⟨k0,k1,k2⟩:=HO.out.cells;have hN2:N+2<wr.heap.size:=HO.out.lt;have hnw:=Lib.hid (bnew (za0 wr) (.cells #[.int .i64 yc,.int .i64 yo,.int .i64 yn] 107));have hcv:(convert 108 9 (.slice (some ⟨wr.heap.size+1,0,none⟩) 1 1)).run Tryz.prog ((wr.alloc (.cells #[.int .i64 yc,.int .i64 yo,.int .i64 yn] 107)).alloc (.cells #[.int .u8 yc] 5))=.ok (.string (strOfNums [yc])) ((wr.alloc (.cells #[.int .i64 yc,.int .i64 yo,.int .i64 yn] 107)).alloc (.cells #[.int .u8 yc] 5)):=by
      have:=conv_one (wr.alloc (.cells #[.int .i64 yc,.int .i64 yo,.int .i64 yn] 107)) yc;simpa using this
     have hcat:=term_cat t yc (by omega);have HWW:Hid (Below wr.heap.size wr ((wr.alloc (.cells #[.int .i64 yc,.int .i64 yo,.int .i64 yn] 107)).alloc (.cells #[.int .u8 yc] 5))):=bnew (bnew (za0 wr) _) _;have hw1:yc%256=yc:=by omega
     have htl:(t++[UInt8.ofNat yc.toNat]).length+yn≤1125899906842624:=by simp;omega
     rw[Int.toNat_natCast]at HW;obtain⟨t',ht'⟩:∃t',t++[UInt8.ofNat yc.toNat]=t':=⟨_,rfl⟩;obtain⟨T,hT⟩:∃T,strOfNums [yc]=T:=⟨_,rfl⟩;obtain⟨S,hS⟩:∃S,IntKind.i64.wrap (z+yo)=S:=⟨_,rfl⟩;rw[ht']at hcat HW htl;rw[hT]at hcat hcv;rw[hS]at HW;rw[HW.out,←List.append_assoc]at HLE;have HCALL:=Lib.hid (IH.out yn (by omega) (by omega) _ v' _ t' S (HO.out.below HWW.out) (HB.out.trans (HWW.out.mono (by omega))) htl HLE.out);have HOX:=Lib.hid HW.out;clear hdw hcell hy y4 HW HLE ht' hT HWW htl;generalize gath (hs.map (·.d)) f yn t' S=add at*;generalize((x.d.ways.take j).flatMap fun x=>gath (hs.map (·.d)) f x.2.2.toNat (t++[UInt8.ofNat x.1.toNat]) (IntKind.i64.wrap (z+x.2.1)))=done at*;go_wp2_with fail;refine HCALL.out.mono ?_;rintro e w5 ⟨rfl,v5,ho5,hb5⟩;have HO5:=Lib.hid ho5;have HB5:=Lib.hid hb5;clear ho5 hb5;go_wp2_with fail;go_roundw;case rel=>exact⟨j+1,v5,by omega,by go_num,by rw[HOX.out,←List.append_assoc];exact HO5,HB5⟩
     case measure=>simp[intOf];omega
    ·obtain rfl:j=m:=by omega
     have hall:x.d.ways.take j=x.d.ways:=List.take_of_length_le (by rw[HM.out];omega);rw[hall,List.append_assoc]at HO;go_wp2_with fail;go_end0
     exact⟨rfl,v',HO.out,HB.out⟩
end F
namespace F
open Go.RowKit Go.Maps
def allE(ds:List Nd)(base:Int):List Ent:=if ds=[]then[]else gath ds ds.length (ds.length-1) [] base
theorem all_nil(w:World):Calls Tryz.prog 43 #[.pointer none] w fun e w'=>e=.returned (.slice none 0 0)∧Below w.heap.size w w':=by
 go_enter Tryz.func43,Tryz.ntmps43
 go_wp2_with fail;go_ret;exact⟨rfl,bnew (za0 w) _⟩
theorem all_any(w:World)(p B n c:Nat)(A:Option Addr)(base cnt:Int)(hs:List Nh)(h:DictAt w p B A n c base cnt hs)(hf:Fine (hs.map (·.d)))(hl:(allE (hs.map (·.d)) base).length≤4294967296)(hn:n≤1125899906842624):
  Calls Tryz.prog 43 #[.pointer (some ⟨p,0,none⟩)] w fun e w'=>∃v,e=.returned v∧w'.ownsRow w.heap.size 29 2 v (allE (hs.map (·.d)) base).length (entsC (allE (hs.map (·.d)) base))∧Below w.heap.size w w':=by
 obtain⟨c0,c1,c2⟩:=h.cells;obtain⟨_,hcap⟩:=h.cap;have hlen:=h.len;have hpl:=(Array.getElem?_eq_some_iff.1 h.blk).1;by_cases h0:n=0
 ·subst h0;obtain rfl:hs=[]:=List.eq_nil_of_length_eq_zero hlen;have hG:allE (([]:List Nh).map (·.d)) base=[]:=if_pos rfl;rw[hG];clear h;go_enter Tryz.func43,Tryz.ntmps43
  go_wp2_with fail;go_ret;exact⟨_,rfl,⟨rfl,.inl ⟨rfl,rfl⟩⟩,bnew (za0 w) _⟩
 ·have hds:hs.map (·.d)≠[]:=by
   intro e
   rw[List.map_eq_nil_iff]at e;subst e;exact h0 hlen.symm
  have hG:allE (hs.map (·.d)) base=gath (hs.map (·.d)) n (n-1) [] base:=by
   unfold allE;rw[if_neg hds,List.length_map,hlen]
  rw[hG]at hl⊢;have HW:=Lib.hid (fun(w1:World) (v:Value) (ho:OutAt w1 p w.heap.size v []) (hb:Below w.heap.size w w1)=>walk_any w p B n c A base cnt hs h hf w.heap.size rfl n (n-1) (by omega) (by omega) w1 v [] [] base ho hb (by simp;omega) (by simpa using hl));simp only[List.nil_append]at HW;generalize gath (hs.map (·.d)) n (n-1) [] base=L at*;obtain⟨i0,hi0⟩:∃i:Nat,n-1=i:=⟨_,rfl⟩;have hw1:IntKind.i64.wrap ((n:Int)-1)=(i0:Int):=by rw[show(n:Int)-1=(i0:Int) by omega];exact IntWalk.i64_in _ (by omega)
  rw[hi0]at HW;have q1:((n:Int)==0)=false:=by simpa using h0
  have q2:(n==0)=false:=by simpa using h0
  clear h hG hds hf;have hsf:=fun(a:Addr) (c:Array Value) (w:World)=>run_store Tryz.prog w a (.func (.func 60) #[] c) .plain rfl
  go_enter Tryz.func43,Tryz.ntmps43
  go_wp2_with fail;have hsz:((w.alloc (.cells #[.pointer (some ⟨p,0,none⟩)] 23)).alloc (.cells #[.slice none 0 0] 22)).heap.size=w.heap.size+2:=by simp
  have HO:Hid (OutAt ((((w.alloc (.cells #[.pointer (some ⟨p,0,none⟩)] 23)).alloc (.cells #[.slice none 0 0] 22)).alloc (.cells #[.func (.func 60) #[] #[.pointer (some ⟨w.heap.size,0,none⟩),.pointer (some ⟨w.heap.size+1,0,none⟩),.pointer (some ⟨w.heap.size+1+1,0,none⟩)]] 127))) p w.heap.size (.slice none 0 0) []):=by
   refine⟨?_,?_,?_,rfl,.inl ⟨rfl,rfl⟩⟩
   ·rw[Below.heap_alloc _ _ _ (by simp;omega),Below.heap_alloc _ _ _ (by simp)];exact heap_alloc_new w _
   ·rw[Below.heap_alloc _ _ _ (by simp)];have:=heap_alloc_new (w.alloc (.cells #[.pointer (some ⟨p,0,none⟩)] 23)) (.cells #[.slice none 0 0] 22);simpa using this
   ·have:=heap_alloc_new ((w.alloc (.cells #[.pointer (some ⟨p,0,none⟩)] 23)).alloc (.cells #[.slice none 0 0] 22)) (.cells #[.func (.func 60) #[] #[.pointer (some ⟨w.heap.size,0,none⟩),.pointer (some ⟨w.heap.size+1,0,none⟩),.pointer (some ⟨w.heap.size+1+1,0,none⟩)]] 127);rw[hsz]at this;exact this
  have HB:Hid (Below w.heap.size w (((w.alloc (.cells #[.pointer (some ⟨p,0,none⟩)] 23)).alloc (.cells #[.slice none 0 0] 22)).alloc (.cells #[.func (.func 60) #[] #[.pointer (some ⟨w.heap.size,0,none⟩),.pointer (some ⟨w.heap.size+1,0,none⟩),.pointer (some ⟨w.heap.size+1+1,0,none⟩)]] 127))):=bnew (bnew (bnew (za0 w) _) _) _;generalize((w.alloc (.cells #[.pointer (some ⟨p,0,none⟩)] 23)).alloc (.cells #[.slice none 0 0] 22)).alloc (.cells #[.func (.func 60) #[] #[.pointer (some ⟨w.heap.size,0,none⟩),.pointer (some ⟨w.heap.size+1,0,none⟩),.pointer (some ⟨w.heap.size+1+1,0,none⟩)]] 127)=W3 at*;have C0:=Lib.hid c0;have C1:=Lib.hid c1;have hkeep:Hid (∀(W:World) (v:Value) (l:List Ent),OutAt W p w.heap.size v l→Below w.heap.size w W→W.cell? ⟨w.heap.size,0,none⟩=some (.pointer (some ⟨p,0,none⟩))∧W.cell? ⟨w.heap.size+1+1,0,none⟩=some (.func (.func 60) #[] #[.pointer (some ⟨w.heap.size,0,none⟩),.pointer (some ⟨w.heap.size+1,0,none⟩),.pointer (some ⟨w.heap.size+1+1,0,none⟩)])∧W.cell? ⟨p,0,none⟩=some (.slice A n c)∧W.cell? ⟨p,1,none⟩=some (.int .i64 base)):=fun W v l ho hb=>
   ⟨ho.cells.1,ho.cells.2.2,(hb.cell (p:=⟨p,0,none⟩) hpl).trans C0.out,(hb.cell (p:=⟨p,1,none⟩) hpl).trans C1.out⟩
  have K3:=Lib.hid (hkeep.out W3 _ _ HO.out HB.out);obtain⟨k0,k2,e0,e1⟩:=K3.out;clear c0 c1 c2 hsz hsf;go_region_held3 (fun w'=>w'.cell? ⟨w.heap.size,0,none⟩=some (.pointer (some ⟨p,0,none⟩))∧w'.cell? ⟨w.heap.size+1+1,0,none⟩=some (.func (.func 60) #[] #[.pointer (some ⟨w.heap.size,0,none⟩),.pointer (some ⟨w.heap.size+1,0,none⟩),.pointer (some ⟨w.heap.size+1+1,0,none⟩)])∧w'.cell? ⟨p,0,none⟩=some (.slice A n c)∧w'.cell? ⟨p,1,none⟩=some (.int .i64 base))
   (first
    |assumption
    |exact K3.out
    |exact hkeep.out _ _ _ HOC.out HBC.out)
   (first|(go_at_call 60;refine(HW.out _ (.slice none 0 0) (HO.out.below (by repeat(first|exact za0 _|refine Below.drew ?_))) (HB.out.trans ((show Below W3.heap.size W3 _ by repeat(first|exact za0 _|refine Below.drew ?_)).mono HB.out.size))).mono ?_;rintro e wC ⟨rfl,vC,hoC,hbC⟩;have HOC:=Lib.hid hoC;have HBC:=Lib.hid hbC))
  all_goals
   obtain⟨AC,cC,rfl,_⟩:=za1 HOC.out.own;obtain⟨_,kc1,_⟩:=HOC.out.cells;clear hoC hbC hkeep HW;go_wp2_with fail;go_ret;refine⟨_,rfl,⟨HOC.out.own.1,?_⟩,HBC.out⟩;rcases HOC.out.own.2 with hn|⟨g,cap,cur,hv,hg,rest⟩
   ·exact .inl hn
   ·exact .inr ⟨g,cap,cur,hv,by omega,rest⟩
end F
end Go.Proofs.YtaociahafamncaaGreatDoor
