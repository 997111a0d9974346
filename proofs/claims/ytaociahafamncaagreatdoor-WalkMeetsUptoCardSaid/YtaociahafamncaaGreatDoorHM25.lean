/- Folded. -/
import Derived.Test.YtaociahafamncaaGreatDoorHM24
set_option maxRecDepth 100000
set_option maxHeartbeats 40000000
namespace Go.Proofs.YtaociahafamncaaGreatDoor
section
open Go.RowKit
structure GRow where
 v:Value
 n:Nat
 xs:List Value
def GRow.nil:GRow:=⟨.slice none 0 0,0,[]⟩
def GRow.own(W:World)(base e s:Nat)(x:GRow):Prop:=W.ownsRow base e s x.v x.n x.xs
theorem GRow.own_nil(W:World)(base e s:Nat):GRow.nil.own W base e s:=⟨by simp[GRow.nil],.inl ⟨rfl,rfl⟩⟩
def GAp(x y:GRow):Prop:=x.v.ownBlock=none∨y.v.ownBlock=none∨x.v.ownBlock≠y.v.ownBlock
theorem GAp.symm{x y:GRow}(h:GAp x y):GAp y x:=by
 rcases h with h|h|h
 ·exact .inr (.inl h)
 ·exact .inl h
 ·exact .inr (.inr fun e=>h e.symm)
structure GFam(W:World)(base e s:Nat)(F:List GRow):Prop where
 own:∀x∈F,x.own W base e s
 ap:F.Pairwise GAp
section
variable {W W2:World}{base e s:Nat}{F a b:List GRow}{x y:GRow}
theorem GFam.below(h:GFam W base e s F)(hb:Below W.heap.size W W2):GFam W2 base e s F:=⟨fun x hx=>za2 (h.own x hx) hb,h.ap⟩
theorem GAp.kept{x z:GRow}(h:GAp z x):z.v.ownBlock=none∨z.v.ownBlock≠x.v.ownBlock:=by
 rcases h with h|h|h
 ·exact .inl h
 ·cases hz:z.v.ownBlock with
  |none=>exact .inl rfl
  |some g=>exact .inr (by rw[h];simp)
 ·exact .inr h
theorem GFam.grow(h:GFam W base e s (a++x::b))(hg:W.grownBy W2 x.v.ownBlock)(hy:y.own W2 base e s)(hm:y.v.ownBlock=x.v.ownBlock∨∃g,y.v.ownBlock=some g∧W.heap.size≤g):GFam W2 base e s (a++y::b):=by
 obtain⟨p1,p2,p3⟩:=List.pairwise_append.1 h.ap;obtain⟨p4,p5⟩:=List.pairwise_cons.1 p2;have hzx:∀z,z∈a∨z∈b→GAp z x:=fun z hz=>by
  rcases hz with hz|hz
  ·exact p3 z hz x (List.mem_cons_self ..)
  ·exact(p4 z hz).symm
 have hown:∀z,z∈a∨z∈b→z.own W base e s:=fun z hz=>h.own z (by
  rcases hz with hz|hz
  ·exact List.mem_append_left _ hz
  ·exact List.mem_append_right _ (List.mem_cons_of_mem _ hz))
 have hzy:∀z,z∈a∨z∈b→GAp z y:=fun z hz=>by
  rcases hm with hm|⟨g,hm,hgs⟩
  ·have:=hzx z hz;unfold GAp at this⊢;rw[hm];exact this
  ·cases hzb:z.v.ownBlock with
   |none=>exact .inl hzb
   |
    some k=>
    refine .inr (.inr ?_);rw[hzb,hm];intro e
    injection e with e
    have:=(World.ownsRow.lt (hown z hz) k hzb).2;omega
 refine⟨fun z hz=>?_,List.pairwise_append.2 ⟨p1,List.pairwise_cons.2 ⟨fun z hz=>(hzy z (.inr hz)).symm,p5⟩,fun z hz u hu=>?_⟩⟩
 ·rcases List.mem_append.1 hz with hz|hz
  ·exact World.ownsRow.kept (hown z (.inl hz)) hg (hzx z (.inl hz)).kept
  ·rcases List.mem_cons.1 hz with rfl|hz
   ·exact hy
   ·exact World.ownsRow.kept (hown z (.inr hz)) hg (hzx z (.inr hz)).kept
 ·rcases List.mem_cons.1 hu with rfl|hu
  ·exact hzy z (.inl hz)
  ·exact p3 z hz u (List.mem_cons_of_mem _ hu)
theorem GFam.head(h:GFam W base e s (x::F))(hg:W.grownBy W2 x.v.ownBlock)(hy:y.own W2 base e s)(hm:y.v.ownBlock=x.v.ownBlock∨∃g,y.v.ownBlock=some g∧W.heap.size≤g):GFam W2 base e s (y::F):=GFam.grow (a:=[]) h hg hy hm
theorem GFam.kept{row:Option Nat}(h:GFam W base e s F)(hg:W.grownBy W2 row)(hn:∀x∈F,x.v.ownBlock=none∨x.v.ownBlock≠row):GFam W2 base e s F:=⟨fun x hx=>World.ownsRow.kept (h.own x hx) hg (hn x hx),h.ap⟩
theorem GFam.nil(W:World)(base e s:Nat):GFam W base e s []:=⟨fun _ hx=>absurd hx List.not_mem_nil,List.Pairwise.nil⟩
theorem GFam.cons_nil(h:GFam W base e s F):GFam W base e s (GRow.nil::F):=⟨fun x hx=>by
 rcases List.mem_cons.1 hx with rfl|hx
 ·exact GRow.own_nil _ _ _ _
 ·exact h.own x hx,List.pairwise_cons.2 ⟨fun z _=>.inl rfl,h.ap⟩⟩
theorem GFam.turn(h:GFam W base e s (x::F)):GFam W base e s (F++[x]):=by
 obtain⟨h1,h2⟩:=List.pairwise_cons.1 h.ap;refine⟨fun z hz=>h.own z ?_,List.pairwise_append.2 ⟨h2,List.pairwise_singleton _ _,fun z hz u hu=>?_⟩⟩
 ·rcases List.mem_append.1 hz with hz|hz
  ·exact List.mem_cons_of_mem _ hz
  ·rw[List.mem_singleton.1 hz];exact List.mem_cons_self ..
 ·rw[List.mem_singleton.1 hu];exact(h1 z hz).symm
theorem GFam.tail(h:GFam W base e s (x::F)):GFam W base e s F:=⟨fun z hz=>h.own z (List.mem_cons_of_mem _ hz),(List.pairwise_cons.1 h.ap).2⟩
end
theorem GFam.fresh{W W2:World}{base e s:Nat}{F:List GRow}{y:GRow}(h:GFam W base e s F)(hb:Below W.heap.size W W2)(hbase:base≤W.heap.size)(hy:y.own W2 W.heap.size e s):GFam W2 base e s (y::F):=by
 refine⟨fun z hz=>?_,List.pairwise_cons.2 ⟨fun z hz=>?_,h.ap⟩⟩
 ·rcases List.mem_cons.1 hz with rfl|hz
  ·exact own_lower hy hbase
  ·exact za2 (h.own z hz) hb
 ·have:=zo7 (h.own z hz) hy (Nat.le_refl _);rcases this with h1|h1
  ·exact .inl h1
  ·exact .inr (.inr h1)
theorem GFam.swap{W:World}{base e s:Nat}{F:List GRow}{x y:GRow}(h:GFam W base e s (x::y::F)):GFam W base e s (y::x::F):=by
 obtain⟨h1,h2⟩:=List.pairwise_cons.1 h.ap;obtain⟨h3,h4⟩:=List.pairwise_cons.1 h2;refine⟨fun z hz=>h.own z (by simp only[List.mem_cons]at hz⊢;rcases hz with h|h|h<;>simp[h]),List.pairwise_cons.2 ⟨fun z hz=>?_,List.pairwise_cons.2 ⟨fun z hz=>h1 z (List.mem_cons_of_mem _ hz),h4⟩⟩⟩;rcases List.mem_cons.1 hz with rfl|hz
 ·exact(h1 y (List.mem_cons_self ..)).symm
 ·exact h3 z hz
theorem zbk{H:Type}{W:World}{kb m k t:Nat}{f:Nat×Nat}{cs:Array Value}{kt:TypeId}{R:Value→Option (DataW H×List MemPlace)}{N:DataW H}(hm:W.ownsMap Tryz.prog kt R kb m N)(hk:W.heap[k]? =some (.cells cs t f)):k≠kb:=by
 intro e
 subst e;obtain⟨es,clock,hb,_⟩:=hm;rw[hk]at hb;cases hb
theorem zaj{H:Type}{W:World}{b e s n kb m:Nat}{x:Value}{xs:List Value}{kt:TypeId}{R:Value→Option (DataW H×List MemPlace)}{N:DataW H}(h:W.ownsRow b e s x n xs)(hm:W.ownsMap Tryz.prog kt R kb m N):x.ownBlock=none∨x.ownBlock≠some kb:=by
 rcases h.2 with⟨rfl,_⟩|⟨g,cap,cur,rfl,_,hg,_⟩
 ·exact .inl rfl
 ·refine .inr fun e=>?_
  simp only[Value.ownBlock,Option.some.injEq]at e;exact zbk hm hg e
end
section
open Go.RowKit
theorem z25:Elem Tryz.prog 35 74 2 32:=Elem.mk_ Tryz.underlying35 (z:=.agg #[.bool false,.slice none 0 0]) (by kernel_rfl) rfl (by omega)
def Sh.row(x:Sh):GRow:=⟨.slice x.A x.d.2.length x.c,x.d.2.length,zaa x.d.2⟩
structure OwnSts(W:World)(base:Nat)(v:Value)(hs:List Sh):Prop where
 out:W.ownsRow base 74 2 v hs.length (hs.flatMap Sh.hdr)
 fam:GFam W base 76 3 (hs.map Sh.row)
theorem OwnSts.keep{W W':World}{base:Nat}{v:Value}{hs:List Sh}(h:OwnSts W base v hs)(hb:Below W.heap.size W W'):OwnSts W' base v hs:=⟨za2 h.out hb,h.fam.below hb⟩
theorem OwnSts.sts{W:World}{base n c:Nat}{A:Option Addr}{hs:List Sh}(h:OwnSts W base (.slice A n c) hs)(hn:hs.length=n)(hm:n≤140737488355328)(hs2:∀x∈hs,x.d.2.length≤140737488355328):StsIn W W.heap.size A n c hs:=by
 subst hn;obtain⟨A1,c1,e1,h1⟩:=za1 h.out;injection e1 with _ _ e1
 refine⟨rfl,Sl.of_own h.out,by omega,hm,fun x hx=>?_⟩;have ho:W.ownsRow base 76 3 (.slice x.A x.d.2.length x.c) x.d.2.length (zaa x.d.2):=h.fam.own x.row (List.mem_map.2 ⟨x,hx,rfl⟩);obtain⟨A2,c2,e2,h2⟩:=za1 ho;injection e2 with _ _ e2
 exact⟨Sl.of_own ho,by omega,hs2 x hx⟩
structure NuR(w W:World)(nb nn mb mn:Nat)(N1 N2:DataW Unit)(Af:Option Addr)(p cf:Nat)(met:List Nat)(Ao:Option Addr)(q co:Nat)(cur:GRow)(ex:List GRow)(hs:List Sh):Prop where
 bel:Below w.heap.size w W
 num:zqb W nb nn N1
 mem:zqb W mb mn N2
 ne:nb≠mb
 nlo:w.heap.size≤nb
 mlo:w.heap.size≤mb
 fst:W.ownsRow w.heap.size 3 1 (.slice Af p cf) p (met.map fun z:Nat=>Value.int .i64 (z:Int))
 out:W.ownsRow w.heap.size 74 2 (.slice Ao q co) q (hs.flatMap Sh.hdr)
 fam:GFam W w.heap.size 76 3 (cur::(ex++hs.map Sh.row))
section
variable {w W W':World}{nb nn mb mn:Nat}{N1 N2:DataW Unit}{Af:Option Addr}{p cf:Nat}{met:List Nat}{Ao:Option Addr}{q co:Nat}{cur:GRow}{ex:List GRow}{hs:List Sh}
theorem NuR.keep(h:NuR w W nb nn mb mn N1 N2 Af p cf met Ao q co cur ex hs)(hb:Below W.heap.size W W'):NuR w W' nb nn mb mn N1 N2 Af p cf met Ao q co cur ex hs:=
 ⟨za9 h.bel hb,zw2 h.num hb,zw2 h.mem hb,h.ne,h.nlo,h.mlo,za2 h.fst hb,za2 h.out hb,h.fam.below hb⟩
theorem NuR.putN(h:NuR w W nb nn mb mn N1 N2 Af p cf met Ao q co cur ex hs){N3:DataW Unit}(hm:zqb W' nb (nn+1) N3)(hg:W.grownBy W' (some nb)):
  NuR w W' nb (nn+1) mb mn N3 N2 Af p cf met Ao q co cur ex hs∧∀(k:Nat) (cs:Array Value) (e:TypeId) (z:Nat×Nat),W.heap[k]? =some (.cells cs e z)→W'.heap[k]? =some (.cells cs e z):=by
 refine⟨⟨h.bel.grown hg h.bel.size (fun r hr=>by injection hr with hr;have:=h.nlo;omega),hm,h.mem.kept hg (fun e=>h.ne (by injection e with e;exact e.symm)),h.ne,h.nlo,h.mlo,h.fst.kept hg (zaj h.fst h.num),h.out.kept hg (zaj h.out h.num),h.fam.kept hg fun x hx=>zaj (h.fam.own x hx) h.num⟩,fun k cs e z hk=>?_⟩;exact(hg.block k (Array.getElem?_eq_some_iff.1 hk).1 (fun e=>zbk h.num hk (by injection e))).trans hk
theorem NuR.putM(h:NuR w W nb nn mb mn N1 N2 Af p cf met Ao q co cur ex hs){N3:DataW Unit}(hm:zqb W' mb (mn+1) N3)(hg:W.grownBy W' (some mb)):
  NuR w W' nb nn mb (mn+1) N1 N3 Af p cf met Ao q co cur ex hs∧∀(k:Nat) (cs:Array Value) (e:TypeId) (z:Nat×Nat),W.heap[k]? =some (.cells cs e z)→W'.heap[k]? =some (.cells cs e z):=by
 refine⟨⟨h.bel.grown hg h.bel.size (fun r hr=>by injection hr with hr;have:=h.mlo;omega),h.num.kept hg (fun e=>h.ne (by injection e with e)),hm,h.ne,h.nlo,h.mlo,h.fst.kept hg (zaj h.fst h.mem),h.out.kept hg (zaj h.out h.mem),h.fam.kept hg fun x hx=>zaj (h.fam.own x hx) h.mem⟩,fun k cs e z hk=>?_⟩;exact(hg.block k (Array.getElem?_eq_some_iff.1 hk).1 (fun e=>zbk h.mem hk (by injection e))).trans hk
theorem zf8{b e s n kb m:Nat}{x:Value}{xs:List Value}{N:DataW Unit}(h:W.ownsRow b e s x n xs)(hm:zqb W kb m N)(hg:W.grownBy W' x.ownBlock):zqb W' kb m N:=by
 refine hm.kept hg fun e'=>?_
 rcases zaj h hm with h1|h1
 ·rw[h1]at e';cases e'
 ·exact h1 e'.symm
theorem NuR.growF(h:NuR w W nb nn mb mn N1 N2 Af p cf met Ao q co cur ex hs){A9:Option Addr}{c9 z:Nat}(hg:W.grownBy W' (Value.slice Af p cf).ownBlock)(hy:W'.ownsRow w.heap.size 3 1 (.slice A9 (p+1) c9) (p+1) ((met.map fun z:Nat=>Value.int .i64 (z:Int))++[.int .i64 (z:Int)])):
  NuR w W' nb nn mb mn N1 N2 A9 (p+1) c9 (met++[z]) Ao q co cur ex hs∧∀(k:Nat) (cs:Array Value) (e:TypeId) (z:Nat×Nat),e≠3→W.heap[k]? =some (.cells cs e z)→W'.heap[k]? =some (.cells cs e z):=by
 refine⟨⟨h.bel.grown hg h.bel.size (fun r hr=>(h.fst.lt r hr).1),zf8 h.fst h.num hg,zf8 h.fst h.mem hg,h.ne,h.nlo,h.mlo,?_,h.out.kept hg (za4 h.fst h.out (by decide)),h.fam.kept hg fun x hx=>za4 h.fst (h.fam.own x hx) (by decide)⟩,fun k cs e z he hk=>zc3 h.fst hg hk he⟩;rw[List.map_append];exact hy
theorem NuR.growC(h:NuR w W nb nn mb mn N1 N2 Af p cf met Ao q co cur ex hs){y:GRow}(hg:W.grownBy W' cur.v.ownBlock)(hy:y.own W' w.heap.size 76 3)(hm:y.v.ownBlock=cur.v.ownBlock∨∃g,y.v.ownBlock=some g∧W.heap.size≤g):
  NuR w W' nb nn mb mn N1 N2 Af p cf met Ao q co y ex hs∧∀(k:Nat) (cs:Array Value) (e:TypeId) (z:Nat×Nat),e≠76→W.heap[k]? =some (.cells cs e z)→W'.heap[k]? =some (.cells cs e z):=by
 have hr:W.ownsRow w.heap.size 76 3 cur.v cur.n cur.xs:=h.fam.own cur (List.mem_cons_self ..);refine⟨⟨h.bel.grown hg h.bel.size (fun r hq=>(hr.lt r hq).1),zf8 hr h.num hg,zf8 hr h.mem hg,h.ne,h.nlo,h.mlo,h.fst.kept hg (za4 hr h.fst (by decide)),h.out.kept hg (za4 hr h.out (by decide)),h.fam.head hg hy hm⟩,fun k cs e z he hk=>zc3 hr hg hk he⟩
theorem NuR.growO{x:Sh}(h:NuR w W nb nn mb mn N1 N2 Af p cf met Ao q co x.row [] hs){A9:Option Addr}{c9:Nat}(hg:W.grownBy W' (Value.slice Ao q co).ownBlock)(hy:W'.ownsRow w.heap.size 74 2 (.slice A9 (q+1) c9) (q+1) (hs.flatMap Sh.hdr++x.hdr)):
  NuR w W' nb nn mb mn N1 N2 Af p cf met A9 (q+1) c9 GRow.nil [] (hs++[x]):=by
 refine⟨h.bel.grown hg h.bel.size (fun r hr=>(h.out.lt r hr).1),zf8 h.out h.num hg,zf8 h.out h.mem hg,h.ne,h.nlo,h.mlo,h.fst.kept hg (za4 h.out h.fst (by decide)),?_,?_⟩
 ·rw[List.flatMap_append];simpa using hy
 ·have h1:=(h.fam.turn.kept hg fun z hz=>za4 h.out (h.fam.turn.own z hz) (by decide)).cons_nil;rw[List.nil_append]at h1⊢;rw[List.map_append];exact h1
end
structure NumIs(N:DataW Unit)(cls:Nat→Nat)(met:List Nat):Prop where
 map:Maps.IsMap N
 has:∀k:Nat,hasI N k=(zai (fun z=>decide (cls z=k)) met).isSome
 num:∀k i:Nat,zai (fun z=>decide (cls z=k)) met=some i→numI N k=(i:Int)
theorem NumIs.put{N:DataW Unit}{cls:Nat→Nat}{met:List Nat}(h:NumIs N cls met){k z:Nat}(hk:zai (fun z=>decide (cls z=k)) met=none)(hz:cls z=k):NumIs (N.put (.int .i64 (k:Int)) (.lit (.int .i64 (met.length:Nat)))) cls (met++[z]):=by
 refine⟨h.map.put _ _,fun j=>?_,fun j i hj=>?_⟩
 ·rw[zD8 h.map,h.has j,zba];by_cases e:j=k
  ·subst e;rw[hk];simp[zai,hz]
  ·have:¬(j:Int)=(k:Int):=by omega
   rw[decide_eq_false this,Bool.false_or];cases hf:zai (fun z=>decide (cls z=j)) met with
   |some i=>rfl
   |none=>simp[zai,hz,show¬k=j from fun e'=>e e'.symm]
 ·rw[z0e h.map];rw[zba]at hj;by_cases e:j=k
  ·subst e;rw[hk]at hj;simp[zai,hz]at hj
   rw[if_pos rfl,hj]
  ·rw[if_neg (by omega)];cases hf:zai (fun z=>decide (cls z=j)) met with
   |some q=>rw[hf]at hj;injection hj with hj;subst hj;exact h.num j q hf
   |
    none=>
    rw[hf]at hj;simp[zai,hz,show¬k=j from fun e'=>e e'.symm]at hj
theorem z7i{W:World}{b n g c j q:Nat}{l:List Arc3}{a:Arc3}{u:Value}(h:W.ownsRow b 76 3 (.slice (some ⟨g,0,none⟩) n c) n (zaa l))(ha:l[j]? =some a)(hu:(arcC a)[q]? =some u)(hq:q<3):W.cell? ⟨g,j*3+q,none⟩=some u:=by
 have:=h.cells (g:=g) rfl (j*3+q) u (by unfold zaa;rw[zc7 arcC 3 (fun _=>rfl) l j q a ha hq];exact hu);rwa[Addr.add_lit,Nat.zero_add]at this
theorem z91{d:List St}{L:List Bool}{C:List Int}(hg:Good d)(hl:∀(x:Nat) b,L[x]? =some b→(b=true↔(auOf d).live x))(hL:L.length=d.length){x:Nat}{s:St}(hs:d[x]? =some s):ledA (ledF L C) s.2=runs (gOf d (fun x=>(C.getD x 0).toNat) x) 256:=by
 have hsm:=List.mem_of_getElem? hs;rw[zw4 (ledF L C) s.2 256 (hg.asc s hsm)];refine zcc 256 fun c _=>?_
 have hst:(auOf d).step x c=(lookA s.2 c).map Int.toNat:=by
  show(d[x]?).bind (fun s=>(lookA s.2 c).map Int.toNat)=_;rw[hs];rfl
 unfold gOf Au.stepL;rw[hst];cases hk:lookA s.2 (c:Int)with
 |none=>rfl
 |
  some k=>
  obtain⟨a,ha,hak,_⟩:=zig hk;have hkb:=hg.to_ s hsm a ha;rw[hak]at hkb;have hkn:k.toNat<d.length:=by omega
  obtain⟨b,hb⟩:∃b,L[k.toNat]? =some b:=⟨L[k.toNat]'(by omega),List.getElem?_eq_getElem _⟩;have hlb:=hl _ b hb;simp only[Option.map_some,Option.bind_some];unfold ledF;rw[List.getD_eq_getElem?_getD,hb];cases b with
  |
   true=>
   rw[if_pos (hlb.1 rfl)];simp
  |
   false=>
   have hn:¬(auOf d).live k.toNat:=fun h=>by have:=hlb.2 h;cases this
   simp[hn]
theorem NuR.enter{w W W':World}{nb nn mb mn:Nat}{N1 N2:DataW Unit}{Af:Option Addr}{p cf:Nat}{met:List Nat}{Ao:Option Addr}{q co:Nat}{cur y:GRow}{hs:List Sh}(h:NuR w W nb nn mb mn N1 N2 Af p cf met Ao q co cur [] hs)(hb:Below W.heap.size W W')(hy:y.own W' W.heap.size 76 3):NuR w W' nb nn mb mn N1 N2 Af p cf met Ao q co cur [y] hs:=by
 have h1:=h.keep hb;exact⟨h1.bel,h1.num,h1.mem,h1.ne,h1.nlo,h1.mlo,h1.fst,h1.out,(h.fam.fresh hb h.bel.size hy).swap⟩
theorem NuR.leave{w W:World}{nb nn mb mn:Nat}{N1 N2:DataW Unit}{Af:Option Addr}{p cf:Nat}{met:List Nat}{Ao:Option Addr}{q co:Nat}{cur y:GRow}{hs:List Sh}(h:NuR w W nb nn mb mn N1 N2 Af p cf met Ao q co cur [y] hs):NuR w W nb nn mb mn N1 N2 Af p cf met Ao q co cur [] hs:=
 ⟨h.bel,h.num,h.mem,h.ne,h.nlo,h.mlo,h.fst,h.out,h.fam.swap.tail⟩
theorem zvk(cls:Nat→Nat)(met:List Nat)(A:List Arc3)(a:Arc3):numA cls met (A++[a])=numA cls met A++[(a.1,a.2.1,(numK cls met a.2.2.toNat:Int))]:=by
 unfold numA;rw[List.map_append];rfl
theorem z87{cls rep:Nat→Nat}{met:List Nat}{T:List Arc3}{lo hi:Int}{k q:Nat}(hf:zai (fun z=>decide (cls z=k)) met=some q):addC cls rep met k=met∧numA cls met (T++[(lo,hi,(k:Int))])=numA cls met T++[(lo,hi,(q:Int))]:=by
 refine⟨zse hf,?_⟩;rw[zvk];simp only[Int.toNat_natCast];unfold numK;rw[hf];rfl
theorem z88{cls rep:Nat→Nat}{met:List Nat}{T:List Arc3}{lo hi:Int}{k:Nat}(hf:zai (fun z=>decide (cls z=k)) met=none)(hr:cls (rep k)=k)(hall:∀b∈T,∃i,zai (fun z=>decide (cls z=b.2.2.toNat)) met=some i):addC cls rep met k=met++[rep k]∧numA cls (met++[rep k]) (T++[(lo,hi,(k:Int))])=numA cls met T++[(lo,hi,(met.length:Int))]:=by
 constructor
 ·unfold addC;rw[hf];rfl
 ·rw[zvk,zw0 hall];simp only[Int.toNat_natCast];unfold numK;rw[zba,hf];simp[zai,hr]
end
section
open Go.RowKit
def Cp(w:World)(e size:Nat)(A:Option Addr)(m c:Nat)(news:List Value):Prop:=(m=0∧news=[])∨w.ownsRow 0 e size (.slice A m c) m news
theorem Cp.sl{w:World}{e size m c:Nat}{A:Option Addr}{news:List Value}(h:Cp w e size A m c news):Sl w w.heap.size size A m news:=by
 rcases h with⟨rfl,rfl⟩|h
 ·exact Sl.empty
 ·exact Sl.of_own h
theorem Cp.below{w w':World}{e size m c:Nat}{A:Option Addr}{news:List Value}(h:Cp w e size A m c news)(hb:Below w.heap.size w w'):Cp w' e size A m c news:=by
 rcases h with h|h
 ·exact .inl h
 ·exact .inr (za2 h hb)
theorem Cp.grown{w w':World}{e size m c:Nat}{A:Option Addr}{news:List Value}(h:Cp w e size A m c news){b1 e1 s1 n1:Nat}{v1:Value}{x1:List Value}(h1:w.ownsRow b1 e1 s1 v1 n1 x1)(hg:w.grownBy w' v1.ownBlock)(he:e1≠e):Cp w' e size A m c news:=by
 rcases h with h|h
 ·exact .inl h
 ·exact .inr (h.kept hg (za4 h1 h he))
theorem zlc{P:Program}{ops:Array Oper}{o:Oper}{a:Act}{K:Act→World→Prop}{Q:Exit→Act→World→Prop}{E:Prop}(w0 wx:World)(cs:Array Value)(hgd:o.guard=none)(s x:Operand)(t:TypeId)
  (ho:o.op=.call {callee:=.builtin .append,args:= #[s,x],argTypes:= #[t,t]})
  {base e size bytes:Nat} (he:Elem P t e size bytes) (v:Value) (n:Nat) (xs:List Value) (hs:a.eval s=v) (hown:wx.ownsRow base e size v n xs)
  {nb m:Nat} (hx:a.eval x=.slice (some ⟨nb,0,none⟩) m m) (hxc:wx.heap[nb]? =some (.cells cs e (0,0)))
  (hl:cs.size=m*size) (h1:∀u∈cs.toList,u.oneCell'=true) (hm:0<m)
  (h63:n+m≤maxLen) (hbytes:(n+m)*bytes≤140737488355328) (hbase:base≤wx.heap.size) (hb:Below base w0 wx)
  (h:∀g cap w',w'.ownsRow base e size (.slice (some ⟨g,0,none⟩) (n+m) cap) (n+m) (xs++cs.toList)→Below base w0 w'→wx.grownBy w' v.ownBlock→K (a.put o.dst (.slice (some ⟨g,0,none⟩) (n+m) cap)) w'):
  if Region.wanted o (yielded ops a.tmps)=true then Oper.wp P o a wx K Q else E:=by
 obtain⟨ht,i,z,hi,hz,hsz,hby,hzs,hpos⟩:=he;refine step_append_lies wx hgd s x t ho base e i z size bytes ht hi hz hsz hby hzs hpos v n xs hs hown ⟨nb,0,none⟩ m m cs.toList hx (by simpa using hl) ?_ h1 hm h63 hbytes hbase _ rfl ?_
 ·intro j u hu
  rw[Addr.add_lit,Nat.zero_add,cell_of_row _ nb j cs e (0,0) hxc];simpa using hu
 ·intro g cap w' h2 h3 _ _
  exact h g cap w' h2 (hb.grown h3 hbase (fun k hk=>(hown.lt k hk).1)) h3
end
section
open Go.RowKit
theorem znb:Elem Tryz.prog 132 134 3 56:=Elem.mk_ Tryz.underlying132 (z:=.agg #[.bool false,.slice none 0 0,.slice none 0 0]) (by kernel_rfl) rfl (by omega)
theorem zg5{P:Program}{ops:Array Oper}{o:Oper}{a:Act}{K:Act→World→Prop}{Q:Exit→Act→World→Prop}{E:Prop}(w:World)(hgd:o.guard=none)(s x:Operand)(t:TypeId)
  (ho:o.op=.call {callee:=.builtin .append,args:= #[s,x],argTypes:= #[t,t]})
  {base e size bytes:Nat} (he:Elem P t e size bytes) (v:Value) (n:Nat) (xs:List Value) (hs:a.eval s=v) (hown:w.ownsRow base e size v n xs)
  {B:Nat}{A:Option Addr}{m c:Nat}{news:List Value} (hx:a.eval x=.slice A m c) (hsl:Sl w B size A m news) (hc:A=none→m=0) (h1:∀u∈news,u.oneCell'=true)
  (h63:n+m≤maxLen) (hbytes:(n+m)*bytes≤140737488355328) (hbase:base≤w.heap.size)
  (h:∀v' w',w'.ownsRow base e size v' (n+m) (xs++news)→w.grownBy w' v.ownBlock→(v'.ownBlock=v.ownBlock∨∃g,v'.ownBlock=some g∧w.heap.size≤g)→K (a.put o.dst v') w'):
  if Region.wanted o (yielded ops a.tmps)=true then Oper.wp P o a w K Q else E:=by
 have hw:Region.wanted o (yielded ops a.tmps)=true:=by simp[Region.wanted,hgd]
 rw[if_pos hw];obtain⟨v',w',hrun,h2,h3,h4⟩:=zk4 (P:=P) (ty:=o.type) w he hown hsl (c:=c) hc h1 h63 hbytes hbase;unfold Oper.wp;simp[execOp,ho,resolve,invoke,builtin,hs,hx,hrun,Result.andThen]
 exact h v' w' h2 h3 h4
theorem zm6(l:List Arc3):∀u∈zaa l,u.oneCell'=true:=fun u hu=>by
 unfold zaa at hu;obtain⟨a,_,h⟩:=List.mem_flatMap.1 hu;simp only[arcC,List.mem_cons,List.not_mem_nil,or_false]at h;rcases h with rfl|rfl|rfl<;>rfl
theorem zlk(l:List Int):∀u∈l.map (Value.int .i64),u.oneCell'=true:=fun u hu=>by
 obtain⟨z,_,rfl⟩:=List.mem_map.1 hu;rfl
theorem Sl.none_{w:World}{B size n:Nat}{A:Option Addr}{xs:List Value}(h:Sl w B size A n xs)(hA:A=none):n=0:=by
 rcases Nat.eq_zero_or_pos n with h0|h0
 ·exact h0
 ·obtain⟨b,off,e,_⟩:=h.2 h0;rw[e]at hA;cases hA
def Lsh.arow(x:Lsh):GRow:=⟨.slice x.A x.d.arcs.length x.c,x.d.arcs.length,zaa x.d.arcs⟩
def Lsh.frow(x:Lsh):GRow:=⟨.slice x.F x.d.free.length x.e,x.d.free.length,x.d.free.map (.int .i64)⟩
structure LoR(w W:World)(v:Value)(n:Nat)(hs:List Lsh):Prop where
 out:W.ownsRow w.heap.size 134 3 v n (hs.flatMap Lsh.hdr)
 ar:GFam W w.heap.size 76 3 (hs.map Lsh.arow)
 fr:GFam W w.heap.size 3 1 (hs.map Lsh.frow)
 bel:Below w.heap.size w W
theorem zn4(hs:List Lsh):(hs.flatMap Lsh.hdr).length=hs.length*3:=flat_length Lsh.hdr 3 (fun _=>rfl) hs
section
variable {w W W':World}{v:Value}{n:Nat}{hs:List Lsh}
theorem LoR.len(h:LoR w W v n hs):hs.length=n:=by
 have:=h.out.1;rw[zn4]at this;omega
theorem LoR.keep(h:LoR w W v n hs)(hb:Below W.heap.size W W'):LoR w W' v n hs:=⟨za2 h.out hb,h.ar.below hb,h.fr.below hb,za9 h.bel hb⟩
theorem LoR.push{W1:World}{v':Value}{x:Lsh}(h:LoR w W v n hs)(hb:Below W.heap.size W W1)(ha:W1.ownsRow W.heap.size 76 3 (.slice x.A x.d.arcs.length x.c) x.d.arcs.length (zaa x.d.arcs))(hf:W1.ownsRow W.heap.size 3 1 (.slice x.F x.d.free.length x.e) x.d.free.length (x.d.free.map (.int .i64)))
  (hg:W1.grownBy W' v.ownBlock) (ho:W'.ownsRow w.heap.size 134 3 v' (n+1) (hs.flatMap Lsh.hdr++x.hdr)):LoR w W' v' (n+1) (hs++[x]):=by
 have h1:=za2 h.out hb;refine⟨by rw[List.flatMap_append];simpa using ho,?_,?_,(za9 h.bel hb).grown hg (za9 h.bel hb).size fun r hr=>(h.out.lt r hr).1⟩
 ·have h2:=(h.ar.fresh (y:=x.arow) hb h.bel.size ha).turn;rw[List.map_append];exact h2.kept hg fun z hz=>za4 h1 (h2.own z hz) (by decide)
 ·have h2:=(h.fr.fresh (y:=x.frow) hb h.bel.size hf).turn;rw[List.map_append];exact h2.kept hg fun z hz=>za4 h1 (h2.own z hz) (by decide)
theorem LoR.bare{v':Value}(h:LoR w W v n hs)(hg:W.grownBy W' v.ownBlock)(ho:W'.ownsRow w.heap.size 134 3 v' (n+1) (hs.flatMap Lsh.hdr++[.bool false,.slice none 0 0,.slice none 0 0])):LoR w W' v' (n+1) (hs++[⟨⟨false,[],[]⟩,none,0,none,0⟩]):=
 h.push (za0 W) ⟨rfl,.inl ⟨rfl,rfl⟩⟩ ⟨rfl,.inl ⟨rfl,rfl⟩⟩ hg ho
theorem LoR.lo{A:Option Addr}{c:Nat}(h:LoR w W (.slice A n c) n hs)(hn:n≤2097152)(ha:∀x∈hs,x.d.arcs.length≤2097152)(hf:∀x∈hs,x.d.free.length≤2097152):LoIn W W.heap.size A n c hs:=by
 obtain⟨A1,c1,e1,h1⟩:=za1 h.out;injection e1 with _ _ e1
 refine⟨h.len,Sl.of_own h.out,by omega,hn,fun x hx=>?_,fun x hx=>?_⟩
 ·have ho:W.ownsRow w.heap.size 76 3 (.slice x.A x.d.arcs.length x.c) x.d.arcs.length (zaa x.d.arcs):=h.ar.own x.arow (List.mem_map.2 ⟨x,hx,rfl⟩);obtain⟨A2,c2,e2,h2⟩:=za1 ho;injection e2 with _ _ e2
  exact⟨Sl.of_own ho,by omega,ha x hx⟩
 ·have ho:W.ownsRow w.heap.size 3 1 (.slice x.F x.d.free.length x.e) x.d.free.length (x.d.free.map (.int .i64)):=h.fr.own x.frow (List.mem_map.2 ⟨x,hx,rfl⟩);obtain⟨A2,c2,e2,h2⟩:=za1 ho;injection e2 with _ _ e2
  exact⟨Sl.of_own ho,by omega,hf x hx,(Sl.of_own ho).none_⟩
end
theorem zu5{W:World}{b n g c j:Nat}{hs:List Lsh}{x:Lsh}(h:W.ownsRow b 134 3 (.slice (some ⟨g,0,none⟩) n c) n (hs.flatMap Lsh.hdr))(hx:hs[j]? =some x):W.cell? ⟨g,j*3,none⟩=some (.bool x.d.fin)∧W.cell? ⟨g,j*3+1,none⟩=some (.slice x.A x.d.arcs.length x.c)∧W.cell? ⟨g,j*3+2,none⟩=some (.slice x.F x.d.free.length x.e):=by
 have k:∀q u,x.hdr[q]? =some u→q<3→W.cell? ⟨g,j*3+q,none⟩=some u:=fun q u hu hq=>by
  have:=h.cells (g:=g) rfl (j*3+q) u (by rw[zc7 Lsh.hdr 3 (fun _=>rfl) hs j q x hx hq];exact hu);rwa[Addr.add_lit,Nat.zero_add]at this
 exact⟨k 0 _ rfl (by omega),k 1 _ rfl (by omega),k 2 _ rfl (by omega)⟩
def zi7(W W':World):Prop:=∀(b e s n:Nat) (v:Value) (xs:List Value),e≠76→e≠134→W.ownsRow b e s v n xs→W'.ownsRow b e s v n xs
theorem zi7.below{W W':World}(h:Below W.heap.size W W'):zi7 W W':=fun _ _ _ _ _ _ _ _ ho=>za2 ho h
theorem zi7.trans{a b c:World}(h:zi7 a b)(h':zi7 b c):zi7 a c:=fun x e s n v xs h1 h2 ho=>h' x e s n v xs h1 h2 (h x e s n v xs h1 h2 ho)
theorem zi7.loose{W W':World}{b s n:Nat}{v:Value}{xs:List Value}(ho:W.ownsRow b 134 s v n xs)(hg:W.grownBy W' v.ownBlock):zi7 W W':=fun _ _ _ _ _ _ _ h2 ho2=>ho2.kept hg (za4 ho ho2 fun h=>h2 h.symm)
theorem LoR.arc{w W W':World}{g n c i:Nat}{hs:List Lsh}{x:Lsh}{a:Arc3}{A2:Option Addr}{c2:Nat}(h:LoR w W (.slice (some ⟨g,0,none⟩) n c) n hs)(hx:hs[i]? =some x)(hg:W.grownBy W' (Value.slice x.A x.d.arcs.length x.c).ownBlock)
  (hy:W'.ownsRow w.heap.size 76 3 (.slice A2 (x.d.arcs.length+1) c2) (x.d.arcs.length+1) (zaa x.d.arcs++arcC a)) (hm:(Value.slice A2 (x.d.arcs.length+1) c2).ownBlock=(Value.slice x.A x.d.arcs.length x.c).ownBlock∨∃q,(Value.slice A2 (x.d.arcs.length+1) c2).ownBlock=some q∧W.heap.size≤q):
  LoR w (W'.setCell ⟨g,i*3+1,none⟩ (.slice A2 (x.d.arcs.length+1) c2)) (.slice (some ⟨g,0,none⟩) n c) n (hs.set i ⟨⟨x.d.fin,x.d.arcs++[a],x.d.free⟩,A2,c2,x.F,x.e⟩)∧
  W'.cell? ⟨g,i*3+1,none⟩=some (.slice x.A x.d.arcs.length x.c)∧W'.frozen? ⟨g,i*3+1,none⟩=false∧g<W'.heap.size∧zi7 W (W'.setCell ⟨g,i*3+1,none⟩ (.slice A2 (x.d.arcs.length+1) c2)):=by
 have hxa:W.ownsRow w.heap.size 76 3 (.slice x.A x.d.arcs.length x.c) x.d.arcs.length (zaa x.d.arcs):=h.ar.own x.arow (List.mem_map.2 ⟨x,List.mem_of_getElem? hx,rfl⟩);have hbel:=h.bel.grown hg h.bel.size fun r hr=>(hxa.lt r hr).1
 have ho1:=h.out.kept hg (za4 hxa h.out (by decide));obtain⟨q1,q2,cs,q3⟩:=zb3 ho1;obtain⟨_,k1,_⟩:=zu5 ho1 hx;have hxr:(hs.map Lsh.arow)[i]? =some x.arow:=by rw[List.getElem?_map,hx];rfl
 refine⟨⟨?_,?_,?_,below_set hbel q1 (Nat.le_refl _)⟩,k1,free_at q3 _,q2,fun b e s n' v xs he1 he2 ho=>zb9 (ho.kept hg (za4 hxa ho fun h=>he1 h.symm)) q3 fun h=>he2 h.symm⟩
 ·have h1:=zf0 (j:=i*3+1) (u:=.slice A2 (x.d.arcs.length+1) c2) ho1;have e:(hs.flatMap Lsh.hdr).set (i*3+1) (.slice A2 (x.d.arcs.length+1) c2)=(hs.set i ⟨⟨x.d.fin,x.d.arcs++[a],x.d.free⟩,A2,c2,x.F,x.e⟩).flatMap Lsh.hdr:=by
   rw[zfa hx];conv=>lhs;rw[zgh hx]
   have hl:((hs.take i).flatMap Lsh.hdr).length=i*3:=by rw[zn4,List.length_take,Nat.min_eq_left (by have:=(List.getElem?_eq_some_iff.1 hx).1;omega)]
   rw[List.flatMap_append,List.flatMap_append,List.flatMap_cons,List.flatMap_cons,List.set_append_right _ _ (by omega),hl,Nat.add_sub_cancel_left];unfold Lsh.hdr;simp
  rw[e]at h1;exact h1
 ·rw[List.map_set];have h1:=h.ar;rw[zgh hxr]at h1;have h2:=h1.grow (W2:=W') (y:=(⟨⟨x.d.fin,x.d.arcs++[a],x.d.free⟩,A2,c2,x.F,x.e⟩:Lsh).arow) hg (by
   show W'.ownsRow _ _ _ (.slice A2 (x.d.arcs++[a]).length c2) (x.d.arcs++[a]).length (zaa (x.d.arcs++[a]));rw[List.length_append,List.length_singleton,zge];exact hy) (by
   show(Value.slice A2 (x.d.arcs++[a]).length c2).ownBlock=_∨∃q,(Value.slice A2 (x.d.arcs++[a]).length c2).ownBlock=some q∧_;rw[List.length_append,List.length_singleton];exact hm)
  rw[←zfa hxr]at h2;exact h2.kept (za7 _ _ _) fun z hz=>za5 (h2.own z hz) q3 (by decide)
 ·rw[List.map_set];have e:(hs.map Lsh.frow).set i (⟨⟨x.d.fin,x.d.arcs++[a],x.d.free⟩,A2,c2,x.F,x.e⟩:Lsh).frow=hs.map Lsh.frow:=by
   have e2:(⟨⟨x.d.fin,x.d.arcs++[a],x.d.free⟩,A2,c2,x.F,x.e⟩:Lsh).frow=x.frow:=rfl;rw[e2];apply List.ext_getElem?
   intro j
   by_cases hj:i=j
   ·subst hj;rw[List.getElem?_set_self (by rw[List.length_map];exact(List.getElem?_eq_some_iff.1 hx).1),List.getElem?_map,hx];rfl
   ·rw[List.getElem?_set_ne hj]
  rw[e];have h2:=h.fr.kept hg fun z hz=>za4 hxa (h.fr.own z hz) (by decide)
  exact h2.kept (za7 _ _ _) fun z hz=>za5 (h2.own z hz) q3 (by decide)
end
end Go.Proofs.YtaociahafamncaaGreatDoor
