/- Folded. -/
import Derived.Test.YtaociahafamncaaGreatDoorHM5
import Derived.Sort.Walk0
import Derived.Maps.OwnSet
import Derived.Maps.OwnOps
import Derived.Maps.Ext
import Derived.StringKeys
import Derived.Deep.RegionLawGrows
set_option maxRecDepth 100000
set_option maxHeartbeats 40000000
namespace Go.Proofs.YtaociahafamncaaGreatDoor
namespace F
open Go.RowKit
def idx:List (List UInt8)→List UInt8→Option Nat
 |[],_=>none
 |x::r,s=>if x=s then some 0 else(idx r s).map (· +1)
theorem zii(ss:List (List UInt8))(x s:List UInt8):idx (ss++[x]) s=match idx ss s with
  |some i=>some i
  |none=>if x=s then some ss.length else none:=by
 induction ss with
 |nil=>simp[idx]
 |
  cons y r ih=>
  rw[List.cons_append,idx,idx,ih];by_cases h:y=s
  ·simp[h]
  ·simp only[h,if_false];cases idx r s with
   |some i=>rfl
   |
    none=>
    by_cases h2:x=s
    ·simp[h2]
    ·simp[h2]
theorem zp2{ss:List (List UInt8)}{s:List UInt8}{i:Nat}(h:idx ss s=some i):i<ss.length∧ss[i]? =some s:=by
 induction ss generalizing i with
 |nil=>cases h
 |
  cons y r ih=>
  rw[idx]at h;split at h
  ·rename_i e
   injection h with h
   subst h;simp[e]
  ·obtain⟨j,hj,rfl⟩:=Option.map_eq_some_iff.1 h;have:=ih hj;simp only[List.length_cons,List.getElem?_cons_succ];exact⟨by omega,this.2⟩
def byteAt(t:List UInt8)(i:Nat):Int:=((t.getD i 0).toNat:Int)
def grpN(at_:Nat):List Ent→Nat
 |[]=>0
 |e::r=>1+(r.takeWhile fun x=>decide (byteAt x.1 at_=byteAt e.1 at_)).length
def zj3:List Ent→Nat
 |[]=>0
 |e::_=>e.1.length
def zgg(rec_:List Nd→List Ent→Int→Nat×List Nd)(at_:Nat)(told:Int):Nat→List Nd→List (Int×Int×Int)→List Ent→List Nd×List (Int×Int×Int)
 |0,ds,ws,_=>(ds,ws)
 |_+1,ds,ws,[]=>(ds,ws)
 |
  n+1,ds,ws,e::r=>
  let g:=(e::r).take (grpN at_ (e::r))
  let q:=rec_ ds g (zae g)
  zgg rec_ at_ told n q.2 (ws++[(byteAt e.1 at_,zae g-told,(q.1:Int))]) ((e::r).drop (grpN at_ (e::r)))
def isFin(at_:Nat)(l:List Ent):Bool:=decide (zj3 l=at_)
def zbc(at_:Nat)(l:List Ent):List Ent:=if zj3 l=at_ then l.tail else l
def addN(ds:List Nd)(d:Nd):Nat×List Nd:=match idx (ds.map sgn) (sgn d)with
 |some i=>(i,ds)
 |none=>(ds.length,ds++[d])
def zc2:Nat→List Nd→List Ent→Nat→Int→Nat×List Nd
 |0,ds,_,_,_=>(0,ds)
 |
  f+1,ds,l,at_,told=>
  let q:=zgg (fun ds g m=>zc2 f ds g (at_+1) m) at_ told (zbc at_ l).length ds [] (zbc at_ l)
  addN q.1 ⟨isFin at_ l,if zj3 l=at_ then zl0 l-told else 0,q.2⟩
structure Okl(at_:Nat)(told:Int)(l:List Ent):Prop where
 ne:l≠[]
 srt:l.Pairwise fun a b=>a.1<b.1
 pre:∃p:List UInt8,p.length=at_∧∀e∈l,∃q,e.1=p++q
 t0:0≤told
 out:∀e∈l,told≤e.2∧e.2≤9223372036854775807
 len:∀e∈l,e.1.length≤64
structure Okr(at_:Nat)(told:Int)(l:List Ent):Prop where
 srt:l.Pairwise fun a b=>a.1<b.1
 pre:∃p:List UInt8,p.length=at_∧∀e∈l,∃c q,e.1=p++c::q
 t0:0≤told
 out:∀e∈l,told≤e.2∧e.2≤9223372036854775807
 len:∀e∈l,e.1.length≤64
theorem zrc(p q:List UInt8):¬(p++q<p):=by
 induction p with
 |nil=>simp
 |cons x p ih=>rw[List.cons_append,List.cons_lt_cons_iff];simp[ih]
theorem Okl.rest{at_:Nat}{told:Int}{l:List Ent}(h:Okl at_ told l):Okr at_ told (zbc at_ l):=by
 obtain⟨p,hp,hq⟩:=h.pre;cases l with
 |nil=>exact absurd rfl h.ne
 |
  cons e r=>
  obtain⟨q0,e0⟩:=hq e (List.mem_cons_self ..);show Okr at_ told (if e.1.length=at_ then r else e::r);split
  ·rename_i hl
   refine⟨(List.pairwise_cons.1 h.srt).2,⟨p,hp,fun x hx=>?_⟩,h.t0,fun x hx=>h.out x (List.mem_cons_of_mem _ hx),fun x hx=>h.len x (List.mem_cons_of_mem _ hx)⟩;obtain⟨q,hq'⟩:=hq x (List.mem_cons_of_mem _ hx);cases q with
   |cons c q=>exact⟨c,q,hq'⟩
   |
    nil=>
    have hlt:=(List.pairwise_cons.1 h.srt).1 x hx;rw[hq',e0,List.append_nil]at hlt;exact absurd hlt (zrc p q0)
  ·rename_i hl
   have hq0:q0≠[]:=by
    intro hn
    subst hn;rw[e0,List.append_nil]at hl;exact hl hp
   refine⟨h.srt,⟨p,hp,fun x hx=>?_⟩,h.t0,h.out,h.len⟩;obtain⟨q,hq'⟩:=hq x hx;cases q with
   |cons c q=>exact⟨c,q,hq'⟩
   |
    nil=>
    rcases List.mem_cons.1 hx with rfl|hx
    ·rw[e0]at hq';exact absurd (List.append_cancel_left hq') hq0
    ·have hlt:=(List.pairwise_cons.1 h.srt).1 x hx;rw[hq',e0,List.append_nil]at hlt;exact absurd hlt (zrc p q0)
theorem zwa(l:List Ent)(m:Int):(l.foldl (fun m e=>min m e.2) m≤m∧∀e∈l,l.foldl (fun m e=>min m e.2) m≤e.2)∧(∀z,z≤m→(∀e∈l,z≤e.2)→z≤l.foldl (fun m e=>min m e.2) m):=by
 induction l generalizing m with
 |nil=>simp
 |
  cons x r ih=>
  obtain⟨⟨h1,h2⟩,h3⟩:=ih (min m x.2);rw[List.foldl_cons];refine⟨⟨by omega,fun e he=>?_⟩,fun z hz hh=>h3 z ?_ fun e he=>hh e (List.mem_cons_of_mem _ he)⟩
  ·rcases List.mem_cons.1 he with rfl|he
   ·omega
   ·exact h2 e he
  ·have:=hh x (List.mem_cons_self ..);omega
theorem zga{l:List Ent}{e:Ent}(h:e∈l):zae l≤e.2:=(zwa l (zl0 l)).1.2 e h
theorem zhg{l:List Ent}(hl:l≠[]){z:Int}(h:∀e∈l,z≤e.2):z≤zae l:=by
 refine(zwa l (zl0 l)).2 z ?_ h;cases l with
 |nil=>exact absurd rfl hl
 |cons x r=>exact h x (List.mem_cons_self ..)
theorem zl2(at_:Nat)(e:Ent)(r:List Ent):1≤grpN at_ (e::r)∧grpN at_ (e::r)≤(e::r).length:=by
 unfold grpN;have:=(List.takeWhile_prefix (p:=fun x:Ent=>decide (byteAt x.1 at_=byteAt e.1 at_)) (l:=r)).length_le;simp only[List.length_cons];omega
theorem zl1(at_:Nat)(e:Ent)(r:List Ent):(e::r).take (grpN at_ (e::r))=e::r.takeWhile fun x=>decide (byteAt x.1 at_=byteAt e.1 at_):=by
 show List.take (1+_) _=_;rw[Nat.add_comm,List.take_succ_cons];congr 1
 exact(List.prefix_iff_eq_take.1 (List.takeWhile_prefix _)).symm
theorem zGa{at_:Nat}{e:Ent}{r:List Ent}{k:Nat}(h0:1≤k)(h:k<grpN at_ (e::r)):∃x,(e::r)[k]? =some x∧byteAt x.1 at_=byteAt e.1 at_:=by
 obtain⟨j,rfl⟩:∃j,k=j+1:=⟨k-1,by omega⟩;have h':j<(r.takeWhile fun x=>decide (byteAt x.1 at_=byteAt e.1 at_)).length:=by
  have:grpN at_ (e::r)=1+(r.takeWhile fun x=>decide (byteAt x.1 at_=byteAt e.1 at_)).length:=rfl;omega
 have hp:=List.takeWhile_prefix (p:=fun x:Ent=>decide (byteAt x.1 at_=byteAt e.1 at_)) (l:=r);have hall:=List.all_takeWhile (p:=fun x:Ent=>decide (byteAt x.1 at_=byteAt e.1 at_)) (l:=r);generalize(r.takeWhile fun x=>decide (byteAt x.1 at_=byteAt e.1 at_))=T at*;obtain⟨x,hx⟩:∃x,T[j]? =some x:=⟨T[j],List.getElem?_eq_getElem h'⟩;have hb:=List.all_eq_true.1 hall x (List.mem_of_getElem? hx);refine⟨x,?_,by simpa using hb⟩;obtain⟨t,ht⟩:=hp;rw[List.getElem?_cons_succ,←ht,List.getElem?_append_left h'];exact hx
theorem zy6{at_:Nat}{e:Ent}{r:List Ent}(h:grpN at_ (e::r)<(e::r).length):∃x,(e::r)[grpN at_ (e::r)]? =some x∧byteAt x.1 at_≠byteAt e.1 at_:=by
 have hg:grpN at_ (e::r)=(r.takeWhile fun x=>decide (byteAt x.1 at_=byteAt e.1 at_)).length+1:=Nat.add_comm _ _;have hsplit:=List.takeWhile_append_dropWhile (p:=fun x:Ent=>decide (byteAt x.1 at_=byteAt e.1 at_)) (l:=r);cases hd:r.dropWhile fun x=>decide (byteAt x.1 at_=byteAt e.1 at_)with
 |
  nil=>
  rw[hd,List.append_nil]at hsplit;rw[hg,hsplit,List.length_cons]at h;omega
 |
  cons x t=>
  refine⟨x,?_,?_⟩
  ·rw[hg,List.getElem?_cons_succ];rw[hd]at hsplit;generalize(r.takeWhile fun x=>decide (byteAt x.1 at_=byteAt e.1 at_))=T at*;rw[←hsplit,List.getElem?_append_right (Nat.le_refl _),Nat.sub_self];rfl
  ·have:=List.head_dropWhile_not (p:=fun x:Ent=>decide (byteAt x.1 at_=byteAt e.1 at_)) (l:=r) (by rw[hd];simp);simp only[hd,List.head_cons]at this;simpa using this
theorem Okr.drop{at_:Nat}{told:Int}{l:List Ent}(h:Okr at_ told l)(k:Nat):Okr at_ told (l.drop k):=by
 obtain⟨p,hp,hq⟩:=h.pre;exact⟨h.srt.sublist (List.drop_sublist _ _),⟨p,hp,fun e he=>hq e (List.mem_of_mem_drop he)⟩,h.t0,fun e he=>h.out e (List.mem_of_mem_drop he),fun e he=>h.len e (List.mem_of_mem_drop he)⟩
theorem zj0(p q:List UInt8)(c:UInt8):byteAt (p++c::q) p.length=(c.toNat:Int):=by
 unfold byteAt;rw[List.getD_eq_getElem?_getD,List.getElem?_append_right (Nat.le_refl _),Nat.sub_self];rfl
theorem Okr.group{at_:Nat}{told:Int}{e:Ent}{r:List Ent}(h:Okr at_ told (e::r)):Okl (at_+1) (zae ((e::r).take (grpN at_ (e::r)))) ((e::r).take (grpN at_ (e::r))):=by
 obtain⟨p,hp,hq⟩:=h.pre;have hsub:∀x∈(e::r).take (grpN at_ (e::r)),x∈e::r:=fun x hx=>List.mem_of_mem_take hx
 have hne:(e::r).take (grpN at_ (e::r))≠[]:=by rw[zl1];simp
 obtain⟨c0,q0,e0⟩:=hq e (List.mem_cons_self ..);refine⟨hne,h.srt.sublist (List.take_sublist _ _),⟨p++[c0],by simp[hp],fun x hx=>?_⟩,?_,fun x hx=>⟨zga hx,(h.out x (hsub x hx)).2⟩,fun x hx=>h.len x (hsub x hx)⟩
 ·obtain⟨c,q,hx'⟩:=hq x (hsub x hx);have hc:c=c0:=by
   rw[zl1]at hx;rcases List.mem_cons.1 hx with rfl|hx
   ·rw[e0]at hx';have:=List.append_cancel_left hx';injection this with this _
    exact this.symm
   ·have hb:=List.all_takeWhile (p:=fun x:Ent=>decide (byteAt x.1 at_=byteAt e.1 at_)) (l:=r);have hb:=List.all_eq_true.1 hb x hx;simp only[decide_eq_true_eq]at hb;rw[hx',e0,←hp,zj0,zj0]at hb;exact UInt8.toNat_inj.1 (by omega)
  subst hc;exact⟨q,by rw[hx'];simp⟩
 ·exact zhg hne fun x hx=>by have:=(h.out x (hsub x hx)).1;have:=h.t0;omega
def cost(at_:Nat)(l:List Ent):Nat:=(l.map fun e=>e.1.length-at_).sum
theorem zl7(at_:Nat)(e:Ent)(r:List Ent):cost at_ (e::r)=(e.1.length-at_)+cost at_ r:=rfl
theorem zh4(at_:Nat)(l m:List Ent):cost at_ (l++m)=cost at_ l+cost at_ m:=by
 unfold cost;rw[List.map_append,List.sum_append]
theorem zpd(at_:Nat)(l:List Ent):cost at_ (zbc at_ l)≤cost at_ l:=by
 cases l with
 |
  nil=>
  show cost at_ (if 0=at_ then[]else[])≤_;split<;>exact Nat.le_refl _
 |
  cons e r=>
  show cost at_ (if e.1.length=at_ then r else e::r)≤_;split
  ·rw[zl7];omega
  ·exact Nat.le_refl _
theorem zl6{at_:Nat}{l:List Ent}(h:∀e∈l,at_<e.1.length):cost (at_+1) l+l.length=cost at_ l:=by
 induction l with
 |nil=>rfl
 |
  cons e r ih=>
  have h1:=h e (List.mem_cons_self ..);have h2:=ih fun x hx=>h x (List.mem_cons_of_mem _ hx)
  rw[zl7,zl7,List.length_cons];omega
theorem Okr.long{at_:Nat}{told:Int}{l:List Ent}(h:Okr at_ told l):∀e∈l,at_<e.1.length:=by
 obtain⟨p,hp,hq⟩:=h.pre;intro e he
 obtain⟨c,q,e1⟩:=hq e he;rw[e1];simp
 omega
theorem zF8(ds:List Nd)(d:Nd):(addN ds d).2.length≤ds.length+1:=by
 unfold addN;split
 ·show ds.length≤_;omega
 ·show(ds++[d]).length≤_;simp
theorem zv1{rec_:List Nd→List Ent→Int→Nat×List Nd}{at_:Nat}{told:Int}(hr:∀ds g m,Okl (at_+1) m g→(rec_ ds g m).2.length≤ds.length+1+cost (at_+1) g):
  ∀(n:Nat) (ds:List Nd) (ws:List (Int×Int×Int)) (l:List Ent),Okr at_ told l→(zgg rec_ at_ told n ds ws l).1.length≤ds.length+cost at_ l
 |0,ds,ws,l,_=>Nat.le_add_right _ _
 |n+1,ds,ws,[],_=>Nat.le_add_right _ _
 |
  n+1,ds,ws,e::r,h=>by
  rw[zgg];have h1:=hr ds _ _ h.group;have h2:=zv1 hr n (rec_ ds ((e::r).take (grpN at_ (e::r))) (zae ((e::r).take (grpN at_ (e::r))))).2 (ws++[(byteAt e.1 at_,zae ((e::r).take (grpN at_ (e::r)))-told,((rec_ ds ((e::r).take (grpN at_ (e::r))) (zae ((e::r).take (grpN at_ (e::r))))).1:Int))]) _ (h.drop (grpN at_ (e::r)));have h3:=zl6 (l:=(e::r).take (grpN at_ (e::r))) fun x hx=>h.long x (List.mem_of_mem_take hx)
  have h4:cost at_ (e::r)=cost at_ ((e::r).take (grpN at_ (e::r)))+cost at_ ((e::r).drop (grpN at_ (e::r))):=by rw[←zh4,List.take_append_drop]
  have h5:1≤((e::r).take (grpN at_ (e::r))).length:=by rw[zl1];simp
  omega
theorem zkd:∀(f:Nat) (ds:List Nd) (l:List Ent) (at_:Nat) (told:Int),Okl at_ told l→(zc2 f ds l at_ told).2.length≤ds.length+1+cost at_ l
 |0,ds,l,at_,told,_=>by show ds.length≤_;omega
 |
  f+1,ds,l,at_,told,h=>by
  rw[zc2];have h1:=zv1 (told:=told) (fun ds g m hg=>zkd f ds g (at_+1) m hg) (zbc at_ l).length ds [] (zbc at_ l) h.rest;have h2:=zpd at_ l;refine Nat.le_trans (zF8 _ _) ?_;omega
theorem zi9(rec_:List Nd→List Ent→Int→Nat×List Nd)(at_:Nat)(told:Int)(n:Nat)(ds:List Nd)(ws:List (Int×Int×Int))(e:Ent)(r:List Ent):zgg rec_ at_ told (n+1) ds ws (e::r)=
  zgg rec_ at_ told n (rec_ ds ((e::r).take (grpN at_ (e::r))) (zae ((e::r).take (grpN at_ (e::r))))).2 (ws++[(byteAt e.1 at_,zae ((e::r).take (grpN at_ (e::r)))-told,((rec_ ds ((e::r).take (grpN at_ (e::r))) (zae ((e::r).take (grpN at_ (e::r))))).1:Int))]) ((e::r).drop (grpN at_ (e::r))):=rfl
theorem zr1(rec_:List Nd→List Ent→Int→Nat×List Nd)(at_:Nat)(told:Int):∀(n m:Nat) (ds:List Nd) (ws:List (Int×Int×Int)) (l:List Ent),l.length≤n→l.length≤m→zgg rec_ at_ told n ds ws l=zgg rec_ at_ told m ds ws l
 |
  0,m,ds,ws,l,h1,h2=>by
  obtain rfl:l=[]:=List.eq_nil_of_length_eq_zero (by omega);cases m<;>rfl
 |
  n+1,0,ds,ws,l,h1,h2=>by
  obtain rfl:l=[]:=List.eq_nil_of_length_eq_zero (by omega);rfl
 |n+1,m+1,ds,ws,[],_,_=>rfl
 |
  n+1,m+1,ds,ws,e::r,h1,h2=>by
  rw[zi9,zi9];have hg:=zl2 at_ e r;simp only[List.length_cons]at h1 h2 hg;exact zr1 rec_ at_ told n m _ _ _ (by rw[List.length_drop,List.length_cons];omega) (by rw[List.length_drop,List.length_cons];omega)
end F
namespace F
open Go.RowKit Go.Maps
theorem lawS:Keyed Tryz.prog 9:=string_keyed Tryz.underlying9
def z19{H:Type}:DataW H→Int
 | .lit (.int _ n)=>n
 |_=>0
def numD{H:Type}(N:DataW H)(s:List UInt8):Int:=z19 (N.atKey (.string s) (.lit (.int .i64 0)))
theorem z30(w:World):(zeroValue 3).run Tryz.prog w=.ok (.int .i64 0) w:=by kernel_rfl
abbrev zg7{H:Type}(w:World)(b n:Nat)(N:DataW H):Prop:=w.ownsMap Tryz.prog 9 (plainElem Tryz.prog 3) b n N
theorem zjd{H:Type}{w:World}{b n:Nat}{N:DataW H}(h:zg7 w b n N)(s:List UInt8)(hs:s.length≤maxLen):
  (Instr.lookup 66 (.map (some b)) (.string ⟨s.toArray⟩) true).run Tryz.prog w=.ok (.tuple #[.int .i64 (numD N s),.bool (Maps.has N (.string s))]) w:=by
 obtain⟨S,hS⟩:∃S:ByteArray,⟨s.toArray⟩=S:=⟨_,rfl⟩;have hz:S.size≤maxLen:=by rw[←hS,size_mk];exact hs
 have hd:S.data.toList=s:=by rw[←hS]
 rw[hS];obtain⟨v,ps,hrun,hR⟩:=h.look_ok lawS Tryz.underlying66 (z30 w) (plainElem_int Tryz.underlying3 (a:=0) (by decide)) (Go.WideMaps.keyOf_string_mk Tryz.underlying9 hz);obtain⟨c,rfl,hc,hw⟩:=plainElem_int_inv Tryz.underlying3 hR;injection hc with hc _
 rw[hd]at hrun hc;have e:numD N s=c:=by
  unfold numD;rw[hc];rfl
 rw[e];exact hrun
def zn0(N:DataW Unit)(ss:List (List UInt8)):Prop:=IsMap N∧∀s,match idx ss s with
 |some i=>Maps.has N (.string s)=true∧numD N s=i
 |none=>Maps.has N (.string s)=false
theorem zp0:zn0 (.map []) []:=⟨⟨[],rfl⟩,fun _=>rfl⟩
theorem zn0.snoc{N:DataW Unit}{ss:List (List UInt8)}(h:zn0 N ss){x:List UInt8}(hx:idx ss x=none):zn0 (N.put (.string x) (.lit (.int .i64 (ss.length:Nat)))) (ss++[x]):=by
 refine⟨h.1.put _ _,fun s=>?_⟩;have hs:=h.2 s;rw[zii];by_cases e:x=s
 ·subst e;rw[hx];simp only[if_true];refine⟨has_put_same h.1 (by simp[Go.WideAt.IsKeyLit]) _,?_⟩;unfold numD;rw[atKey_put_same h.1 (by simp[Go.WideAt.IsKeyLit])];rfl
 ·have hne:(Lit.string s)≠Lit.string x:=by simpa using fun h=>e h.symm
  have hn:numD (N.put (.string x) (.lit (.int .i64 (ss.length:Nat)))) s=numD N s:=by
   unfold numD;rw[atKey_put_other hne]
  cases hi:idx ss s with
  |
   some i=>
   rw[hi]at hs;exact⟨(has_put_other hne _).trans hs.1,hn.trans hs.2⟩
  |
   none=>
   rw[hi]at hs;simp only[e,if_false];exact(has_put_other hne _).trans hs
structure Nh where
 d:Nd
 A:Option Addr
 c:Nat
def Nh.row(h:Nh):Value:=.slice h.A h.d.ways.length h.c
def Nh.hdr(h:Nh):List Value:=[.bool h.d.fin,.int .i64 h.d.out,h.row]
structure NdOk(d:Nd):Prop where
 out:zbd d.out
 ways:∀x∈d.ways,wayP x
 len:d.ways.length≤65536
structure FbAt(W:World)(p kb base:Nat)(v:Value)(hs:List Nh):Prop where
 blk:W.heap[p]? =some (.cells #[v,.map (some kb)] 83 (0,0))
 nod:W.ownsRow base 88 3 v hs.length (hs.flatMap Nh.hdr)
 way:∀h∈hs,W.ownsRow base 107 3 h.row h.d.ways.length (waysC h.d.ways)
 kno:∃(n:Nat) (N:DataW Unit),zg7 W kb n N∧n≤hs.length∧zn0 N (hs.map fun h=>sgn h.d)
 ok:∀h∈hs,NdOk h.d
 lp:base≤p
 lk:base≤kb
theorem grown_below{W W':World}(h:Below W.heap.size W W'):W.grownBy W' none:=⟨h.os,h.tape,h.output,h.size,fun k hk _=>h.block k hk⟩
theorem FbAt.ne{W:World}{p kb base:Nat}{v:Value}{hs:List Nh}(h:FbAt W p kb base v hs):p≠kb:=by
 intro e
 subst e;obtain⟨n,N,⟨es,clock,hb,_⟩,_⟩:=h.kno;rw[h.blk]at hb;cases hb
theorem FbAt.lt{W:World}{p kb base:Nat}{v:Value}{hs:List Nh}(h:FbAt W p kb base v hs):p<W.heap.size∧kb<W.heap.size:=by
 obtain⟨n,N,hm,_⟩:=h.kno;exact⟨(Array.getElem?_eq_some_iff.1 h.blk).1,hm.lt⟩
theorem FbAt.grown{W W':World}{p kb base:Nat}{v:Value}{hs:List Nh}{row:Option Nat}(h:FbAt W p kb base v hs)(hg:W.grownBy W' row)(h1:some p≠row)(h2:some kb≠row)(h3:v.ownBlock=none∨v.ownBlock≠row)(h4:∀x∈hs,x.row.ownBlock=none∨x.row.ownBlock≠row):FbAt W' p kb base v hs:=by
 obtain⟨n,N,hm,hn,hk⟩:=h.kno;exact⟨(hg.block p h.lt.1 h1).trans h.blk,h.nod.kept hg h3,fun x hx=>(h.way x hx).kept hg (h4 x hx),⟨n,N,hm.kept hg h2,hn,hk⟩,h.ok,h.lp,h.lk⟩
theorem zj8(v:Value):v.ownBlock=none∨v.ownBlock≠none:=by cases v.ownBlock<;>simp
theorem FbAt.below{W W':World}{p kb base:Nat}{v:Value}{hs:List Nh}(h:FbAt W p kb base v hs)(hb:Below W.heap.size W W'):FbAt W' p kb base v hs:=
 h.grown (grown_below hb) (by simp) (by simp) (zj8 _) (fun _ _=>zj8 _)
structure Fk(p kb:Nat)(v:Value)(W W':World):Prop where
 os:W'.os=W.os
 tape:W'.tape=W.tape
 output:W'.output=W.output
 size:W.heap.size≤W'.heap.size
 block:∀k,k<W.heap.size→k≠p→k≠kb→v.ownBlock≠some k→W'.heap[k]? =W.heap[k]?
theorem Fk.of_grown{p kb:Nat}{v:Value}{W W':World}{row:Option Nat}(hg:W.grownBy W' row)(h:row=none∨row=some p∨row=some kb∨row=v.ownBlock):Fk p kb v W W':=
 ⟨hg.os,hg.tape,hg.output,hg.size,fun k hk h1 h2 h3=>hg.block k hk (by
  intro e
  rcases h with h|h|h|h
  ·rw[h]at e;cases e
  ·rw[h]at e;injection e with e;exact h1 e
  ·rw[h]at e;injection e with e;exact h2 e
  ·rw[h]at e;exact h3 e.symm)⟩
theorem Fk.of_below{p kb:Nat}{v:Value}{W W':World}(h:Below W.heap.size W W'):Fk p kb v W W':=.of_grown (grown_below h) (.inl rfl)
def zj4(W:World)(v v':Value):Prop:=v'.ownBlock=v.ownBlock∨∃g,v'.ownBlock=some g∧W.heap.size≤g
theorem zj4.refl(W:World)(v:Value):zj4 W v v:=.inl rfl
theorem zj4.trans{W W1:World}{a b c:Value}(h:zj4 W a b)(k:zj4 W1 b c)(hs:W.heap.size≤W1.heap.size):zj4 W a c:=by
 rcases k with k|⟨g,k1,k2⟩
 ·rcases h with h|⟨g,h1,h2⟩
  ·exact .inl (k.trans h)
  ·exact .inr ⟨g,k.trans h1,h2⟩
 ·exact .inr ⟨g,k1,Nat.le_trans hs k2⟩
theorem zj4.ne{W:World}{v v':Value}(h:zj4 W v v'){k:Nat}(hk:k<W.heap.size)(hv:v.ownBlock≠some k):v'.ownBlock≠some k:=by
 rcases h with h|⟨g,h1,h2⟩
 ·rw[h];exact hv
 ·rw[h1];intro e
  injection e with e
  omega
theorem Fk.trans{p kb:Nat}{v v1:Value}{W W1 W2:World}(h:Fk p kb v W W1)(k:Fk p kb v1 W1 W2)(hm:zj4 W v v1):Fk p kb v W W2:=
 ⟨k.os.trans h.os,k.tape.trans h.tape,k.output.trans h.output,Nat.le_trans h.size k.size,fun i hi h1 h2 h3=>(k.block i (Nat.lt_of_lt_of_le hi h.size) h1 h2 (hm.ne hi h3)).trans (h.block i hi h1 h2 h3)⟩
theorem Fk.below{p kb base:Nat}{v:Value}{W W':World}{hs:List Nh}(h:Fk p kb v W W')(hf:FbAt W p kb base v hs)(hb:base≤W.heap.size):Below base W W':=
 ⟨h.os,h.tape,h.output,h.size,fun k hk=>h.block k (by omega) (by have:=hf.lp;omega) (by have:=hf.lk;omega) (fun e=>by have:=(hf.nod.lt k e).1;omega)⟩
theorem Fk.row{p kb:Nat}{v x:Value}{W W':World}{b e s n:Nat}{xs:List Value}(h:Fk p kb v W W')(hx:W.ownsRow b e s x n xs)(h1:x.ownBlock≠some p)(h2:x.ownBlock≠some kb)(h3:x.ownBlock=none∨x.ownBlock≠v.ownBlock):W'.ownsRow b e s x n xs:=by
 refine⟨hx.1,?_⟩;rcases hx.2 with hn|⟨g,cap,cur,rfl,hb,hg,rest⟩
 ·exact .inl hn
 ·refine .inr ⟨g,cap,cur,rfl,hb,?_,rest⟩;have h3':v.ownBlock≠some g:=by
   rcases h3 with h3|h3
   ·cases h3
   ·exact fun e=>h3 e.symm
  exact(h.block g (Array.getElem?_eq_some_iff.1 hg).1 (fun e=>h1 (by rw[e];rfl)) (fun e=>h2 (by rw[e];rfl)) h3').trans hg
theorem za7(w:World)(a:Addr)(u:Value):w.grownBy (w.setCell a u) (some a.block):=
 ⟨rfl,rfl,rfl,by simp[World.setCell],fun k _ hk=>Below.heap_setCell _ _ _ k (fun e=>hk (by rw[e]))⟩
theorem blk_set{w:World}{b j:Nat}{C:Array Value}{t:TypeId}{f:Nat×Nat}(h:w.heap[b]? =some (.cells C t f))(v:Value):(w.setCell ⟨b,j,none⟩ v).heap[b]? =some (.cells (C.setIfInBounds j v) t f):=by
 simp[World.setCell,Array.getElem?_modify,h]
theorem grown_through{a b c:World}{row:Option Nat}(hb:Below a.heap.size a b)(hg:b.grownBy c row):a.grownBy c row:=
 ⟨hg.os.trans hb.os,hg.tape.trans hb.tape,hg.output.trans hb.output,Nat.le_trans hb.size hg.size,fun k hk h=>(hg.block k (Nat.lt_of_lt_of_le hk hb.size) h).trans (hb.block k hk)⟩
theorem zc4{P:Program}{ops:Array Oper}{o:Oper}{a:Act}{K:Act→World→Prop}{Q:Exit→Act→World→Prop}{E:Prop}(wx:World)(cs:Array Value)(hgd:o.guard=none)(s x:Operand)(t:TypeId)
  (ho:o.op=.call {callee:=.builtin .append,args:= #[s,x],argTypes:= #[t,t]})
  {base e size bytes:Nat} (he:Elem P t e size bytes) (v:Value) (n:Nat) (xs:List Value) (hs:a.eval s=v) (hown:wx.ownsRow base e size v n xs)
  {nb m:Nat} (hx:a.eval x=.slice (some ⟨nb,0,none⟩) m m) (hxc:wx.heap[nb]? =some (.cells cs e (0,0)))
  (hl:cs.size=m*size) (h1:∀u∈cs.toList,u.oneCell'=true) (hm:0<m)
  (h63:n+m≤maxLen) (hbytes:(n+m)*bytes≤140737488355328) (hbase:base≤wx.heap.size)
  (h:∀g cap w',w'.ownsRow base e size (.slice (some ⟨g,0,none⟩) (n+m) cap) (n+m) (xs++cs.toList)→wx.grownBy w' v.ownBlock→(v.ownBlock=some g∨wx.heap.size≤g)→K (a.put o.dst (.slice (some ⟨g,0,none⟩) (n+m) cap)) w'):
  if Region.wanted o (yielded ops a.tmps)=true then Oper.wp P o a wx K Q else E:=by
 obtain⟨ht,i,z,hi,hz,hsz,hby,hzs,hpos⟩:=he;refine step_append_lies wx hgd s x t ho base e i z size bytes ht hi hz hsz hby hzs hpos v n xs hs hown ⟨nb,0,none⟩ m m cs.toList hx (by simpa using hl) ?_ h1 hm h63 hbytes hbase _ rfl ?_
 ·intro j u hu
  rw[Addr.add_lit,Nat.zero_add,cell_of_row _ nb j cs e (0,0) hxc];simpa using hu
 ·intro g cap w' h2 h3 h4 _
  exact h g cap w' h2 h3 (h4.elim .inl fun e=>.inr (by omega))
theorem z9b{W3 W4:World}{p kb base:Nat}{v1 v5:Value}{hs:List Nh}{hn:Nh}(hblk:W3.heap[p]? =some (.cells #[v1,.map (some kb)] 83 (0,0)))
  (hnod:W3.ownsRow base 88 3 v1 hs.length (hs.flatMap Nh.hdr)) (hway:∀h∈hs,W3.ownsRow base 107 3 h.row h.d.ways.length (waysC h.d.ways)) (hws:W3.ownsRow base 107 3 hn.row hn.d.ways.length (waysC hn.d.ways))
  {m:Nat}{N:DataW Unit} (ho:zg7 W3 kb m N) (hm:m≤hs.length+1) (hk:zn0 N ((hs++[hn]).map fun h=>sgn h.d)) (hok:∀h∈hs,NdOk h.d) (hokn:NdOk hn.d) (lp:base≤p) (lk:base≤kb) (hpk:p≠kb)
  (hg:W3.grownBy W4 v1.ownBlock) (hown:W4.ownsRow base 88 3 v5 (hs.length+1) (hs.flatMap Nh.hdr++hn.hdr)):FbAt (W4.setCell ⟨p,0,none⟩ v5) p kb base v5 (hs++[hn]):=by
 have hp3:=(Array.getElem?_eq_some_iff.1 hblk).1;have hrow:v1.ownBlock≠some p:=by
  rcases hnod.2 with⟨rfl,_⟩|⟨g,cap,cur,rfl,_,hg',_⟩
  ·simp[Value.ownBlock]
  ·intro e
   simp only[Value.ownBlock,Option.some.injEq]at e;subst e;rw[hg']at hblk;injection hblk with hblk
   injection hblk with _ hblk _
   revert hblk
   decide
 have hblk4:W4.heap[p]? =some (.cells #[v1,.map (some kb)] 83 (0,0)):=(hg.block p hp3 (fun e=>hrow e.symm)).trans hblk;have other:∀{e s n:Nat}{x:Value}{xs:List Value},W4.ownsRow base e s x n xs→e≠83→(W4.setCell ⟨p,0,none⟩ v5).ownsRow base e s x n xs:=by
  intro e s n x xs h he
  refine h.kept (za7 _ _ _) ?_;rcases h.2 with⟨rfl,_⟩|⟨g,cap,cur,rfl,_,hg',_⟩
  ·exact .inl rfl
  ·refine .inr fun e'=>?_
   simp only[Value.ownBlock,Option.some.injEq]at e';subst e';rw[hg']at hblk4;injection hblk4 with hblk4
   injection hblk4 with _ hblk4 _
   exact he hblk4
 have wayk:∀{n:Nat}{x:Value}{xs:List Value},W3.ownsRow base 107 3 x n xs→(W4.setCell ⟨p,0,none⟩ v5).ownsRow base 107 3 x n xs:=fun h=>other (h.kept hg (za4 hnod h (by decide))) (by decide)
 have hmap:some kb≠v1.ownBlock:=by
  obtain⟨es,clock,hb,_⟩:=ho;rcases hnod.2 with⟨rfl,_⟩|⟨g,cap,cur,rfl,_,hg',_⟩
  ·simp[Value.ownBlock]
  ·intro e
   simp only[Value.ownBlock,Option.some.injEq]at e;subst e;rw[hg']at hb;cases hb
 refine⟨?_,?_,?_,⟨m,N,(ho.kept hg hmap).kept (za7 _ _ _) (by simpa using Ne.symm hpk),by rw[List.length_append];exact hm,hk⟩,?_,lp,lk⟩
 ·rw[blk_set hblk4];rfl
 ·have:=other hown (by decide);rw[List.length_append,List.flatMap_append];simpa using this
 ·intro h hh
  rcases List.mem_append.1 hh with hh|hh
  ·exact wayk (hway h hh)
  ·rw[List.mem_singleton]at hh;subst hh;exact wayk hws
 ·intro h hh
  rcases List.mem_append.1 hh with hh|hh
  ·exact hok h hh
  ·rw[List.mem_singleton]at hh;subst hh;exact hokn
end F
namespace F
open Go.RowKit
def zac(t:List UInt8)(i:Nat):Nat:=(t.getD i 0).toNat
theorem zfj(t:List UInt8)(i:Nat):zac t i<256:=(t.getD i 0).toNat_lt
theorem zfe(t:List UInt8)(i:Nat)(h:i<(⟨t.toArray⟩:ByteArray).size):((((⟨t.toArray⟩:ByteArray)[i]'h).toNat:Nat):Int)=(zac t i:Int):=by
 have h':i<t.length:=by
  have:(⟨t.toArray⟩:ByteArray).size=t.length:=by show t.toArray.size=_;simp
  rwa[this]at h
 unfold zac;rw[List.getD_eq_getElem?_getD,List.getElem?_eq_getElem h'];rfl
def zdg(fl:Bool)(c:Nat):Nat:=if fl then 255-c else c
def accN(fl:Bool)(t:List UInt8):Nat→Nat
 |0=>0
 |k+1=>accN fl t k*256+zdg fl (zac t (k+1))
theorem zn9(fl:Bool){c:Nat}(h:c<256):zdg fl c<256:=by unfold zdg;split<;>omega
theorem zm9(fl:Bool)(t:List UInt8):∀k,accN fl t k<256^k
 |0=>by simp[accN]
 |
  k+1=>by
  have h1:=zm9 fl t k;have h2:=zn9 fl (zfj t (k+1));rw[accN,Nat.pow_succ];generalize 256^k=M at*;omega
def numR(t:List UInt8):Int×Int×Int:=
 if t=[]then(0,0,2)else
 let h:=zac t 0
 if 16≤h∧h<240 then((h:Int)-128,1,0)else
 if h<8∨247<h then(0,0,3)else
 let fl:=decide (h<16)
 let k:=if h<16 then 16-h else h-239
 if t.length≤k then(0,0,2)else
 if 1<k∧zdg fl (zac t 1)=0 then(0,0,3)else
 if accN fl t k≤9223372036854775695 then(if h<16 then(-113-(accN fl t k:Int),(k:Int)+1,0)else((accN fl t k:Int)+112,(k:Int)+1,0))else(0,0,3)
theorem z5f{z:Int}(h0:0≤z)(h1:z<256):bits .xor .u8 z 255=255-z:=by
 have h:∀n:Fin 256,bits .xor .u8 ((n.val:Nat):Int) 255=255-((n.val:Nat):Int):=by decide+kernel
 have:=h ⟨z.toNat,by omega⟩;rwa[show((z.toNat:Nat):Int)=z by omega]at this
theorem zG0{a c:Nat}(ha:a<72057594037927936)(hc:c<256):bits .or .u64 ((a:Int)*256) (c:Int)=((a*256+c:Nat):Int):=by
 have e:((a:Int)*256)=((a*256:Nat):Int):=(Int.natCast_mul a 256).symm;rw[e];simp only[bits,BitVec.ofInt_natCast];have hb:IntKind.u64.bits=64:=rfl;have h1:(BitVec.ofNat 64 (a*256)|||BitVec.ofNat 64 c).toNat=a*256+c:=by
  rw[BitVec.toNat_or,BitVec.toNat_ofNat,BitVec.toNat_ofNat,Nat.mod_eq_of_lt (by omega),Nat.mod_eq_of_lt (by omega),Nat.mul_comm a 256];exact(Nat.two_pow_add_eq_or_of_lt (i:=8) (by omega) a).symm
 rw[hb,h1];exact IntWalk.u64_in _ (by omega)
end F
namespace F
open Go.RowKit Go.Maps
structure DictAt(W:World)(p B:Nat)(A:Option Addr)(n c:Nat)(base cnt:Int)(hs:List Nh):Prop where
 blk:W.heap[p]? =some (.cells #[.slice A n c,.int .i64 base,.int .i64 cnt] 95 (0,0))
 len:hs.length=n
 nod:W.ownsRow B 88 3 (.slice A n c) n (hs.flatMap Nh.hdr)
 way:∀h∈hs,W.ownsRow B 107 3 h.row h.d.ways.length (waysC h.d.ways)
theorem DictAt.keep{W W':World}{p B n c:Nat}{A:Option Addr}{base cnt:Int}{hs:List Nh}(h:DictAt W p B A n c base cnt hs)(hb:Below W.heap.size W W'):DictAt W' p B A n c base cnt hs:=
 ⟨(hb.block p (Array.getElem?_eq_some_iff.1 h.blk).1).trans h.blk,h.len,za2 h.nod hb,fun x hx=>za2 (h.way x hx) hb⟩
theorem DictAt.cells{W:World}{p B n c:Nat}{A:Option Addr}{base cnt:Int}{hs:List Nh}(h:DictAt W p B A n c base cnt hs):W.cell? ⟨p,0,none⟩=some (.slice A n c)∧W.cell? ⟨p,1,none⟩=some (.int .i64 base)∧W.cell? ⟨p,2,none⟩=some (.int .i64 cnt):=
 ⟨cell_of_row _ p 0 _ _ (0,0) h.blk,cell_of_row _ p 1 _ _ (0,0) h.blk,cell_of_row _ p 2 _ _ (0,0) h.blk⟩
theorem DictAt.cap{W:World}{p B n c:Nat}{A:Option Addr}{base cnt:Int}{hs:List Nh}(h:DictAt W p B A n c base cnt hs):n≤c∧n≤9223372036854775807:=by
 obtain⟨A',c',hv,hc⟩:=za1 h.nod;injection hv with h1 h2 h3
 subst h3;refine⟨hc,?_⟩;rcases h.nod.2 with⟨_,h0⟩|⟨g,cap,cur,hv,hb,hg,h1,h2,h3,_⟩
 ·omega
 ·unfold maxLen at h2;omega
theorem DictAt.node_{W:World}{p B n c:Nat}{A:Option Addr}{base cnt:Int}{hs:List Nh}(h:DictAt W p B A n c base cnt hs)(h0:0<n):∃g,A=some ⟨g,0,none⟩∧g<W.heap.size∧∀i x,hs[i]? =some x→
  W.cell? ⟨g,i*3,none⟩=some (.bool x.d.fin)∧W.cell? ⟨g,i*3+1,none⟩=some (.int .i64 x.d.out)∧W.cell? ⟨g,i*3+2,none⟩=some (.slice x.A x.d.ways.length x.c):=by
 obtain⟨g,rfl,_,hg⟩:=zah h.nod h0;refine⟨g,rfl,hg,fun i x hx=>?_⟩;have hc:∀j u,x.hdr[j]? =some u→j<3→W.cell? ⟨g,i*3+j,none⟩=some u:=by
  intro j u hu hj
  have:=h.nod.cells (g:=g) rfl (i*3+j) u (by rw[zc7 Nh.hdr 3 (fun _=>rfl) hs i j x hx hj];exact hu);rwa[Addr.add_lit,Nat.zero_add]at this
 exact⟨hc 0 _ rfl (by omega),hc 1 _ rfl (by omega),hc 2 _ rfl (by omega)⟩
theorem DictAt.way_{W:World}{p B n c:Nat}{A:Option Addr}{base cnt:Int}{hs:List Nh}(h:DictAt W p B A n c base cnt hs){x:Nh}(hx:x∈hs)(h0:0<x.d.ways.length):∃g,x.A=some ⟨g,0,none⟩∧g<W.heap.size∧∀k y,x.d.ways[k]? =some y→
  W.cell? ⟨g,k*3,none⟩=some (.int .i64 y.1)∧W.cell? ⟨g,k*3+1,none⟩=some (.int .i64 y.2.1)∧W.cell? ⟨g,k*3+2,none⟩=some (.int .i64 y.2.2):=by
 obtain⟨g,hA,_,hg⟩:=zah (h.way x hx) h0;refine⟨g,hA,hg,fun k y hy=>?_⟩;have hr:x.row=.slice (some ⟨g,0,none⟩) x.d.ways.length x.c:=by unfold Nh.row;rw[hA]
 have hc:∀j u,(wayC y)[j]? =some u→j<3→W.cell? ⟨g,k*3+j,none⟩=some u:=by
  intro j u hu hj
  have:=(h.way x hx).cells (g:=g) (by rw[hr];rfl) (k*3+j) u (by unfold waysC;rw[zc7 wayC 3 (fun _=>rfl) _ k j y hy hj];exact hu);rwa[Addr.add_lit,Nat.zero_add]at this
 exact⟨hc 0 _ rfl (by omega),hc 1 _ rfl (by omega),hc 2 _ rfl (by omega)⟩
theorem DictAt.caps{W:World}{p B n c:Nat}{A:Option Addr}{base cnt:Int}{hs:List Nh}(h:DictAt W p B A n c base cnt hs){x:Nh}(hx:x∈hs):x.d.ways.length≤x.c∧x.d.ways.length≤9223372036854775807:=by
 obtain⟨A',c',hv,hc⟩:=za1 (h.way x hx);unfold Nh.row at hv;injection hv with h1 h2 h3
 subst h3;refine⟨hc,?_⟩;rcases(h.way x hx).2 with⟨_,h0⟩|⟨g,cap,cur,hv,hb,hg,h1,h2,h3,_⟩
 ·omega
 ·unfold maxLen at h2;omega
def Fine(ds:List Nd):Prop:=∀(i:Nat) d,ds[i]? =some d→zbd d.out∧∀x∈d.ways,(0≤x.1∧x.1≤255)∧zbd x.2.1∧0≤x.2.2∧x.2.2<(i:Int)
theorem root_any(w:World)(p B n c:Nat)(A:Option Addr)(base cnt:Int)(hs:List Nh)(h:DictAt w p B A n c base cnt hs):Calls Tryz.prog 23 #[.pointer (some ⟨p,0,none⟩)] w fun e w'=>e=.returned (.tuple #[.int .i64 (if n=0 then-1 else(n:Int)-1),.int .i64 (if n=0 then 0 else base)])∧Below w.heap.size w w':=by
 obtain⟨c0,c1,c2⟩:=h.cells;obtain⟨_,hn⟩:=h.cap;clear h;by_cases h0:n=0
 ·subst h0;go_enter Tryz.func23,Tryz.ntmps23
  go_wp2_with fail;go_ret2;exact⟨rfl,za0 w⟩
 ·rw[if_neg h0,if_neg h0];have q1:((n:Int)==0)=false:=by simpa using h0
  have q2:(n==0)=false:=by simpa using h0
  have hw:IntKind.i64.wrap ((n:Int)-1)=(n:Int)-1:=IntWalk.i64_in _ (by omega);go_enter Tryz.func23,Tryz.ntmps23
  go_wp2_with fail;go_quiet (fail)
  go_wp2_with fail;go_ret2;exact⟨rfl,below_drewN (za0 w) _⟩
def zL7(ws:List (Int×Int×Int))(c:Int):Option (Int×Int×Int):=ws.find? fun x=>x.1==c
def getF(ds:List Nd):List UInt8→Nat→Int→Option Int
 |[],a,out=>match ds[a]? with
  |some d=>if d.fin then some (IntKind.i64.wrap (out+d.out))else none
  |none=>none
 |c::t,a,out=>match ds[a]? with
  |some d=>match zL7 d.ways (c.toNat:Nat)with
   |some x=>getF ds t x.2.2.toNat (IntKind.i64.wrap (out+x.2.1))
   |none=>none
  |none=>none
def getD(ds:List Nd)(base:Int)(term:List UInt8):Option Int:=if ds=[]then none else getF ds term (ds.length-1) base
end F
end Go.Proofs.YtaociahafamncaaGreatDoor
