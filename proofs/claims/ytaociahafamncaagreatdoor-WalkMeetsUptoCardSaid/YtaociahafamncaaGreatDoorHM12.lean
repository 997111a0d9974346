/- Folded. -/
import Derived.Test.YtaociahafamncaaGreatDoorHM11
set_option maxRecDepth 100000
set_option maxHeartbeats 40000000
namespace Go.Proofs.YtaociahafamncaaGreatDoor
namespace F
open Go.RowKit
def preE(x:Int×Int×Int)(e:Ent):Ent:=(UInt8.ofNat x.1.toNat::e.1,x.2.1+e.2)
def ndE(L:Nat→List Ent)(d:Nd):List Ent:=(if d.fin then[([],d.out)]else[])++d.ways.flatMap fun x=>(L x.2.2.toNat).map (preE x)
def zmk(ds:List Nd):Nat→Nat→List Ent
 |0,_=>[]
 |f+1,i=>match ds[i]? with
  |some d=>ndE (zmk ds f) d
  |none=>[]
def left(ds:List Nd)(i:Nat):List Ent:=zmk ds (i+1) i
theorem zj5{α β:Type}{f g:α→List β}{l:List α}(h:∀x∈l,f x=g x):l.flatMap f=l.flatMap g:=by
 induction l with
 |nil=>rfl
 |cons x r ih=>rw[List.flatMap_cons,List.flatMap_cons,h x (List.mem_cons_self ..),ih fun y hy=>h y (List.mem_cons_of_mem _ hy)]
theorem zfc{L M:Nat→List Ent}{d:Nd}(h:∀x∈d.ways,L x.2.2.toNat=M x.2.2.toNat):ndE L d=ndE M d:=by
 unfold ndE;congr 1
 exact zj5 fun x hx=>by rw[h x hx]
theorem zoe{ds:List Nd}{i:Nat}{d:Nd}(h:ds[i]? =some d)(f:Nat):zmk ds (f+1) i=ndE (zmk ds f) d:=by rw[zmk,h]
theorem zri{ds:List Nd}(hf:Fine ds):∀(f g i:Nat),i<f→i<g→zmk ds f i=zmk ds g i
 |0,_,_,h,_=>absurd h (by omega)
 |_+1,0,_,_,h=>absurd h (by omega)
 |
  f+1,g+1,i,hi,hg=>by
  cases hd:ds[i]? with
  |none=>rw[zmk,zmk,hd]
  |
   some d=>
   rw[zoe hd,zoe hd];refine zfc fun x hx=>?_
   have:=((hf i d hd).2 x hx).2.2;exact zri hf f g _ (by omega) (by omega)
theorem left_eq{ds:List Nd}(hf:Fine ds){i:Nat}{d:Nd}(h:ds[i]? =some d):left ds i=ndE (left ds) d:=by
 unfold left;rw[zoe h];refine zfc fun x hx=>?_
 have:=((hf i d h).2 x hx).2.2;exact zri hf _ _ _ (by omega) (by omega)
theorem zw3{ds:List Nd}(hf:Fine ds)(es:List Nd):∀(f i:Nat),i<ds.length→zmk (ds++es) f i=zmk ds f i
 |0,_,_=>rfl
 |
  f+1,i,hi=>by
  have hd:ds[i]? =some (ds[i]'hi):=List.getElem?_eq_getElem _;have hd2:(ds++es)[i]? =some (ds[i]'hi):=by rw[List.getElem?_append_left hi,hd]
  rw[zoe hd,zoe hd2];refine zfc fun x hx=>?_
  have:=((hf i _ hd).2 x hx).2.2;exact zw3 hf es f _ (by omega)
theorem zfh{ds:List Nd}(hf:Fine ds)(es:List Nd){i:Nat}(hi:i<ds.length):left (ds++es) i=left ds i:=zw3 hf es _ i hi
structure Can(L:Nat→List Ent)(d:Nd):Prop where
 asc:d.ways.Pairwise fun a b=>a.1<b.1
 fz:d.fin=false→d.out=0
 mn:∃e∈ndE L d,e.2=0
 ge:∀e∈ndE L d,0≤e.2
 len:(ndE L d).length≤65536
 deep:∀e∈ndE L d,e.1.length≤64
structure Inv(ds:List Nd):Prop where
 fine:Fine ds
 nodup:ds.Nodup
 can:∀(i:Nat) d,ds[i]? =some d→Can (left ds) d
def WayI(n:Nat)(x:Int×Int×Int):Prop:=(0≤x.1∧x.1≤255)∧zbd x.2.1∧0≤x.2.2∧x.2.2<(n:Int)
theorem zr5{α:Type}{l:List α}{a x:α}{i:Nat}(h:(l++[a])[i]? =some x):(l[i]? =some x∧i<l.length)∨(i=l.length∧x=a):=by
 rcases Nat.lt_trichotomy i l.length with hi|hi|hi
 ·rw[List.getElem?_append_left hi]at h;exact .inl ⟨h,hi⟩
 ·subst hi;rw[List.getElem?_append_right (Nat.le_refl _)]at h;simp at h
  exact .inr ⟨rfl,h.symm⟩
 ·rw[List.getElem?_eq_none (by simp;omega)]at h;cases h
theorem Inv.nil:Inv []:=⟨fun i d h=>by simp at h,List.nodup_nil,fun i d h=>by simp at h⟩
theorem Inv.snoc{ds:List Nd}(h:Inv ds){d:Nd}(hn:d∉ds)(hp:zbd d.out)(hw:∀x∈d.ways,WayI ds.length x)(hc:Can (left ds) d):Inv (ds++[d]):=by
 have hcong:∀e:Nd,(∀x∈e.ways,0≤x.2.2∧x.2.2<(ds.length:Int))→ndE (left (ds++[d])) e=ndE (left ds) e:=fun e he=>zfc fun x hx=>zfh h.fine _ (by have:=he x hx;omega)
 refine⟨?_,?_,?_⟩
 ·intro i e he
  rcases zr5 he with⟨he,_⟩|⟨rfl,rfl⟩
  ·exact h.fine i e he
  ·exact⟨hp,hw⟩
 ·rw[List.nodup_append];refine⟨h.nodup,by simp,?_⟩;intro a ha b hb e
  rw[List.mem_singleton.1 hb]at e;subst e;exact hn ha
 ·intro i e he
  rcases zr5 he with⟨he,hi⟩|⟨rfl,rfl⟩
  ·have hx:=(h.fine i e he).2;have e1:=hcong e fun x hxm=>⟨(hx x hxm).2.2.1,by have:=(hx x hxm).2.2.2;omega⟩
   obtain⟨c1,c2,c3,c4,c5,c6⟩:=h.can i e he;exact⟨c1,c2,by rw[e1];exact c3,by rw[e1];exact c4,by rw[e1];exact c5,by rw[e1];exact c6⟩
  ·have e1:=hcong e fun x hxm=>⟨(hw x hxm).2.2.1,(hw x hxm).2.2.2⟩
   obtain⟨c1,c2,c3,c4,c5,c6⟩:=hc;exact⟨c1,c2,by rw[e1];exact c3,by rw[e1];exact c4,by rw[e1];exact c5,by rw[e1];exact c6⟩
def subE(at_:Nat)(told:Int)(l:List Ent):List Ent:=l.map fun e=>(e.1.drop at_,e.2-told)
theorem append_lt(p a b:List UInt8):p++a<p++b↔a<b:=by
 induction p with
 |nil=>rfl
 |
  cons x p ih=>
  rw[List.cons_append,List.cons_append,List.cons_lt_cons_iff,ih];constructor
  ·rintro(h|⟨_,h⟩)
   ·exact absurd h (UInt8.lt_irrefl _)
   ·exact h
  ·exact fun h=>.inr ⟨rfl,h⟩
theorem Okr.bytes{at_:Nat}{told:Int}{e:Ent}{r:List Ent}(h:Okr at_ told (e::r)):∀x∈r,byteAt e.1 at_≤byteAt x.1 at_:=by
 obtain⟨p,hp,hq⟩:=h.pre;intro x hx
 obtain⟨c,q,e1⟩:=hq e (List.mem_cons_self ..);obtain⟨c',q',e2⟩:=hq x (List.mem_cons_of_mem _ hx);have hlt:=(List.pairwise_cons.1 h.srt).1 x hx;rw[e1,e2,append_lt,List.cons_lt_cons_iff]at hlt;rw[e1,e2,←hp,zj0,zj0];rcases hlt with hlt|⟨rfl,_⟩
 ·have:=UInt8.lt_iff_toNat_lt.1 hlt;omega
 ·omega
theorem Okr.later{at_:Nat}{told:Int}{e:Ent}{r:List Ent}(h:Okr at_ told (e::r)):∀x∈(e::r).drop (grpN at_ (e::r)),byteAt e.1 at_<byteAt x.1 at_:=by
 intro x hx
 have hlt:grpN at_ (e::r)<(e::r).length:=by
  rcases Nat.lt_or_ge (grpN at_ (e::r)) (e::r).length with h1|h1
  ·exact h1
  ·rw[List.drop_eq_nil_of_le h1]at hx;cases hx
 obtain⟨y,hy,hne⟩:=zy6 hlt;obtain⟨hl,hy2⟩:=List.getElem?_eq_some_iff.1 hy;have hd:=List.drop_eq_getElem_cons hl;have h2:=h.drop (grpN at_ (e::r));rw[hd,hy2]at h2 hx;have hy3:y∈r:=by
  have hp:=(zl2 at_ e r).1;obtain⟨k,hk⟩:∃k,grpN at_ (e::r)=k+1:=⟨grpN at_ (e::r)-1,by omega⟩;rw[hk,List.getElem?_cons_succ]at hy;exact List.mem_of_getElem? hy
 have h3:=h.bytes y hy3;rcases List.mem_cons.1 hx with rfl|hx
 ·omega
 ·have:=h2.bytes x hx;omega
theorem zD9{at_:Nat}{e:Ent}{r:List Ent}:∀x∈(e::r).take (grpN at_ (e::r)),byteAt x.1 at_=byteAt e.1 at_:=by
 intro x hx
 rw[zl1]at hx;rcases List.mem_cons.1 hx with rfl|hx
 ·rfl
 ·have hb:=List.all_takeWhile (p:=fun x:Ent=>decide (byteAt x.1 at_=byteAt e.1 at_)) (l:=r);simpa using List.all_eq_true.1 hb x hx
theorem z57(t:List UInt8)(i:Nat):0≤byteAt t i∧byteAt t i≤255:=by
 unfold byteAt;have:=(t.getD i 0).toNat_lt;omega
theorem zHe{at_:Nat}{told m c:Int}{q:Int}{g:List Ent}(hc:∀x∈g,byteAt x.1 at_=c)(hl:∀x∈g,at_<x.1.length):(subE (at_+1) m g).map (preE (c,m-told,q))=subE at_ told g:=by
 unfold subE;rw[List.map_map];apply List.map_congr_left
 intro x hx
 have h1:=hc x hx;have h2:=hl x hx;show(UInt8.ofNat c.toNat::x.1.drop (at_+1),m-told+(x.2-m))=(x.1.drop at_,x.2-told);rw[List.drop_eq_getElem_cons h2];congr 1
 ·congr 1
  rw[←h1];unfold byteAt;rw[List.getD_eq_getElem?_getD,List.getElem?_eq_getElem h2];simp
 ·omega
theorem zof{l:List Ent}(hl:l≠[]):∃e∈l,e.2=zae l:=by
 have key:∀(r:List Ent) (m:Int),r.foldl (fun m e=>min m e.2) m=m∨∃e∈r,e.2=r.foldl (fun m e=>min m e.2) m:=by
  intro r
  induction r with
  |nil=>exact fun m=>.inl rfl
  |
   cons x r ih=>
   intro m
   rw[List.foldl_cons];rcases ih (min m x.2)with h|⟨e,he,h⟩
   ·rw[h];by_cases hm:m≤x.2
    ·exact .inl (by omega)
    ·exact .inr ⟨x,List.mem_cons_self ..,by omega⟩
   ·exact .inr ⟨e,List.mem_cons_of_mem _ he,h⟩
 cases l with
 |nil=>exact absurd rfl hl
 |
  cons x r=>
  rcases key (x::r) (zl0 (x::r))with h|h
  ·exact⟨x,List.mem_cons_self ..,h.symm⟩
  ·exact h
def Upto(ds:List Nd)(K:Nat):Prop:=∀i,i<ds.length→∀e∈left ds i,e.1.length≤K
def Good(at_:Nat)(m:Int)(g:List Ent)(ds:List Nd)(q:Nat×List Nd):Prop:=Inv q.2∧(∃es,q.2=ds++es)∧q.1<q.2.length∧left q.2 q.1=subE at_ m g∧∀K,Upto ds K→(∀e∈g,e.1.length≤K+at_)→Upto q.2 K
theorem zlb{rec_:List Nd→List Ent→Int→Nat×List Nd}{at_:Nat}{told:Int}(hr:∀ds g m,Inv ds→Okl (at_+1) m g→g.length≤65536→zae g=m→Good (at_+1) m g ds (rec_ ds g m)):
  ∀(n:Nat) (ds:List Nd) (ws:List (Int×Int×Int)) (l:List Ent),l.length≤n→Inv ds→Okr at_ told l→l.length≤65536→
   ∃es more,zgg rec_ at_ told n ds ws l=(ds++es,ws++more)∧Inv (ds++es)∧(more.flatMap fun x=>(left (ds++es) x.2.2.toNat).map (preE x))=subE at_ told l∧more.Pairwise (fun a b=>a.1<b.1)∧(∀x∈more,WayI (ds++es).length x∧∃e∈l,byteAt e.1 at_=x.1)∧∀K,Upto ds K→(∀e∈l,e.1.length≤K+(at_+1))→Upto (ds++es) K
 |
  n,ds,ws,[],_,hi,_,_=>by
  have e:zgg rec_ at_ told n ds ws []=(ds,ws):=by cases n<;>rfl
  exact⟨[],[],by rw[e];simp,by simpa using hi,rfl,List.Pairwise.nil,by simp,fun K h _=>by simpa using h⟩
 |0,ds,ws,e::r,h,_,_,_=>absurd h (by simp)
 |
  n+1,ds,ws,e::r,hn,hi,ho,hl=>by
  rw[zi9];have hgp:=zl2 at_ e r;have hgl:((e::r).take (grpN at_ (e::r))).length≤65536:=by rw[List.length_take];omega
  obtain⟨g1,⟨es1,g2⟩,g3,g4,g5⟩:=hr ds _ _ hi ho.group hgl rfl;have hsame:=zD9 (at_:=at_) (e:=e) (r:=r);have hlong:∀x∈(e::r).take (grpN at_ (e::r)),at_<x.1.length:=fun x hx=>ho.long x (List.mem_of_mem_take hx)
  have hlater:=ho.later;have hgr:=ho.group;have ho2:=ho.drop (grpN at_ (e::r));have hout:=ho.out;have ht0:=ho.t0;have hsplit:(e::r).take (grpN at_ (e::r))++(e::r).drop (grpN at_ (e::r))=e::r:=List.take_append_drop ..;have hmem:e∈(e::r).take (grpN at_ (e::r)):=by rw[zl1];exact List.mem_cons_self ..
  have hlen2:((e::r).drop (grpN at_ (e::r))).length≤n:=by rw[List.length_drop];simp only[List.length_cons]at hn hgp⊢;omega
  have hsub:∀x∈(e::r).take (grpN at_ (e::r)),x∈e::r:=fun x hx=>List.mem_of_mem_take hx
  have hsub2:∀x∈(e::r).drop (grpN at_ (e::r)),x∈e::r:=fun x hx=>List.mem_of_mem_drop hx
  have hl2:((e::r).drop (grpN at_ (e::r))).length≤65536:=by rw[List.length_drop];omega
  generalize(e::r).take (grpN at_ (e::r))=g at*;generalize(e::r).drop (grpN at_ (e::r))=r2 at*;obtain⟨m,hm⟩:∃m,zae g=m:=⟨_,rfl⟩;rw[hm]at g1 g2 g3 g4 g5 hgr⊢;obtain⟨⟨i,ds1⟩,hq⟩:∃q,rec_ ds g m=q:=⟨_,rfl⟩;rw[hq]at g1 g2 g3 g4 g5⊢;simp only at g1 g2 g3 g4 g5⊢;subst g2;obtain⟨es,more,k1,k2,k3,k4,k5,k6⟩:=zlb hr n (ds++es1) (ws++[(byteAt e.1 at_,m-told,(i:Int))]) r2 hlen2 g1 ho2 hl2;refine⟨es1++es,(byteAt e.1 at_,m-told,(i:Int))::more,?_,?_,?_,?_,?_,?_⟩
  ·rw[k1,List.append_assoc,List.append_assoc];rfl
  ·rw[←List.append_assoc];exact k2
  ·rw[←List.append_assoc,List.flatMap_cons,k3];have e1:left (ds++es1++es) ((i:Int)).toNat=subE (at_+1) m g:=by
    rw[Int.toNat_natCast,zfh g1.fine es g3,g4]
   show(left (ds++es1++es) ((i:Int)).toNat).map (preE (byteAt e.1 at_,m-told,(i:Int)))++_=_;rw[e1,zHe hsame hlong,←hsplit];unfold subE;rw[List.map_append]
  ·refine List.pairwise_cons.2 ⟨fun x hx=>?_,k4⟩;obtain⟨_,y,hy,hyx⟩:=k5 x hx;have:=hlater y hy;show byteAt e.1 at_<x.1;omega
  ·intro x hx
   rw[←List.append_assoc];rcases List.mem_cons.1 hx with rfl|hx
   ·refine⟨⟨z57 _ _,?_,?_,?_⟩,e,hsub e hmem,rfl⟩
    ·obtain⟨y,hy,hym⟩:=zof hgr.ne;have:=hout y (hsub y hy);show 0≤m-told∧m-told≤9223372036854775807;omega
    ·show(0:Int)≤(i:Int);omega
    ·show(i:Int)<_;rw[List.length_append];omega
   ·obtain⟨h1,y,hy,hyx⟩:=k5 x hx;exact⟨h1,y,hsub2 y hy,hyx⟩
  ·intro K hK hl
   rw[←List.append_assoc];exact k6 K (g5 K hK fun x hx=>hl x (hsub x hx)) fun x hx=>hl x (hsub2 x hx)
theorem z62{ds:List Nd}(hf:Fine ds){d:Nd}{K:Nat}(h:Upto ds K)(hd:∀e∈left (ds++[d]) ds.length,e.1.length≤K):Upto (ds++[d]) K:=by
 intro i hi e he
 rw[List.length_append,List.length_singleton]at hi;by_cases h1:i<ds.length
 ·rw[zfh hf [d] h1]at he;exact h i h1 e he
 ·obtain rfl:i=ds.length:=by omega
  exact hd e he
theorem zu9{ss:List (List UInt8)}{s:List UInt8}(h:idx ss s=none):s∉ss:=by
 induction ss with
 |nil=>simp
 |
  cons y r ih=>
  rw[idx]at h;split at h
  ·cases h
  ·rename_i hne
   intro hm
   rcases List.mem_cons.1 hm with e|hm
   ·exact hne e.symm
   ·exact ih (by simpa using h) hm
theorem Okl.at64{at_:Nat}{told:Int}{l:List Ent}(h:Okl at_ told l):at_≤64:=by
 obtain⟨p,hp,hq⟩:=h.pre;cases hl:l with
 |nil=>exact absurd hl h.ne
 |
  cons e r=>
  have he:e∈l:=by rw[hl];exact List.mem_cons_self ..
  obtain⟨q,e1⟩:=hq e he;have h64:=h.len e he;rw[e1,List.length_append]at h64;omega
theorem zif:∀(f:Nat) (ds:List Nd) (l:List Ent) (at_:Nat) (told:Int),65≤at_+f→Inv ds→Okl at_ told l→l.length≤65536→zae l=told→Good at_ told l ds (zc2 f ds l at_ told)
 |0,ds,l,at_,told,hf,_,ho,_,_=>absurd ho.at64 (by omega)
 |
  f+1,ds,l,at_,told,hf,hi,ho,hl,hm=>by
  have hrl:(zbc at_ l).length≤l.length:=by
   unfold zbc;split
   ·rw[List.length_tail];omega
   ·exact Nat.le_refl _
  have hrs:∀e∈zbc at_ l,e∈l:=by
   intro e he
   unfold zbc at he;split at he
   ·exact List.mem_of_mem_tail he
   ·exact he
  obtain⟨es,more,k1,k2,k3,k4,k5,k6⟩:=zlb (told:=told) (fun ds g m h1 h2 h3 h4=>zif f ds g (at_+1) m (by omega) h1 h2 h3 h4) (zbc at_ l).length ds [] (zbc at_ l) (Nat.le_refl _) hi ho.rest (by omega);rw[zc2];simp only[k1,List.nil_append];have hne:=ho.ne;have hE:∀L:Nat→List Ent,L=left (ds++es)→ndE L ⟨isFin at_ l,if zj3 l=at_ then zl0 l-told else 0,more⟩=subE at_ told l:=by
   rintro L rfl;unfold ndE;simp only
   rw[k3];unfold isFin zbc;by_cases hh:zj3 l=at_
   ·rw[if_pos hh,if_pos hh,if_pos (by simpa using hh)];cases l with
    |nil=>exact absurd rfl hne
    |
     cons e r=>
     have hd:e.1.drop at_=[]:=List.drop_eq_nil_of_le (by have:e.1.length=at_:=hh;omega);show[([],e.2-told)]++subE at_ told r=(e.1.drop at_,e.2-told)::subE at_ told r;rw[hd];rfl
   ·rw[if_neg (by simpa using hh),if_neg hh];rfl
  have hpos:zbd (if zj3 l=at_ then zl0 l-told else 0):=by
   split
   ·cases l with
    |nil=>exact absurd rfl hne
    |
     cons e r=>
     have:=ho.out e (List.mem_cons_self ..);have:=ho.t0;show 0≤e.2-told∧e.2-told≤9223372036854775807;omega
   ·exact⟨by omega,by omega⟩
  have hfz:isFin at_ l=false→(if zj3 l=at_ then zl0 l-told else 0)=0:=by
   intro h
   rw[if_neg (by simpa[isFin]using h)]
  obtain⟨d,hd⟩:∃d:Nd,(⟨isFin at_ l,if zj3 l=at_ then zl0 l-told else 0,more⟩:Nd)=d:=⟨_,rfl⟩;have hdo:d.out=if zj3 l=at_ then zl0 l-told else 0:=by rw[←hd]
  have hdf:d.fin=isFin at_ l:=by rw[←hd]
  have hdw:d.ways=more:=by rw[←hd]
  rw[hd]at hE⊢;unfold addN;cases hx:idx ((ds++es).map sgn) (sgn d)with
  |
   some i=>
   obtain⟨h1,h2⟩:=zp2 hx;rw[List.length_map]at h1;rw[List.getElem?_map]at h2;obtain⟨d',hd',he⟩:=Option.map_eq_some_iff.1 h2;have:=zH5 he;subst this;exact⟨k2,⟨es,rfl⟩,h1,by rw[left_eq k2.fine hd'];exact hE _ rfl,fun K hK hl=>k6 K hK fun e he=>by have:=hl e (hrs e he);omega⟩
  |
   none=>
   have hnd:d∉ds++es:=fun hm=>zu9 hx (List.mem_map_of_mem hm)
   have hcan:Can (left (ds++es)) d:=by
    have hE':=hE _ rfl;refine⟨by rw[hdw];exact k4,by rw[hdf,hdo];exact hfz,?_,?_,?_,?_⟩
    ·obtain⟨e,he,hem⟩:=zof hne;rw[hE'];exact⟨(e.1.drop at_,e.2-told),List.mem_map_of_mem he,by show e.2-told=0;omega⟩
    ·rw[hE'];intro x hx
     obtain⟨e,he,rfl⟩:=List.mem_map.1 hx;have:=ho.out e he;show 0≤e.2-told;omega
    ·rw[hE'];unfold subE;rw[List.length_map];exact hl
    ·rw[hE'];intro x hx
     obtain⟨e,he,rfl⟩:=List.mem_map.1 hx;have:=ho.len e he;show(e.1.drop at_).length≤64;rw[List.length_drop];omega
   have hinv:=k2.snoc hnd (by rw[hdo];exact hpos) (fun x hx=>by rw[hdw]at hx;exact(k5 x hx).1) hcan;have hlast:left (ds++es++[d]) (ds++es).length=subE at_ told l:=by
    rw[left_eq hinv.fine (d:=d) (by rw[List.getElem?_append_right (Nat.le_refl _),Nat.sub_self];rfl),←hE _ rfl];refine zfc fun x hx=>zfh k2.fine _ ?_
    rw[hdw]at hx;have:=(k5 x hx).1.2.2;omega
   refine⟨hinv,⟨es++[d],by rw[List.append_assoc]⟩,by rw[List.length_append];simp,hlast,fun K hK hl=>z62 k2.fine (k6 K hK fun e he=>by have:=hl e (hrs e he);omega) ?_⟩;rw[hlast];intro x hx
   obtain⟨e,he,rfl⟩:=List.mem_map.1 hx;have:=hl e he;show(e.1.drop at_).length≤K;rw[List.length_drop];omega
theorem z78{l:List Ent}{told:Int}(ho:Okl 0 told l)(hl:l.length≤65536)(hm:zae l=told)(hne:∀e∈l,e.1≠[]):(zc2 65 [] l 0 told).1+1=(zc2 65 [] l 0 told).2.length:=by
 have hG:=zif 65 [] l 0 told (by omega) Inv.nil ho hl hm;obtain⟨M,hM,hMx⟩:∃M,(∀e∈l,e.1.length≤M+1)∧∃e∈l,e.1.length=M+1:=by
  have key:∀r:List Ent,r≠[]→∃e∈r,∀x∈r,x.1.length≤e.1.length:=by
   intro r
   induction r with
   |nil=>exact fun h=>absurd rfl h
   |
    cons y r ih=>
    intro _
    by_cases h:r=[]
    ·subst h;exact⟨y,by simp,fun x hx=>by rw[List.mem_singleton.1 hx];exact Nat.le_refl _⟩
    ·obtain⟨e,he,hx⟩:=ih h;by_cases hc:y.1.length≤e.1.length
     ·exact⟨e,List.mem_cons_of_mem _ he,fun x hx'=>by
       rcases List.mem_cons.1 hx' with rfl|hx'
       ·exact hc
       ·exact hx x hx'⟩
     ·exact⟨y,List.mem_cons_self ..,fun x hx'=>by
       rcases List.mem_cons.1 hx' with rfl|hx'
       ·exact Nat.le_refl _
       ·have:=hx x hx';omega⟩
  obtain⟨e,he,hx⟩:=key l ho.ne;have h1:=List.length_pos_iff.2 (hne e he);exact⟨e.1.length-1,fun x hxm=>by have:=hx x hxm;omega,e,he,by omega⟩
 have hrs:∀e∈zbc 0 l,e∈l:=by
  intro e he
  unfold zbc at he;split at he
  ·exact List.mem_of_mem_tail he
  ·exact he
 have hrl:(zbc 0 l).length≤l.length:=by
  unfold zbc;split
  ·rw[List.length_tail];omega
  ·exact Nat.le_refl _
 obtain⟨es,more,k1,k2,k3,k4,k5,k6⟩:=zlb (told:=told) (fun ds g m h1 h2 h3 h4=>zif 64 ds g (0+1) m (by omega) h1 h2 h3 h4) (zbc 0 l).length [] [] (zbc 0 l) (Nat.le_refl _) Inv.nil ho.rest (by omega);have hup:=k6 M (fun i hi=>absurd hi (by simp)) fun e he=>by have:=hM e (hrs e he);omega
 rw[zc2]at hG⊢;simp only[k1,List.nil_append]at hG hup k2⊢;generalize(⟨isFin 0 l,if zj3 l=0 then zl0 l-told else 0,more⟩:Nd)=d at*;unfold addN at hG⊢;cases hx:idx (es.map sgn) (sgn d)with
 |none=>simp
 |
  some i=>
  rw[hx]at hG;obtain⟨e,he,hel⟩:=hMx;have h1:=hG.2.2.2.1;have h2:=hup i hG.2.2.1 (e.1.drop 0,e.2-told) (by
   show _∈left es i;have h1':left es i=subE 0 told l:=h1;rw[h1'];exact List.mem_map_of_mem he)
  simp only[List.drop_zero]at h2;omega
end F
namespace F
open Go.RowKit Go.Maps
theorem wrap_wrap(a b:Int):IntKind.i64.wrap (IntKind.i64.wrap a+b)=IntKind.i64.wrap (a+b):=by
 rw[IntKind.wrap_i64,IntKind.wrap_i64,IntKind.wrap_i64];omega
theorem zw7{ds:List Nd}(hf:Fine ds):∀(f i:Nat) (t:List UInt8) (z:Int),i<f→gath ds f i t z=(left ds i).map fun e=>(t++e.1,IntKind.i64.wrap (z+e.2))
 |0,_,_,_,h=>absurd h (by omega)
 |
  f+1,i,t,z,h=>by
  cases hd:ds[i]? with
  |
   none=>
   have:left ds i=[]:=by unfold left;rw[zmk,hd]
   rw[this,gath,hd];rfl
  |
   some d=>
   rw[gath_s hd,left_eq hf hd];unfold ndE;rw[List.map_append,List.map_flatMap];congr 1
   ·split
    ·simp
    ·rfl
   ·refine zj5 fun x hx=>?_
    have:=((hf i d hd).2 x hx).2.2;rw[zw7 hf f _ _ _ (by omega),List.map_map];apply List.map_congr_left
    intro e _
    show(t++[UInt8.ofNat x.1.toNat]++e.1,IntKind.i64.wrap (IntKind.i64.wrap (z+x.2.1)+e.2))=(t++(UInt8.ofNat x.1.toNat::e.1),IntKind.i64.wrap (z+(x.2.1+e.2)));rw[wrap_wrap,List.append_assoc,Int.add_assoc];rfl
def szL(ds:List Nd):List Int:=(List.range ds.length).map fun i=>((left ds i).length:Int)
def tlen(m:Int)(l:List Ent):Int:=l.foldl (fun m e=>max m (e.1.length:Int)) m
def dpL(ds:List Nd):List Int:=(List.range ds.length).map fun i=>tlen 0 (left ds i)
theorem zkb{α:Type}(f g:Nat→α)(n:Nat)(h:∀i,i<n→f i=g i):(List.range (n+1)).map f=(List.range n).map g++[f n]:=by
 rw[List.range_succ,List.map_append];congr 1
 exact List.map_congr_left fun i hi=>h i (List.mem_range.1 hi)
theorem zBg{ds:List Nd}(hf:Fine ds)(d:Nd):szL (ds++[d])=szL ds++[((left (ds++[d]) ds.length).length:Int)]:=by
 unfold szL;rw[List.length_append,List.length_singleton];exact zkb _ _ _ fun i hi=>by rw[zfh hf [d] hi]
theorem zE9{ds:List Nd}(hf:Fine ds)(d:Nd):dpL (ds++[d])=dpL ds++[tlen 0 (left (ds++[d]) ds.length)]:=by
 unfold dpL;rw[List.length_append,List.length_singleton];exact zkb _ _ _ fun i hi=>by rw[zfh hf [d] hi]
theorem zr9(f:Nat→Int){n i:Nat}(hi:i<n):((List.range n).map f).getD i 0=f i:=by
 rw[List.getD_eq_getElem?_getD,List.getElem?_map,List.getElem?_range hi];rfl
theorem zxf{ds:List Nd}{i:Nat}(hi:i<ds.length):(szL ds).getD i 0=((left ds i).length:Int):=zr9 _ hi
theorem zJ4{ds:List Nd}{i:Nat}(hi:i<ds.length):(dpL ds).getD i 0=tlen 0 (left ds i):=zr9 _ hi
theorem zI6(L:Nat→List Ent)(d:Nd):((ndE L d).length:Int)=finN d.fin+(d.ways.map fun x=>((L x.2.2.toNat).length:Int)).sum:=by
 unfold ndE;rw[List.length_append,Int.natCast_add];congr 1
 ·unfold finN;split<;>rfl
 ·induction d.ways with
  |nil=>rfl
  |cons x r ih=>rw[List.flatMap_cons,List.length_append,List.length_map,Int.natCast_add,List.map_cons,List.sum_cons,ih]
theorem zne(m:Int)(a b:List Ent):tlen m (a++b)=tlen (tlen m a) b:=List.foldl_append ..
theorem zzb(l:List Ent):∀m:Int,0≤m→tlen m l=max m (tlen 0 l):=by
 induction l with
 |nil=>intro m h;show m=max m 0;omega
 |
  cons e r ih=>
  intro m h
  show tlen (max m (e.1.length:Int)) r=max m (tlen (max 0 (e.1.length:Int)) r);rw[ih _ (by omega),ih (max 0 (e.1.length:Int)) (by omega)];omega
theorem zBf(x:Int×Int×Int)(l:List Ent):∀m:Int,0≤m→tlen m (l.map (preE x))=if l=[]then m else max m (tlen 0 l+1):=by
 induction l with
 |nil=>intro m _;rfl
 |
  cons e r ih=>
  intro m h
  rw[if_neg (by simp)];show tlen (max m ((UInt8.ofNat x.1.toNat::e.1).length:Int)) (r.map (preE x))=max m (tlen (max 0 (e.1.length:Int)) r+1);rw[ih _ (by omega),zzb r (max 0 (e.1.length:Int)) (by omega),List.length_cons];by_cases hr:r=[]
  ·subst hr;rw[if_pos rfl];show max m _=max m (max (max 0 _) 0+1);omega
  ·rw[if_neg hr];omega
theorem zxc(l:List Ent)(m:Int)(h:0≤m):0≤tlen m l:=by
 rw[zzb l m h];omega
theorem zH0{l:List Ent}{K:Nat}(h:∀e∈l,e.1.length≤K):tlen 0 l≤(K:Int):=by
 have key:∀(r:List Ent) (m:Int),m≤(K:Int)→(∀e∈r,e.1.length≤K)→tlen m r≤(K:Int):=by
  intro r
  induction r with
  |nil=>exact fun m h _=>h
  |
   cons e r ih=>
   intro m hm hr
   have:=hr e (List.mem_cons_self ..);show tlen (max m (e.1.length:Int)) r≤(K:Int);exact ih _ (by omega) fun x hx=>hr x (List.mem_cons_of_mem _ hx)
 exact key l 0 (by omega) h
theorem zCj{L:Nat→List Ent}{sz dp:List Int}{d:Nd}(h:∀x∈d.ways,sz.getD x.2.2.toNat 0=((L x.2.2.toNat).length:Int)∧dp.getD x.2.2.toNat 0=tlen 0 (L x.2.2.toNat)):tlen 0 (ndE L d)=d.ways.foldl (zl4 sz dp) 0:=by
 unfold ndE;rw[zne];have h0:tlen 0 (if d.fin then[([],d.out)]else[])=0:=by
  split<;>rfl
 rw[h0];have key:∀(ws:List (Int×Int×Int)) (m:Int),0≤m→(∀x∈ws,sz.getD x.2.2.toNat 0=((L x.2.2.toNat).length:Int)∧dp.getD x.2.2.toNat 0=tlen 0 (L x.2.2.toNat))→
   tlen m (ws.flatMap fun x=>(L x.2.2.toNat).map (preE x))=ws.foldl (zl4 sz dp) m:=by
  intro ws
  induction ws with
  |nil=>intro m _ _;rfl
  |
   cons x r ih=>
   intro m hm hh
   obtain⟨e1,e2⟩:=hh x (List.mem_cons_self ..);have e3:tlen m ((L x.2.2.toNat).map (preE x))=zl4 sz dp m x:=by
    rw[zBf x _ m hm];unfold zl4;rw[e1,e2];by_cases hL:L x.2.2.toNat=[]
    ·rw[if_pos hL,if_neg (by rw[hL];simp)]
    ·have:=List.length_pos_iff.2 hL;rw[if_neg hL,if_pos (by omega)]
   rw[List.flatMap_cons,zne,e3,List.foldl_cons];refine ih _ ?_ fun y hy=>hh y (List.mem_cons_of_mem _ hy)
   rw[←e3];exact zxc _ _ hm
 exact key d.ways 0 (Int.le_refl 0) h
theorem asc_few:∀(l:List (Int×Int×Int)) (lo:Int),l.Pairwise (fun a b=>a.1<b.1)→(∀x∈l,lo≤x.1∧x.1≤255)→lo≤256→(l.length:Int)≤256-lo
 |[],lo,_,_,h=>by show(0:Int)≤_;omega
 |
  x::r,lo,hp,hb,h=>by
  obtain⟨h1,h2⟩:=List.pairwise_cons.1 hp;have hx:=hb x (List.mem_cons_self ..);have:=asc_few r (x.1+1) h2 (fun y hy=>⟨by have:=h1 y hy;omega,(hb y (List.mem_cons_of_mem _ hy)).2⟩) (by omega);rw[List.length_cons];omega
theorem Inv.pre{ds es:List Nd}(h:Inv (ds++es)):Inv ds:=by
 have hf:Fine ds:=fun i d hd=>h.fine i d (by rw[List.getElem?_append_left (List.getElem?_eq_some_iff.1 hd).1];exact hd)
 refine⟨hf,(List.nodup_append.1 h.nodup).1,fun i d hd=>?_⟩;have hi:=(List.getElem?_eq_some_iff.1 hd).1;have e1:ndE (left (ds++es)) d=ndE (left ds) d:=zfc fun x hx=>zfh hf es (by have:=((hf i d hd).2 x hx).2.2;omega)
 obtain⟨c1,c2,c3,c4,c5,c6⟩:=h.can i d (by rw[List.getElem?_append_left hi];exact hd);rw[e1]at c3 c4 c5 c6;exact⟨c1,c2,c3,c4,c5,c6⟩
theorem zvd:∀(es ds:List Nd) (r:List UInt8),Inv (ds++es)→(ds++es).length≤1125899906842624→zka es.length ds (szL ds) (dpL ds) (by8 (es.flatMap zb0)++r)=(0,ds++es,szL (ds++es),r)
 |[],ds,r,_,_=>by simp[zka,by8]
 |
  d::es,ds,r,h,hl=>by
  have e0:ds++d::es=(ds++[d])++es:=by simp
  have hi:=h.pre;have h1:Inv (ds++[d]):=by rw[e0]at h;exact h.pre
  have hd:(ds++[d])[ds.length]? =some d:=by rw[List.getElem?_append_right (Nat.le_refl _),Nat.sub_self];rfl
  obtain⟨p1,p2⟩:=h1.fine _ _ hd;obtain⟨c1,c2,c3,c4,c5,c6⟩:=h1.can _ _ hd;have hL:=left_eq h1.fine hd;have hLn:ndE (left (ds++[d])) d=ndE (left ds) d:=zfc fun x hx=>zfh hi.fine [d] (by have:=(p2 x hx).2.2;omega)
  rw[hLn]at c5 c6 hL;have hsz:finN d.fin+(d.ways.map (sizeOf (szL ds))).sum=((ndE (left ds) d).length:Int):=by
   rw[zI6];congr 2
   apply List.map_congr_left
   intro x hx
   exact zxf (by have:=(p2 x hx).2.2;omega)
  have hdp:d.ways.foldl (zl4 (szL ds) (dpL ds)) 0=tlen 0 (ndE (left ds) d):=(zCj fun x hx=>⟨zxf (by have:=(p2 x hx).2.2;omega),zJ4 (by have:=(p2 x hx).2.2;omega)⟩).symm;have hfew:=asc_few d.ways 0 c1 (fun x hx=>(p2 x hx).1) (by omega);have hle:ds.length≤1125899906842624:=by rw[List.length_append]at hl;omega
  have e1:by8 ((d::es).flatMap zb0)++r=by8 (zb0 d)++(by8 (es.flatMap zb0)++r):=by
   rw[List.flatMap_cons,zdd,List.append_assoc]
  have hrd:=z3j (n:=ds.length) (sz:=szL ds) (dp:=dpL ds) (d:=d) hle p1 c2 p2 (by omega) (by rw[hsz];omega) (by rw[hdp];exact zH0 c6) (by8 (es.flatMap zb0)++r);rw[e1,List.length_cons,z08 hrd,hsz,hdp,←hL,←zBg hi.fine,←zE9 hi.fine,zvd es (ds++[d]) r (by rw[←e0];exact h) (by rw[←e0];exact hl),←e0]
structure Built(l:List Ent)(ds:List Nd)(base:Int):Prop where
 inv:Inv ds
 len:ds.length≤4194305
 pos:ds≠[]↔l≠[]
 root:l≠[]→left ds (ds.length-1)=subE 0 base l
 bas:zbd base
 ok:l=[]→ds=[]∧base=0
theorem built_of{l:List Ent}(hr:rightE l=0)(hfit:∀e∈l,fits64 e.2):Built l (buildDs l) (baseOf l):=by
 by_cases hne:l=[]
 ·subst hne;exact⟨Inv.nil,by simp[buildDs],by simp[buildDs],fun h=>absurd rfl h,⟨by simp[baseOf],by simp[baseOf]⟩,fun _=>⟨rfl,rfl⟩⟩
 ·obtain⟨ho,hl⟩:=zG2 hr hne hfit;have hds:buildDs l=(zc2 65 [] l 0 (zae l)).2:=if_neg hne;have hb:baseOf l=zae l:=if_neg hne;have hG:=zif 65 [] l 0 (zae l) (by omega) Inv.nil ho hl rfl;have hnn:∀e∈l,e.1≠[]:=by
   intro e he
   unfold rightE at hr;split at hr
   ·omega
   ·exact((rightL_ok l [] hr).1 e he).1
  have hrl:=z78 ho hl rfl hnn;have hc:=zkd 65 [] l 0 (zae l) ho;have hc2:=zA3 l ho.len;rw[hds,hb];obtain⟨g1,_,g3,g4,_⟩:=hG;generalize(zc2 65 [] l 0 (zae l))=q at*;refine⟨g1,by simp at hc;omega,⟨fun _=>hne,fun _ e=>by rw[e]at g3;simp at g3⟩,fun _=>?_,?_,fun h=>absurd h hne⟩
  ·rw[show q.2.length-1=q.1 by omega];exact g4
  ·obtain⟨e,he,hem⟩:=zof hne;have:=ho.out e he;have:=ho.t0;exact⟨this,by omega⟩
theorem all_built{l:List Ent}{ds:List Nd}{base:Int}(h:Built l ds base)(hfit:∀e∈l,fits64 e.2):allE ds base=l:=by
 by_cases hne:l=[]
 ·obtain⟨h1,_⟩:=h.ok hne;subst h1;rw[hne];rfl
 ·have hds:=h.pos.2 hne;have:=List.length_pos_iff.2 hds;unfold allE;rw[if_neg hds,zw7 h.inv.fine _ _ _ _ (by omega),h.root hne];unfold subE;rw[List.map_map];conv=>rhs;rw[←List.map_id l]
  apply List.map_congr_left
  intro e he
  obtain⟨f0,f1⟩:=hfit e he;show([]++e.1.drop 0,IntKind.i64.wrap (base+(e.2-base)))=e;rw[List.drop_zero,List.nil_append,show base+(e.2-base)=e.2 by omega,IntWalk.i64_in _ (by omega)]
theorem open_build{l:List Ent}(hr:rightE l=0)(hfit:∀e∈l,fits64 e.2):zq8 (by8 (buildZ l))=(0,buildDs l,baseOf l,(l.length:Int)):=by
 have hB:=built_of hr hfit;have hall:=all_built hB hfit;have hbs:buildS l=⟨(by8 (buildZ l)).toArray⟩:=by
  unfold buildS;rw[if_pos hr];rfl
 have hlen:=hB.len;have e1:by8 (buildZ l)=by8 (numI ((buildDs l).length:Int))++(by8 (numI (baseOf l))++(by8 ((buildDs l).flatMap zb0)++[])):=by
  unfold buildZ;have:zc5 [((buildDs l).length:Int),baseOf l]=numI ((buildDs l).length:Int)++numI (baseOf l):=by simp[zc5]
  rw[this,zdd,zdd,List.append_assoc,List.append_nil]
 have r1:=ze6 (z:=((buildDs l).length:Int)) ⟨by omega,by omega⟩ (by8 (numI (baseOf l))++(by8 ((buildDs l).flatMap zb0)++[]));have r2:=ze6 hB.bas (by8 ((buildDs l).flatMap zb0)++[]);have r3:=zvd (buildDs l) [] [] (by rw[List.nil_append];exact hB.inv) (by rw[List.nil_append];omega);rw[List.nil_append]at r3;have s0:szL []=[]:=rfl;have d0:dpL []=[]:=rfl;rw[s0,d0]at r3;rw[←e1]at r1;unfold zq8;rw[r1];simp only[r2,Int.toNat_natCast,r3];rw[if_neg (by simp),if_neg (by simp)];rw[z81 (by rw[hall,hbs,hr];simp)];refine Prod.ext rfl (Prod.ext rfl (Prod.ext rfl ?_));show(if 0<((buildDs l).length:Int)then(szL (buildDs l)).getD (((buildDs l).length:Int).toNat-1) 0 else 0)=(l.length:Int);by_cases hne:l=[]
 ·obtain⟨h1,_⟩:=hB.ok hne;rw[h1,hne];rfl
 ·have:=List.length_pos_iff.2 (hB.pos.2 hne);rw[if_pos (by omega),Int.toNat_natCast,zxf (by omega),hB.root hne];unfold subE;rw[List.length_map]
end F
namespace F
open Go.RowKit Go.Maps
theorem buildZ_len{l:List Ent}{ds:List Nd}{base:Int}(h:Built l ds base):(zc5 [(ds.length:Int),base]++ds.flatMap zb0).length≤1099511627776:=by
 have hlen:=h.len;have hn:(zc5 [(ds.length:Int),base]).length≤18:=by
  have h1:=(zch (z:=(ds.length:Int)) ⟨by omega,by omega⟩).2;have h2:=(zch h.bas).2;simp[zc5]
  omega
 have hw:(ds.flatMap zb0).length≤6930*ds.length:=by
  have key:∀es:List Nd,(∀d∈es,(zb0 d).length≤6930)→(es.flatMap zb0).length≤6930*es.length:=by
   intro es
   induction es with
   |nil=>intro _;simp
   |
    cons d r ih=>
    intro hh
    have h1:=hh d (List.mem_cons_self ..);have h2:=ih fun x hx=>hh x (List.mem_cons_of_mem _ hx)
    rw[List.flatMap_cons,List.length_append,List.length_cons];omega
  refine key ds fun d hd=>?_
  obtain⟨i,hi⟩:=List.getElem?_of_mem hd;obtain⟨p1,p2⟩:=h.inv.fine i d hi;have hil:=(List.getElem?_eq_some_iff.1 hi).1;have hfew:=asc_few d.ways 0 (h.inv.can i d hi).asc (fun x hx=>(p2 x hx).1) (by omega);have h1:=(zch (z:=zh7 d) (by unfold zh7 zbd;split<;>omega)).2;have h2:=zjg (l:=d.ways) fun x hx=>by
   obtain⟨a,b,c⟩:=p2 x hx;exact⟨⟨a.1,by omega⟩,b,c.1,by omega⟩
  have h3:(if d.fin then numI d.out else[]).length≤9:=by
   split
   ·exact(zch p1).2
   ·exact Nat.zero_le _
  unfold zb0;rw[List.length_append,List.length_append];omega
 rw[List.length_append];omega
end F
namespace F
open Go.RowKit Go.Maps
def zrk(l:List Ent)(k:Nat):List UInt8:=if k=0 then[]else(l.getD (k-1) ([],0)).1
theorem rright_any(w:World)(B:Nat)(hB:B≤w.heap.size)(A:Option Addr)(n c:Nat)(l:List Ent)(h:Ents w B A n c l):
  Calls Tryz.prog 19 #[.slice A n c] w fun e w'=>e=.returned (.int .i64 (rightE l))∧Below w.heap.size w w':=by
 have hlen:=h.len;have hcm:=h.cm;by_cases hbig:65536<n
 ·have q1:decide (65536<n)=true:=by simpa using hbig
  have HE:Hid (rightE l=8):=by
   show _=_;unfold rightE;rw[hlen,if_pos hbig]
  clear h;go_enter Tryz.func19,Tryz.ntmps19
  go_wp2_with fail;go_ret;exact⟨by rw[HE.out];rfl,za0 w⟩
 ·have HE:Hid (rightE l=zhb l []):=by
   show _=_;unfold rightE;rw[hlen,if_neg hbig]
  have q1:decide (65536<n)=false:=by simpa using hbig
  go_enter Tryz.func19,Tryz.ntmps19
  go_wp2_with fail;go_loopw [3] (fun i wr=>∃(k:Nat),k≤n∧i=.int .i64 k∧Hid (zhb (l.drop k) (zrk l k)=zhb l [])∧Hid (Below w.heap.size w wr)) (fun i _=>n-(intOf i).toNat)
  case atStart=>exact⟨0,Nat.zero_le _,rfl,Lib.hid rfl,Lib.hid (za0 w)⟩
  case round=>
   obtain⟨k,hk,rfl,HR,HB⟩:=hrel;by_cases hlt:k<n
   ·obtain⟨e,he⟩:∃e,l[k]? =some e:=⟨l[k]'(by omega),List.getElem?_eq_getElem _⟩;obtain⟨b,off,rfl,hb,hcell⟩:=h.at_ (by omega);obtain⟨d0,d1⟩:=hcell k e he;have f0:=(HB.out.cell (p:=⟨b,off+k*2,none⟩) (by show b<_;omega)).trans d0;have f1:=(HB.out.cell (p:=⟨b,off+k*2+1,none⟩) (by show b<_;omega)).trans d1;have hnext:zrk l (k+1)=e.1:=by
     unfold zrk;rw[if_neg (by omega),Nat.add_sub_cancel,List.getD_eq_getElem?_getD,he];rfl
    obtain⟨t,o⟩:=e;have hdrop:l.drop k=(t,o)::l.drop (k+1):=by
     obtain⟨h1,h2⟩:=List.getElem?_eq_some_iff.1 he;rw[List.drop_eq_getElem_cons h1,h2]
    have HR2:=HR;rw[hdrop,zj7]at HR2;simp only at f0 f1 hnext;have HNX:=Lib.hid hnext;clear d0 d1 he hdrop hnext;by_cases c1:t=[]∨o<0
    ·rw[if_pos c1]at HR2;rcases c1 with c1|c1
     ·subst c1;go_wp2_with fail;go_ret;exact⟨by rw[HE.out,←HR2.out];rfl,HB.out⟩
     ·have q2:decide (o<0)=true:=by simpa using c1
      go_wp2_with fail;all_goals
       go_ret;exact⟨by rw[HE.out,←HR2.out];rfl,HB.out⟩
    rw[if_neg c1]at HR2;have q2:decide (o<0)=false:=by simp;omega
    have q3:t.isEmpty=false:=by
     cases t with
     |nil=>exact absurd (.inl rfl) c1
     |cons _ _=>rfl
    have htne:t≠[]:=fun e=>c1 (.inl e)
    have HTN:=Lib.hid htne;clear c1 htne;by_cases c2:64<t.length
    ·rw[if_pos c2]at HR2;have q4:decide (64<t.length)=true:=by simpa using c2
     go_wp2_with fail;go_ret;exact⟨by rw[HE.out,←HR2.out];rfl,HB.out⟩
    rw[if_neg c2]at HR2;have q4:decide (64<t.length)=false:=by simpa using c2
    by_cases hk0:k=0
    ·subst hk0;rw[Nat.zero_mul,Nat.add_zero]at f0 f1;have hl0:zrk l 0=[]:=rfl;rw[hl0]at HR2;have hf:(Op.bytesLess t []||t==[])=false:=by
      rw[bytesLess_eq];have:=HTN.out;simp[this]
     rw[hf,if_neg (by simp)]at HR2;clear hl0 hf hcell;go_wp2_with fail;go_quiet (fail)
     go_wp2_with fail;go_roundw;case rel=>exact⟨1,by omega,rfl,by rw[HNX.out];exact HR2,Lib.hid (below_drewN HB.out nq)⟩
     case measure=>simp[intOf];omega
    ·obtain⟨j,rfl⟩:∃j,k=j+1:=⟨k-1,by omega⟩;obtain⟨e',he'⟩:∃e,l[j]? =some e:=⟨l[j]'(by omega),List.getElem?_eq_getElem _⟩;obtain⟨d0,_⟩:=hcell j e' he';have g0:=(HB.out.cell (p:=⟨b,off+j*2,none⟩) (by show b<_;omega)).trans d0;have hlast:zrk l (j+1)=e'.1:=by
      unfold zrk;rw[if_neg (by omega),Nat.add_sub_cancel,List.getD_eq_getElem?_getD,he'];rfl
     rw[hlast]at HR2;obtain⟨t',o'⟩:=e';simp only at g0 HR2;have hw:IntKind.i64.wrap (((j+1:Nat):Int)-1)=(j:Int):=by rw[show((j+1:Nat):Int)-1=(j:Int) by omega];exact IntWalk.i64_in _ (by omega)
     have q6:decide (0<j+1)=true:=by simp
     have hjn:j<n:=by omega
     have hjn2:(j:Int)<(n:Int):=by omega
     clear hlast he' d0 hcell hk0;by_cases c3:(Op.bytesLess t t'||t==t')=true
     ·rw[if_pos c3]at HR2;go_wp2_with fail;go_quiet (fail)
      go_wp2_with fail;go_ret;exact⟨by rw[HE.out,←HR2.out];rfl,below_drewN HB.out nq⟩
     ·rw[if_neg c3]at HR2;have q5:(Op.bytesLess t t'||t==t')=false:=by simpa using c3
      go_wp2_with fail;go_quiet (fail)
      go_wp2_with fail;go_roundw;case rel=>exact⟨j+1+1,by omega,by go_num,by rw[HNX.out];exact HR2,Lib.hid (below_drewN HB.out nq)⟩
      case measure=>simp[intOf];omega
   ·obtain rfl:k=n:=by omega
    have hall:l.drop k=[]:=List.drop_of_length_le (by omega);have HR2:=HR;rw[hall]at HR2;go_wp2_with fail;go_ret;exact⟨by rw[HE.out,←HR2.out];rfl,HB.out⟩
end F
end Go.Proofs.YtaociahafamncaaGreatDoor
