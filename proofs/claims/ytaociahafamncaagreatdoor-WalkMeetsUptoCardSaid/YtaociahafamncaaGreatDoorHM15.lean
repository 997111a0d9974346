/- Folded. -/
import Derived.Test.YtaociahafamncaaGreatDoorHM14
set_option maxRecDepth 100000
set_option maxHeartbeats 40000000
set_option linter.unusedVariables false
namespace Go.Proofs.YtaociahafamncaaGreatDoor
section
open Go.RowKit Go.Maps
open F (Ent Nd Nh Fine DictAt entsC entC Ents rightE fits64 buildDs baseOf buildZ by8 buildS)
def sumL(l:List Ent):Int:=l.foldl (fun n e=>n+(e.1.length:Int)) 0
theorem z6a{l:List Ent}{i:Nat}{e:Ent}(h:l[i]? =some e):sumL (l.take (i+1))=sumL (l.take i)+(e.1.length:Int):=by
 unfold sumL;rw[List.take_add_one,h,List.foldl_append];rfl
theorem zH2:∀(l:List Ent),(∀e∈l,e.1.length≤140737488355328)→0≤sumL l∧sumL l≤(l.length:Int)*140737488355328:=by
 intro l hl
 have key:∀(l:List Ent) (a:Int),(∀e∈l,e.1.length≤140737488355328)→a≤l.foldl (fun n e=>n+(e.1.length:Int)) a∧l.foldl (fun n e=>n+(e.1.length:Int)) a≤a+(l.length:Int)*140737488355328:=by
  intro l
  induction l with
  |nil=>intro a _;simp
  |
   cons x r ih=>
   intro a h
   have h1:=h x (List.mem_cons_self ..);have h2:=ih (a+(x.1.length:Int)) (fun e he=>h e (List.mem_cons_of_mem _ he));rw[List.foldl_cons,List.length_cons];push_cast
   omega
 have:=key l 0 hl;unfold sumL;omega
def zfg(l:List Ent):Bool:=decide (l.length≤120)&&decide (sumL (l.take 200)≤800)&&decide (rightE l=0)
def zLe(w:World)(l:List Ent):Ending→World→Prop:=fun e w'=>Below w.heap.size w w'∧
 (
  (zfg l=false∧e=.returned (.pointer none))∨
  (zfg l=true∧∃(p B dn k:Nat) (A:Option Addr) (hs:List Nh),e=.returned (.pointer (some ⟨p,0,none⟩))∧DictAt w' p B A dn k (baseOf l) (l.length:Int) hs∧hs.map (·.d)=buildDs l))
theorem zf7(w:World)(B:Nat)(hB:B≤w.heap.size)(A:Option Addr)(n c:Nat)(l:List Ent)(h:Ents w B A n c l)(hfit:∀e∈l,fits64 e.2)(hlens:∀e∈l,e.1.length≤140737488355328)(ht:Tab w):
  Calls Tryz.prog 7 #[.slice A n c] w (zLe w l):=by
 have hlen:=h.len;have hcm:=h.cm;have HE:=Lib.hid h;have HL:=Lib.hid hlens;have HF:=Lib.hid hfit;have HT:=Lib.hid ht;clear h hlens hfit ht;go_enter Tryz.func7,Tryz.ntmps7
 go_wp2_with fail;go_loopw [3,4] (fun sv iv wr=>∃i:Nat,i≤n∧i≤200∧sv=.int .i64 (sumL (l.take i))∧iv=.int .i64 (i:Int)∧Hid (Below w.heap.size w wr)) (fun _ iv _=>201-(intOf iv).toNat)
 case atStart=>exact⟨0,Nat.zero_le _,Nat.zero_le _,rfl,rfl,za0 w⟩
 case round=>
  obtain⟨i,hi,hi2,rfl,rfl,HB⟩:=hrel;have hsm:=zH2 (l.take i) (fun e he=>HL.out e (List.mem_of_mem_take he));rw[List.length_take]at hsm;by_cases hlt:i<n∧i<200
  ·obtain⟨g1,g2⟩:=hlt;have q1:decide (i<n)=true:=decide_eq_true g1;have q2:decide (i<200)=true:=decide_eq_true g2;obtain⟨b,off,rfl,hb,hcell⟩:=(HE.out.keep (HB.out.mono hB) (Nat.le_refl _)).at_ (by omega);obtain⟨⟨et,ez⟩,he⟩:∃e,l[i]? =some e:=⟨l[i]'(by omega),List.getElem?_eq_getElem _⟩;obtain⟨d0,_⟩:=hcell i _ he;have hel:=HL.out _ (List.mem_of_getElem? he);simp only at d0 hel;have HS:=Lib.hid (z6a he);obtain⟨s,hs⟩:∃s,sumL (l.take i)=s:=⟨_,rfl⟩;have HSS:=Lib.hid hs;rw[hs]at hsm⊢;have hw:IntKind.i64.wrap (s+(et.length:Int))=s+(et.length:Int):=IntWalk.i64_in _ (by omega);clear hcell he hs;go_wp2_with fail;go_roundw;case rel=>exact⟨i+1,by omega,by omega,by rw[HS.out,HSS.out],by go_num,HB⟩
   case measure=>simp[intOf];omega
  ·obtain⟨s,hs⟩:∃s,sumL (l.take i)=s:=⟨_,rfl⟩;have HSS:=Lib.hid hs;rw[hs];clear hs hsm;have hcs:(decide (i<n)=true∧decide (i<200)=false∧decide ((i:Int)<200)=false∧200≤n)∨(decide (i<n)=false∧i=n):=by
    by_cases h1:i<n
    ·exact .inl ⟨decide_eq_true h1,decide_eq_false (by omega),decide_eq_false (by omega),by omega⟩
    ·exact .inr ⟨decide_eq_false h1,by omega⟩
   by_cases h120:120<n
   ·have q3:decide (120<n)=true:=decide_eq_true h120;have q3':decide ((n:Int)>120)=true:=decide_eq_true (by omega);have HN:Hid (zfg l=false):=by
     show _=_;unfold zfg;rw[decide_eq_false (show¬l.length≤120 by omega)];rfl
    clear hlt;rcases hcs with⟨q1,q2,q2',_⟩|⟨q1,_⟩
    all_goals
     go_wp2_with fail;go_ret;exact⟨HB.out,.inl ⟨HN.out,rfl⟩⟩
   have q3:decide (120<n)=false:=decide_eq_false h120;have q3':decide ((n:Int)>120)=false:=decide_eq_false (by omega);obtain⟨q1,rfl⟩:decide (i<n)=false∧i=n:=by
    rcases hcs with⟨_,_,_,h⟩|h
    ·omega
    ·exact h
   have HSL:Hid (sumL (l.take 200)=s):=by
    show _=_;rw[←HSS.out,List.take_of_length_le (by omega),List.take_of_length_le (by omega)]
   clear hcs hlt;by_cases h800:800<s
   ·have q4:decide (800<s)=true:=decide_eq_true h800;have HN:Hid (zfg l=false):=by
     show _=_;unfold zfg;rw[decide_eq_false (show¬sumL (l.take 200)≤800 by rw[HSL.out];omega)];simp
    go_wp2_with fail;go_ret;exact⟨HB.out,.inl ⟨HN.out,rfl⟩⟩
   have q4:decide (800<s)=false:=decide_eq_false h800;by_cases hr:rightE l=0
   ·have hO:zfg l=true:=by
     unfold zfg;rw[decide_eq_true (show l.length≤120 by omega),decide_eq_true (show sumL (l.take 200)≤800 by rw[HSL.out];omega),decide_eq_true hr];rfl
    have HO:=Lib.hid hO;clear hO HSL HSS h800;go_wp2_with fail;refine(F.rright_any wr w.heap.size HB.out.size A i c l (HE.out.keep (HB.out.mono hB) hB)).mono ?_;rintro e w3 ⟨rfl,hb3⟩;have HB3:=Lib.hid (za9 HB.out hb3);clear hb3;rw[hr];have hBu:=F.built_of hr HF.out;have HLZ:=F.buildZ_len hBu;have HBU:=Lib.hid (F.build_any w3 w.heap.size HB3.out.size A i c l (HE.out.keep (HB3.out.mono hB) hB) HF.out (HT.out.below HB3.out));have hS:buildS l=⟨(by8 (buildZ l)).toArray⟩:=by unfold F.buildS;rw[if_pos hr];rfl
    have hlz:(by8 (buildZ l)).length≤1099511627776:=by rw[F.by8_length];exact HLZ
    have HOP:=Lib.hid (fun(W:World) (ht:Tab W)=>F.open_any W (by8 (buildZ l)) hlz ht);rw[hr,hS]at HBU;rw[F.open_build hr HF.out]at HOP;obtain⟨t,ht⟩:∃t,by8 (buildZ l)=t:=⟨_,rfl⟩;rw[ht]at HBU HOP;clear hBu HLZ hS hlz hr ht;go_wp2_with fail;refine HBU.out.mono ?_;rintro e w4 ⟨rfl,hb4⟩;have HB4:=Lib.hid (za9 HB3.out hb4);clear hb4 HBU;go_wp2_with fail;refine(HOP.out w4 (HT.out.below HB4.out)).mono ?_;rintro e w5 ⟨hb5,⟨_,p,B',dn,k,A3,hs,rfl,hd,hm,_,_⟩|⟨hne,_⟩⟩
    ·have HB5:=Lib.hid (za9 HB4.out hb5);have HD5:=Lib.hid hd;have HM5:=Lib.hid hm;clear hb5 hd hm HOP;go_wp2_with fail;go_ret;exact⟨HB5.out,.inr ⟨HO.out,p,B',dn,k,A3,hs,rfl,HD5.out,HM5.out⟩⟩
    ·exact absurd rfl hne
   ·have HN:Hid (zfg l=false):=by
     show _=_;unfold zfg;rw[decide_eq_false hr];simp
    have HRR:=Lib.hid (F.rright_any wr w.heap.size HB.out.size A i c l (HE.out.keep (HB.out.mono hB) hB));obtain⟨E,hE⟩:∃E,rightE l=E:=⟨_,rfl⟩;rw[hE]at HRR hr;have q5:(E !=0)=true:=by simpa using hr
    clear hE hr HSL HSS h800;go_wp2_with fail;refine HRR.out.mono ?_;rintro e w3 ⟨rfl,hb3⟩;have HB3:=Lib.hid (za9 HB.out hb3);clear hb3;go_wp2_with fail;go_ret;exact⟨HB3.out,.inl ⟨HN.out,rfl⟩⟩
end
section
abbrev Arc3:=Int×Int×Int
def zeh(l:List Arc3)(c k:Int):List Arc3:=match l.getLast? with
 |some a=>if a.2.1+1=c∧a.2.2=k then l.dropLast++[(a.1,c,k)]else l++[(c,c,k)]
 |none=>[(c,c,k)]
def runs(g:Nat→Option Nat):Nat→List Arc3
 |0=>[]
 |c+1=>match g c with
  |none=>runs g c
  |some k=>zeh (runs g c) c k
def zbf(l:List Arc3)(x:Arc3):List Arc3:=match l.getLast? with
 |some a=>if a.2.2=x.2.2∧a.2.1+1=x.1 then l.dropLast++[(a.1,x.2.1,a.2.2)]else l++[x]
 |none=>[x]
theorem z96(l:List Arc3)(c k:Int):zbf l (c,c,k)=zeh l c k:=by
 unfold zbf zeh;split
 ·rename_i a _
  by_cases h:a.2.2=k∧a.2.1+1=c
  ·rw[if_pos h,if_pos ⟨h.2,h.1⟩,h.1]
  ·rw[if_neg h,if_neg fun h'=>h ⟨h'.2,h'.1⟩]
 ·rfl
theorem z4b(l:List Arc3)(lo hi k:Int):zeh (zbf l (lo,hi,k)) (hi+1) k=zbf l (lo,hi+1,k):=by
 have key:∀(m:List Arc3) (a:Int),zeh (m++[(a,hi,k)]) (hi+1) k=m++[(a,hi+1,k)]:=by
  intro m a
  unfold zeh;rw[List.getLast?_append];simp
 unfold zbf;split
 ·rename_i a ha
  by_cases h:a.2.2=k∧a.2.1+1=lo
  ·rw[if_pos h,if_pos h,h.1];exact key _ _
  ·rw[if_neg h,if_neg h];exact key _ _
 ·exact key [] lo
theorem zle(g:Nat→Option Nat)(lo:Nat)(k:Nat):∀n,(∀c,lo≤c→c<lo+(n+1)→g c=some k)→runs g (lo+(n+1))=zbf (runs g lo) ((lo:Int),((lo+n:Nat):Int),(k:Int))
 |
  0,h=>by
  show runs g (lo+1)=_;rw[runs,h lo (Nat.le_refl _) (by omega)];exact(z96 _ _ _).symm
 |
  n+1,h=>by
  have ih:=zle g lo k n fun c h1 h2=>h c h1 (by omega)
  show runs g (lo+(n+1)+1)=_;rw[runs,h (lo+(n+1)) (by omega) (by omega),ih];have e:((lo+(n+1):Nat):Int)=((lo+n:Nat):Int)+1:=by omega
  show zeh _ ((lo+(n+1):Nat):Int) k=_;rw[e];exact z4b _ _ _ _
theorem zk3(g:Nat→Option Nat)(lo:Nat):∀n,(∀c,lo≤c→c<lo+n→g c=none)→runs g (lo+n)=runs g lo
 |0,_=>rfl
 |
  n+1,h=>by
  show runs g (lo+n+1)=_;rw[runs,h (lo+n) (by omega) (by omega)];exact zk3 g lo n fun c h1 h2=>h c h1 (by omega)
theorem zcc{g g':Nat→Option Nat}:∀n,(∀c,c<n→g c=g' c)→runs g n=runs g' n
 |0,_=>rfl
 |n+1,h=>by rw[runs,runs,h n (by omega),zcc n fun c hc=>h c (by omega)]
structure Au(σ:Type) where
 fin:σ→Bool
 step:σ→Nat→Option σ
def Au.acc{σ:Type}(M:Au σ):σ→List Nat→Bool
 |x,[]=>M.fin x
 |x,c::r=>if c<256 then match M.step x c with
  |some y=>M.acc y r
  |none=>false else false
def Leq{σ τ:Type}(M:Au σ)(x:σ)(N:Au τ)(y:τ):Prop:=∀s,M.acc x s=N.acc y s
section
variable {σ τ ρ:Type}{M:Au σ}{N:Au τ}{L:Au ρ}{x:σ}{y:τ}{z:ρ}
theorem Leq.refl(M:Au σ)(x:σ):Leq M x M x:=fun _=>rfl
theorem Leq.symm(h:Leq M x N y):Leq N y M x:=fun s=>(h s).symm
theorem Leq.trans(h:Leq M x N y)(h':Leq N y L z):Leq M x L z:=fun s=>(h s).trans (h' s)
theorem Leq.fin(h:Leq M x N y):M.fin x=N.fin y:=h []
end
def Au.live{σ:Type}(M:Au σ)(x:σ):Prop:=∃s,M.acc x s=true
theorem Leq.live{σ τ:Type}{M:Au σ}{N:Au τ}{x:σ}{y:τ}(h:Leq M x N y):M.live x↔N.live y:=
 ⟨fun⟨s,hs⟩=>⟨s,(h s).symm.trans hs⟩,fun⟨s,hs⟩=>⟨s,(h s).trans hs⟩⟩
open Classical in
noncomputable def Au.stepL{σ:Type}(M:Au σ)(x:σ)(c:Nat):Option σ:=match M.step x c with
 |some y=>if M.live y then some y else none
 |none=>none
theorem Leq.step{σ τ:Type}{M:Au σ}{N:Au τ}{x:σ}{y:τ}(h:Leq M x N y){c:Nat}(hc:c<256):match M.stepL x c,N.stepL y c with
  |some u,some v=>Leq M u N v
  |none,none=>True
  |_,_=>False:=by
 have key:∀s,(match M.step x c with|some u=>M.acc u s|none=>false)=(match N.step y c with|some v=>N.acc v s|none=>false):=by
  intro s
  have:=h (c::s);simpa only[Au.acc,if_pos hc]using this
 unfold Au.stepL;cases hx:M.step x c with
 |
  none=>
  cases hy:N.step y c with
  |none=>trivial
  |
   some v=>
   rw[hx,hy]at key;have:¬N.live v:=fun⟨s,hs⟩=>by
    have:=key s;simp only at this;rw[hs]at this;cases this
   simp only[if_neg this]
 |
  some u=>
  cases hy:N.step y c with
  |
   none=>
   rw[hx,hy]at key;have:¬M.live u:=fun⟨s,hs⟩=>by
    have:=key s;simp only at this;rw[hs]at this;cases this
   simp only[if_neg this]
  |
   some v=>
   rw[hx,hy]at key;have huv:Leq M u N v:=key;by_cases hl:M.live u
   ·simp only[if_pos hl,if_pos (huv.live.1 hl)];exact huv
   ·simp only[if_neg hl,if_neg fun h=>hl (huv.live.2 h)]
def zai{σ:Type}(p:σ→Bool):List σ→Option Nat
 |[]=>none
 |x::r=>if p x then some 0 else(zai p r).map (· +1)
theorem ze7{σ:Type}{p:σ→Bool}:∀{l:List σ}{i:Nat},zai p l=some i→∃x,l[i]? =some x∧p x=true
 |
  x::r,i,h=>by
  rw[zai]at h;split at h
  ·rename_i hp
   injection h with h
   subst h;exact⟨x,rfl,hp⟩
  ·obtain⟨j,hj,rfl⟩:=Option.map_eq_some_iff.1 h;obtain⟨y,h1,h2⟩:=ze7 hj;exact⟨y,by rw[List.getElem?_cons_succ];exact h1,h2⟩
theorem ze8{σ:Type}{p:σ→Bool}:∀{l:List σ},zai p l=none↔∀x∈l,p x=false
 |[]=>by simp[zai]
 |
  x::r=>by
  rw[zai];split
  ·rename_i hp
   simp[hp]
  ·rename_i hp
   rw[Option.map_eq_none_iff,ze8];simp[Bool.not_eq_true]at hp⊢
   simp[hp]
theorem zba{σ:Type}{p:σ→Bool}:∀(l m:List σ),zai p (l++m)=match zai p l with
  |some i=>some i
  |none=>(zai p m).map (· +l.length)
 |[],m=>by simp[zai]
 |
  x::r,m=>by
  rw[List.cons_append,zai,zai];split
  ·rfl
  ·rw[zba r m];cases zai p r with
   |some i=>rfl
   |
    none=>
    cases zai p m with
    |some i=>simp;omega
    |none=>rfl
inductive All2 {σ τ:Type} (R:σ→τ→Prop):List σ→List τ→Prop
 |nil:All2 R [] []
 |cons {x:σ}{y:τ}{l:List σ}{m:List τ} (h:R x y) (hr:All2 R l m):All2 R (x::l) (y::m)
section
variable {σ τ:Type}{R:σ→τ→Prop}
theorem All2.len:∀{l:List σ}{m:List τ},All2 R l m→l.length=m.length
 |[],[],.nil=>rfl
 |_::_,_::_,.cons _ hr=>by rw[List.length_cons,List.length_cons,hr.len]
theorem All2.snoc:∀{l:List σ}{m:List τ}{x:σ}{y:τ},All2 R l m→R x y→All2 R (l++[x]) (m++[y])
 |[],[],_,_,.nil,h=>.cons h .nil
 |_::_,_::_,_,_,.cons h hr,h'=>.cons h (hr.snoc h')
theorem All2.get:∀{l:List σ}{m:List τ} (_:All2 R l m) (i:Nat),match l[i]?,m[i]? with
  |some x,some y=>R x y
  |none,none=>True
  |_,_=>False
 |[],[],.nil,i=>by simp
 |
  x::r,y::t,.cons h hr,i=>by
  cases i with
  |zero=>simpa using h
  |succ i=>simpa using hr.get i
end
theorem zm1{σ τ:Type}{R:σ→τ→Prop}{p:σ→Bool}{q:τ→Bool}(hpq:∀x y,R x y→p x=q y):∀{l:List σ}{m:List τ},All2 R l m→zai p l=zai q m
 |[],[],.nil=>rfl
 |
  x::r,y::t,.cons h hr=>by
  rw[zai,zai,hpq x y h,zm1 hpq hr]
structure Bfs(σ:Type) where
 step:σ→Nat→Option σ
 eqv:σ→σ→Bool
 rep:σ→σ
def Bfs.row{σ:Type}(W:Bfs σ)(x:σ)(met:List σ):Nat→List σ
 |0=>met
 |c+1=>match W.step x c with
  |none=>W.row x met c
  |some y=>match zai (fun z=>W.eqv z y) (W.row x met c)with
   |some _=>W.row x met c
   |none=>W.row x met c++[W.rep y]
def Bfs.num{σ:Type}(W:Bfs σ)(met:List σ)(x:σ)(c:Nat):Option Nat:=(W.step x c).bind fun y=>zai (fun z=>W.eqv z y) met
def Bfs.run{σ:Type}(W:Bfs σ):Nat→Nat→List σ→List σ
 |0,_,met=>met
 |f+1,i,met=>match met[i]? with
  |some x=>W.run f (i+1) (W.row x met 256)
  |none=>met
theorem Bfs.row_pre{σ:Type}(W:Bfs σ)(x:σ)(met:List σ):∀c,∃more,W.row x met c=met++more
 |0=>⟨[],by simp[Bfs.row]⟩
 |
  c+1=>by
  obtain⟨more,h⟩:=W.row_pre x met c;rw[Bfs.row];split
  ·exact⟨more,h⟩
  ·split
   ·exact⟨more,h⟩
   ·exact⟨more++[W.rep _],by rw[h,List.append_assoc]⟩
structure Alike{σ τ:Type}(R:σ→τ→Prop)(V:Bfs σ)(W:Bfs τ):Prop where
 step:∀x y,R x y→∀c,c<256→match V.step x c,W.step y c with
  |some u,some v=>R u v
  |none,none=>True
  |_,_=>False
 eqv:∀x y,R x y→∀u v,R u v→V.eqv x u=W.eqv y v
 rep:∀x y,R x y→R (V.rep x) (W.rep y)
theorem Alike.row{σ τ:Type}{R:σ→τ→Prop}{V:Bfs σ}{W:Bfs τ}(h:Alike R V W){x:σ}{y:τ}(hxy:R x y){l:List σ}{m:List τ}(hl:All2 R l m):∀c,c≤256→All2 R (V.row x l c) (W.row y m c)
 |0,_=>hl
 |
  c+1,hc=>by
  have ih:=h.row hxy hl c (by omega);have hs:=h.step x y hxy c (by omega);rw[Bfs.row,Bfs.row];cases hx:V.step x c with
  |
   none=>
   cases hy:W.step y c with
   |none=>exact ih
   |some v=>rw[hx,hy]at hs;exact hs.elim
  |
   some u=>
   cases hy:W.step y c with
   |none=>rw[hx,hy]at hs;exact hs.elim
   |
    some v=>
    rw[hx,hy]at hs;have hs:R u v:=hs;have hf:=zm1 (p:=fun z=>V.eqv z u) (q:=fun z=>W.eqv z v) (fun a b hab=>h.eqv a b hab u v hs) ih;simp only[hf];split
    ·exact ih
    ·exact ih.snoc (h.rep u v hs)
theorem Alike.run{σ τ:Type}{R:σ→τ→Prop}{V:Bfs σ}{W:Bfs τ}(h:Alike R V W):∀(f i:Nat){l:List σ}{m:List τ},All2 R l m→All2 R (V.run f i l) (W.run f i m)
 |0,_,_,_,hl=>hl
 |
  f+1,i,l,m,hl=>by
  have hg:=hl.get i;rw[Bfs.run,Bfs.run];cases hx:l[i]? with
  |
   none=>
   cases hy:m[i]? with
   |none=>exact hl
   |some v=>rw[hx,hy]at hg;exact hg.elim
  |
   some u=>
   cases hy:m[i]? with
   |none=>rw[hx,hy]at hg;exact hg.elim
   |
    some v=>
    rw[hx,hy]at hg;exact h.run f (i+1) (h.row hg hl 256 (Nat.le_refl _))
theorem Alike.num{σ τ:Type}{R:σ→τ→Prop}{V:Bfs σ}{W:Bfs τ}(h:Alike R V W){x:σ}{y:τ}(hxy:R x y){l:List σ}{m:List τ}(hl:All2 R l m){c:Nat}(hc:c<256):V.num l x c=W.num m y c:=by
 have hs:=h.step x y hxy c hc;unfold Bfs.num;cases hx:V.step x c with
 |
  none=>
  cases hy:W.step y c with
  |none=>rfl
  |some v=>rw[hx,hy]at hs;exact hs.elim
 |
  some u=>
  cases hy:W.step y c with
  |none=>rw[hx,hy]at hs;exact hs.elim
  |
   some v=>
   rw[hx,hy]at hs;exact zm1 (p:=fun z=>V.eqv z u) (q:=fun z=>W.eqv z v) (fun a b hab=>h.eqv a b hab u v hs) hl
abbrev St:=Bool×List Arc3
def Bfs.out{σ:Type}(W:Bfs σ)(fin:σ→Bool)(met:List σ):List St:=met.map fun x=>(fin x,runs (W.num met x) 256)
theorem Alike.out{σ τ:Type}{R:σ→τ→Prop}{V:Bfs σ}{W:Bfs τ}(h:Alike R V W){f:σ→Bool}{g:τ→Bool}(hfg:∀x y,R x y→f x=g y){l:List σ}{m:List τ}(hl:All2 R l m):V.out f l=W.out g m:=by
 have key:∀{a:List σ}{b:List τ},All2 R a b→a.map (fun x=>((f x,runs (V.num l x) 256):St))=b.map fun x=>(g x,runs (W.num m x) 256):=by
  intro a b hab
  induction hab with
  |nil=>rfl
  |
   cons hxy _ ih=>
   rw[List.map_cons,List.map_cons,ih,hfg _ _ hxy,zcc 256 fun c hc=>h.num hxy hl hc]
 exact key hl
open Classical in
noncomputable def zb6{σ:Type}(M:Au σ)(rep:σ→σ):Bfs σ:=⟨M.stepL,fun x y=>decide (Leq M x M y),rep⟩
open Classical in
theorem zy5{σ τ:Type}(M:Au σ)(N:Au τ){r:σ→σ}{q:τ→τ}(hr:∀x,Leq M (r x) M x)(hq:∀y,Leq N (q y) N y):Alike (fun x y=>Leq M x N y) (zb6 M r) (zb6 N q) where
 step:=fun x y h c hc=>h.step hc
 eqv:=fun x y h u v h'=>by
  show decide _=decide _;apply decide_eq_decide.2
  exact⟨fun k=>h.symm.trans (k.trans h'),fun k=>h.trans (k.trans h'.symm)⟩
 rep:=fun x y h=>(hr x).trans (h.trans (hq y).symm)
noncomputable def leastOf{σ:Type}(M:Au σ)(r:σ→σ)(f:Nat)(x:σ):List St:=(zb6 M r).out M.fin ((zb6 M r).run f 0 [x])
theorem z49{σ τ:Type}{M:Au σ}{N:Au τ}{r:σ→σ}{q:τ→τ}(hr:∀x,Leq M (r x) M x)(hq:∀y,Leq N (q y) N y)(f:Nat){x:σ}{y:τ}(h:Leq M x N y):leastOf M r f x=leastOf N q f y:=by
 have ha:=zy5 M N hr hq;exact ha.out (fun _ _ h=>h.fin) (ha.run f 0 (.cons h .nil))
theorem Bfs.run_succ{σ:Type}(W:Bfs σ):∀(f i:Nat) (met:List σ),W.run (f+1) i met=match(W.run f i met)[i+f]? with
  |some x=>W.row x (W.run f i met) 256
  |none=>W.run f i met
 |
  0,i,met=>by
  rw[Bfs.run,Nat.add_zero,Bfs.run];cases met[i]? with
  |none=>rfl
  |some x=>rfl
 |
  f+1,i,met=>by
  rw[Bfs.run];cases hx:met[i]? with
  |
   none=>
   have h1:W.run (f+1) i met=met:=by rw[Bfs.run,hx]
   rw[h1];have h2:met[i+(f+1)]? =none:=by
    rw[List.getElem?_eq_none_iff]at hx⊢;omega
   rw[h2]
  |
   some x=>
   have h1:W.run (f+1) i met=W.run f (i+1) (W.row x met 256):=by rw[Bfs.run,hx]
   rw[h1];have:=W.run_succ f (i+1) (W.row x met 256);rw[show i+1+f=i+(f+1) by omega]at this;exact this
theorem Bfs.run_end{σ:Type}(W:Bfs σ){f i:Nat}{met:List σ}(h:(W.run f i met)[i+f]? =none):∀k,W.run (f+k) i met=W.run f i met
 |0=>rfl
 |
  k+1=>by
  rw[←Nat.add_assoc,W.run_succ,W.run_end h k];have h2:(W.run f i met)[i+(f+k)]? =none:=by
   rw[List.getElem?_eq_none_iff]at h⊢;omega
  rw[h2]
def Bfs.Met{σ:Type}(W:Bfs σ)(met:List σ)(x:σ):Prop:=∀c,c<256→∀y,W.step x c=some y→∃z∈met,W.eqv z y=true
theorem Bfs.row_met{σ:Type}(W:Bfs σ)(he:∀x,W.eqv (W.rep x) x=true)(x:σ)(met:List σ):∀n,∀c,c<n→∀y,W.step x c=some y→∃z∈W.row x met n,W.eqv z y=true
 |0,c,hc,_,_=>absurd hc (by omega)
 |
  n+1,c,hc,y,hy=>by
  rw[Bfs.row];by_cases hcn:c<n
  ·obtain⟨z,hz,h⟩:=W.row_met he x met n c hcn y hy;split
   ·exact⟨z,hz,h⟩
   ·split
    ·exact⟨z,hz,h⟩
    ·exact⟨z,List.mem_append_left _ hz,h⟩
  ·obtain rfl:c=n:=by omega
   rw[hy];simp only
   split
   ·rename_i i hi
    obtain⟨z,h1,h2⟩:=ze7 hi;exact⟨z,List.mem_of_getElem? h1,h2⟩
   ·exact⟨W.rep y,List.mem_append_right _ (List.mem_singleton.2 rfl),he y⟩
theorem Bfs.Met.more{σ:Type}{W:Bfs σ}{met more:List σ}{x:σ}(h:W.Met met x):W.Met (met++more) x:=fun c hc y hy=>by
 obtain⟨z,hz,h1⟩:=h c hc y hy;exact⟨z,List.mem_append_left _ hz,h1⟩
theorem Bfs.run_met{σ:Type}(W:Bfs σ)(he:∀x,W.eqv (W.rep x) x=true)(x0:σ):∀(f j:Nat) (x:σ),j<f→(W.run f 0 [x0])[j]? =some x→W.Met (W.run f 0 [x0]) x
 |0,_,_,h,_=>absurd h (by omega)
 |
  f+1,j,x,hj,hx=>by
  rw[W.run_succ,Nat.zero_add]at hx⊢;cases hf:(W.run f 0 [x0])[f]? with
  |
   none=>
   rw[hf]at hx;simp only at hx⊢;by_cases hjf:j<f
   ·exact W.run_met he x0 f j x hjf hx
   ·obtain rfl:j=f:=by omega
    rw[hf]at hx;cases hx
  |
   some y=>
   rw[hf]at hx;simp only at hx⊢;obtain⟨more,hm⟩:=W.row_pre y (W.run f 0 [x0]) 256;have hlen:=(List.getElem?_eq_some_iff.1 hf).1;have hx2:(W.run f 0 [x0])[j]? =some x:=by
    rw[hm,List.getElem?_append_left (by omega)]at hx;exact hx
   by_cases hjf:j<f
   ·rw[hm];exact(W.run_met he x0 f j x hjf hx2).more
   ·obtain rfl:j=f:=by omega
    rw[hf]at hx2;injection hx2 with hx2
    subst hx2;exact fun c hc z hz=>W.row_met he y _ 256 c hc z hz
def lookA(l:List Arc3)(c:Int):Option Int:=(l.find? fun a=>decide (a.1≤c∧c≤a.2.1)).map (·.2.2)
structure Asc(l:List Arc3)(c:Int):Prop where
 lt:l.Pairwise fun a b=>a.2.1<b.1
 ok:∀a∈l,0≤a.1∧a.1≤a.2.1∧a.2.1<c
theorem Asc.snoc{l:List Arc3}{c:Int}(h:Asc l c){a:Arc3}(h0:0≤a.1)(h1:∀b∈l,b.2.1<a.1)(h2:a.1≤a.2.1){c':Int}(hc:c≤c')(h3:a.2.1<c'):Asc (l++[a]) c':=by
 refine⟨List.pairwise_append.2 ⟨h.lt,List.pairwise_singleton _ _,fun x hx y hy=>?_⟩,fun x hx=>?_⟩
 ·rw[List.mem_singleton.1 hy];exact h1 x hx
 ·rcases List.mem_append.1 hx with hx|hx
  ·have:=h.ok x hx;omega
  ·rw[List.mem_singleton.1 hx];exact⟨h0,h2,h3⟩
theorem Asc.pre{l m:List Arc3}{c:Int}(h:Asc (l++m) c):Asc l c:=⟨(List.pairwise_append.1 h.lt).1,fun a ha=>h.ok a (List.mem_append_left _ ha)⟩
theorem zih{l:List Arc3}{c:Int}(h:∀a∈l,a.2.1<c):lookA l c=none:=by
 unfold lookA;rw[Option.map_eq_none_iff,List.find?_eq_none];intro a ha
 have:=h a ha;simp
 omega
theorem zeg(l m:List Arc3)(c:Int):lookA (l++m) c=match lookA l c with
  |some k=>some k
  |none=>lookA m c:=by
 unfold lookA;rw[List.find?_append];cases List.find? (fun a:Arc3=>decide (a.1≤c∧c≤a.2.1)) l<;>rfl
theorem zhe(a:Arc3)(c:Int):lookA [a] c=if a.1≤c∧c≤a.2.1 then some a.2.2 else none:=by
 unfold lookA;by_cases h:a.1≤c∧c≤a.2.1
 ·rw[if_pos h,List.find?_cons_of_pos (by simpa using h)];rfl
 ·rw[if_neg h,List.find?_cons_of_neg (by simpa using h)];rfl
theorem z98{l:List Arc3}{c k:Int}(h:Asc l c)(hc:0≤c):Asc (zeh l c k) (c+1)∧∀d:Int,lookA (zeh l c k) d=if d=c then some k else lookA l d:=by
 have hnew:Asc (l++[(c,c,k)]) (c+1)∧∀d:Int,lookA (l++[(c,c,k)]) d=if d=c then some k else lookA l d:=by
  refine⟨h.snoc hc (fun b hb=>(h.ok b hb).2.2) (Int.le_refl _) (by omega) (by show c<c+1;omega),fun d=>?_⟩;rw[zeg,zhe];by_cases hd:d=c
  ·rw[if_pos hd,hd,zih fun a ha=>(h.ok a ha).2.2];simp
  ·rw[if_neg hd];simp only
   rw[if_neg (by omega)];cases lookA l d<;>rfl
 unfold zeh;split
 ·rename_i a ha
  by_cases hj:a.2.1+1=c∧a.2.2=k
  ·rw[if_pos hj];obtain⟨m,rfl⟩:=List.getLast?_eq_some_iff.1 ha;have hm:=h.pre;have hao:=h.ok a (by simp);have hlt:∀b∈m,b.2.1<a.1:=fun b hb=>(List.pairwise_append.1 h.lt).2.2 b hb a (by simp)
   rw[List.dropLast_concat];refine⟨hm.snoc (a:=(a.1,c,k)) hao.1 hlt (by show a.1≤c;omega) (Int.le_add_one (Int.le_refl c)) (by show c<c+1;omega),fun d=>?_⟩;rw[zeg,zeg,zhe,zhe];by_cases hd:d=c
   ·rw[if_pos hd,hd,zih fun b hb=>by have:=hm.ok b hb;omega];simp only
    rw[if_pos (by omega)]
   ·rw[if_neg hd];cases lookA m d with
    |some x=>rfl
    |
     none=>
     simp only
     by_cases hin:a.1≤d∧d≤a.2.1
     ·rw[if_pos hin,if_pos (by omega),hj.2]
     ·rw[if_neg hin,if_neg (by omega)]
  ·rw[if_neg hj];exact hnew
 ·rename_i hn
  rw[List.getLast?_eq_none_iff.1 hn]at hnew⊢;exact hnew
theorem zf4(g:Nat→Option Nat):∀n:Nat,Asc (runs g n) n∧∀d:Nat,lookA (runs g n) d=if d<n then(g d).map (fun k:Nat=>(k:Int))else none
 |0=>⟨⟨List.Pairwise.nil,fun a ha=>by cases ha⟩,fun d=>by simp[runs,lookA]⟩
 |
  n+1=>by
  obtain⟨h1,h2⟩:=zf4 g n;rw[runs];cases hg:g n with
  |
   none=>
   refine⟨⟨h1.lt,fun a ha=>by have:=h1.ok a ha;omega⟩,fun d=>?_⟩;rw[h2 d];by_cases hd:d<n
   ·rw[if_pos hd,if_pos (by omega)]
   ·rw[if_neg hd];by_cases hdn:d=n
    ·rw[if_pos (by omega),hdn,hg];rfl
    ·rw[if_neg (by omega)]
  |
   some k=>
   obtain⟨h3,h4⟩:=z98 (k:=(k:Int)) h1 (by omega);refine⟨by
         have e:((n+1:Nat):Int)=(n:Int)+1:=by omega
         rw[e];exact h3,fun d=>?_⟩
   simp only
   rw[h4 d,h2 d];by_cases hd:d=n
   ·subst hd;rw[if_pos rfl,if_pos (by omega),hg];rfl
   ·rw[if_neg (by omega)];by_cases hdn:d<n
    ·rw[if_pos hdn,if_pos (by omega)]
    ·rw[if_neg hdn,if_neg (by omega)]
def auOf(d:List St):Au Nat:=⟨fun x=>(d[x]?.map (·.1)).getD false,fun x c=>(d[x]?).bind fun s=>(lookA s.2 c).map Int.toNat⟩
theorem ztk{σ:Type}(W:Bfs σ)(fin:σ→Bool){met:List σ}(heq:∀z y,W.eqv z y=true→Leq ⟨fin,W.step⟩ z ⟨fin,W.step⟩ y)(hm:∀x∈met,W.Met met x):∀(s:List Nat) (i:Nat) (x:σ),met[i]? =some x→(auOf (W.out fin met)).acc i s=(⟨fin,W.step⟩:Au σ).acc x s
 |
  [],i,x,hx=>by
  show((W.out fin met)[i]?.map (·.1)).getD false=fin x;unfold Bfs.out;rw[List.getElem?_map,hx];rfl
 |
  c::r,i,x,hx=>by
  rw[Au.acc,Au.acc];by_cases hc:c<256
  ·rw[if_pos hc,if_pos hc];have hst:(auOf (W.out fin met)).step i c=W.num met x c:=by
    show((W.out fin met)[i]?).bind (fun s=>(lookA s.2 c).map Int.toNat)=_;unfold Bfs.out;rw[List.getElem?_map,hx];show(lookA (runs (W.num met x) 256) c).map Int.toNat=_;rw[(zf4 (W.num met x) 256).2 c,if_pos hc];cases W.num met x c<;>simp
   have hnum:W.num met x c=(W.step x c).bind fun y=>zai (fun z=>W.eqv z y) met:=rfl
   have hst2:(⟨fin,W.step⟩:Au σ).step x c=W.step x c:=rfl;rw[hst,hst2,hnum];cases hy:W.step x c with
   |none=>rfl
   |
    some y=>
    obtain⟨z,hz,hzy⟩:=hm x (List.mem_of_getElem? hx) c hc y hy;simp only[Option.bind_some];cases hf:zai (fun z=>W.eqv z y) met with
    |
     none=>
     have:=ze8.1 hf z hz;rw[hzy]at this;cases this
    |
     some k=>
     obtain⟨u,h1,h2⟩:=ze7 hf;exact(ztk W fin heq hm r k u h1).trans (heq u y h2 r)
  ·rw[if_neg hc,if_neg hc]
end
section
def ledA(f:Int→Option Nat)(l:List Arc3):List Arc3:=l.foldl (fun acc a=>match f a.2.2 with
 |some k=>zbf acc (a.1,a.2.1,(k:Int))
 |none=>acc) []
theorem zkh(f:Int→Option Nat)(l:List Arc3)(a:Arc3):ledA f (l++[a])=match f a.2.2 with
  |some k=>zbf (ledA f l) (a.1,a.2.1,(k:Int))
  |none=>ledA f l:=by
 unfold ledA;rw[List.foldl_append];rfl
theorem zhc{α:Type}{p:List α→Prop}(h0:p [])(h1:∀l a,p l→p (l++[a]))(l:List α):p l:=by
 have:∀n,∀l:List α,l.length=n→p l:=by
  intro n
  induction n with
  |zero=>intro l hl;rw[List.eq_nil_of_length_eq_zero hl];exact h0
  |
   succ n ih=>
   intro l hl
   have hne:l≠[]:=fun e=>by rw[e]at hl;cases hl
   rw[←List.dropLast_concat_getLast hne];exact h1 _ _ (ih _ (by rw[List.length_dropLast,hl];rfl))
 exact this _ l rfl
theorem zw4(f:Int→Option Nat)(l:List Arc3):∀n:Nat,Asc l n→ledA f l=runs (fun c=>(lookA l c).bind f) n:=by
 induction l using zhc with
 |
  h0=>
  intro n _
  have:∀n,runs (fun c:Nat=>(lookA [] c).bind f) n=[]:=by
   intro n
   induction n with
   |zero=>rfl
   |succ n ih=>rw[runs];exact ih
  exact(this n).symm
 |
  h1 l a ih=>
  intro n h
  have hm:=h.pre;have hao:=h.ok a (by simp);have hlt:∀b∈l,b.2.1<a.1:=fun b hb=>(List.pairwise_append.1 h.lt).2.2 b hb a (by simp)
  obtain⟨lo,hlo⟩:=Int.eq_ofNat_of_zero_le hao.1;obtain⟨w,hw⟩:∃w:Nat,a.2.1=((lo+w:Nat):Int):=⟨(a.2.1-lo).toNat,by omega⟩;have hn:lo+(w+1)≤n:=by omega
  have hl:Asc l lo:=⟨hm.lt,fun b hb=>⟨(hm.ok b hb).1,(hm.ok b hb).2.1,by rw[←hlo];exact hlt b hb⟩⟩;have hih:=ih lo hl;have e1:runs (fun c:Nat=>(lookA (l++[a]) c).bind f) lo=ledA f l:=by
   rw[hih];refine zcc lo fun c hc=>?_
   rw[zeg,zhe,if_neg (by omega)];cases lookA l c<;>rfl
  have hin:∀c:Nat,lo≤c→c<lo+(w+1)→(lookA (l++[a]) c).bind f=f a.2.2:=by
   intro c h1 h2
   rw[zeg,zhe,zih fun b hb=>by have:=hlt b hb;omega,if_pos (by omega)];rfl
  have htop:runs (fun c:Nat=>(lookA (l++[a]) c).bind f) n=runs (fun c:Nat=>(lookA (l++[a]) c).bind f) (lo+(w+1)):=by
   obtain⟨k,hk⟩:∃k,n=lo+(w+1)+k:=⟨n-(lo+(w+1)),by omega⟩;rw[hk];refine zk3 _ _ _ fun c h1 h2=>?_
   rw[zih]
   ·rfl
   ·intro b hb
    rcases List.mem_append.1 hb with hb|hb
    ·have:=hlt b hb;omega
    ·rw[List.mem_singleton.1 hb];omega
  rw[htop,zkh];cases hf:f a.2.2 with
  |
   none=>
   have:=zk3 (fun c:Nat=>(lookA (l++[a]) c).bind f) lo (w+1) fun c h1 h2=>by rw[hin c h1 h2,hf]
   rw[this,e1]
  |
   some k=>
   have:=zle (fun c:Nat=>(lookA (l++[a]) c).bind f) lo k w fun c h1 h2=>by rw[hin c h1 h2,hf]
   rw[this,e1];simp only
   rw[hlo,hw]
theorem zgi(g:Nat→Option Nat):∀n,∀a∈runs g n,∃c k,c<n∧g c=some k∧a.2.2=(k:Int)
 |0,a,h=>by cases h
 |
  n+1,a,h=>by
  rw[runs]at h;cases hg:g n with
  |
   none=>
   rw[hg]at h;obtain⟨c,k,h1,h2,h3⟩:=zgi g n a h;exact⟨c,k,by omega,h2,h3⟩
  |
   some k=>
   rw[hg]at h;simp only at h;have hnew:∀m:List Arc3,(∀b∈m,b∈runs g n)→∀lo:Int,a∈m++[(lo,(n:Int),(k:Int))]→∃c k,c<n+1∧g c=some k∧a.2.2=(k:Int):=by
    intro m hm lo ha
    rcases List.mem_append.1 ha with ha|ha
    ·obtain⟨c,k,h1,h2,h3⟩:=zgi g n a (hm a ha);exact⟨c,k,by omega,h2,h3⟩
    ·rw[List.mem_singleton.1 ha];exact⟨n,k,by omega,hg,rfl⟩
   unfold zeh at h;split at h
   ·split at h
    ·exact hnew _ (fun b hb=>List.dropLast_subset _ hb) _ h
    ·exact hnew _ (fun b hb=>hb) _ h
   ·exact hnew [] (fun b hb=>by cases hb) _ h
theorem zzi(g:Nat→Option Nat)(h:Nat→Nat):∀n,(∀c,c<n→∀c',c'<n→∀k k',g c=some k→g c'=some k'→h k=h k'→k=k')→runs (fun c=>(g c).map h) n=(runs g n).map fun a=>(a.1,a.2.1,(h a.2.2.toNat:Int))
 |0,_=>rfl
 |
  n+1,hi=>by
  have ih:=zzi g h n fun c hc c' hc'=>hi c (by omega) c' (by omega)
  rw[runs,runs,ih];cases hg:g n with
  |none=>rfl
  |
   some k=>
   simp only[Option.map_some];unfold zeh;rw[List.getLast?_map];cases hl:(runs g n).getLast? with
   |none=>simp
   |
    some a=>
    simp only[Option.map_some];obtain⟨c,k',hc,hg',ha⟩:=zgi g n a (List.mem_of_getLast? hl);have hk:(h a.2.2.toNat:Int)=(h k:Int)↔a.2.2=(k:Int):=by
     rw[ha,Int.toNat_natCast];constructor
     ·intro e
      rw[hi c (by omega) n (by omega) k' k hg' hg (by omega)]
     ·intro e
      have:k'=k:=by omega
      rw[this]
    by_cases hj:a.2.1+1=(n:Int)∧a.2.2=(k:Int)
    ·rw[if_pos hj,if_pos ⟨hj.1,hk.2 hj.2⟩,List.map_append,List.map_dropLast];simp
    ·rw[if_neg hj,if_neg fun e=>hj ⟨e.1,hk.1 e.2⟩,List.map_append];simp
theorem zC4{g g':Nat→Option Nat}{n:Nat}(h:runs g n=runs g' n):∀c,c<n→g c=g' c:=by
 intro c hc
 have h1:=(zf4 g n).2 c;have h2:=(zf4 g' n).2 c;rw[h,h2,if_pos hc,if_pos hc]at h1;cases hg:g c with
 |
  none=>
  cases hg':g' c with
  |none=>rfl
  |some k=>rw[hg,hg']at h1;cases h1
 |
  some k=>
  cases hg':g' c with
  |none=>rw[hg,hg']at h1;cases h1
  |
   some k'=>
   rw[hg,hg']at h1;simp only[Option.map_some]at h1;injection h1 with h1
   have:k'=k:=by omega
   rw[this]
section
variable {M:Au Nat}{n:Nat}{cls cls':Nat→Nat}
open Classical in
noncomputable def keyOf(M:Au Nat)(cls:Nat→Nat)(x:Nat):Option (Nat×Bool×List Arc3):=
 if M.live x then some (cls x,M.fin x,runs (fun c=>(M.stepL x c).map cls) 256)else none
def zq5(M:Au Nat)(n:Nat):Prop:=∀x,x<n→∀c y,M.step x c=some y→y<n
theorem zjj(hW:zq5 M n){x c y:Nat}(hx:x<n)(h:M.stepL x c=some y):y<n∧M.live y∧M.step x c=some y:=by
 unfold Au.stepL at h;cases hs:M.step x c with
 |none=>rw[hs]at h;cases h
 |
  some z=>
  rw[hs]at h;simp only at h;split at h
  ·rename_i hl
   injection h with h
   subst h;exact⟨hW x hx c _ hs,hl,rfl⟩
  ·cases h
def zmh(M:Au Nat)(n:Nat)(cls:Nat→Nat):Prop:=∀x,x<n→∀y,y<n→Leq M x M y→cls x=cls y
theorem zId(hW:zq5 M n)(hC:zmh M n cls){x y:Nat}(hx:x<n)(hy:y<n)(h:Leq M x M y):keyOf M cls x=keyOf M cls y:=by
 unfold keyOf;by_cases hl:M.live x
 ·rw[if_pos hl,if_pos (h.live.1 hl),hC x hx y hy h,h.fin];congr 3
  refine zcc 256 fun c hc=>?_
  have hs:=h.step hc;cases hu:M.stepL x c with
  |
   none=>
   cases hv:M.stepL y c with
   |none=>rfl
   |some v=>rw[hu,hv]at hs;exact hs.elim
  |
   some u=>
   cases hv:M.stepL y c with
   |none=>rw[hu,hv]at hs;exact hs.elim
   |
    some v=>
    rw[hu,hv]at hs;show some (cls u)=some (cls v);rw[hC u (zjj hW hx hu).1 v (zjj hW hy hv).1 hs]
 ·rw[if_neg hl,if_neg fun h'=>hl (h.live.2 h')]
theorem zh3{σ:Type}{M:Au σ}{x:σ}(h:¬M.live x)(s:List Nat):M.acc x s=false:=by
 cases hs:M.acc x s with
 |false=>rfl
 |true=>exact absurd ⟨s,hs⟩ h
theorem zx9{σ:Type}(M:Au σ)(x:σ)(c:Nat)(r:List Nat):M.acc x (c::r)=if c<256 then match M.stepL x c with
  |some y=>M.acc y r
  |none=>false else false:=by
 rw[Au.acc];split
 ·unfold Au.stepL;cases hs:M.step x c with
  |none=>rfl
  |
   some y=>
   simp only
   by_cases hl:M.live y
   ·rw[if_pos hl]
   ·rw[if_neg hl];exact zh3 hl r
 ·rfl
theorem z3d(hW:zq5 M n)(hs:∀x,x<n→∀y,y<n→cls x=cls y→keyOf M cls x=keyOf M cls y):∀(s:List Nat) (x y:Nat),x<n→y<n→cls x=cls y→M.acc x s=M.acc y s:=by
 intro s
 induction s with
 |
  nil=>
  intro x y hx hy h
  have hk:=hs x hx y hy h;unfold keyOf at hk;by_cases hl:M.live x
  ·by_cases hl':M.live y
   ·rw[if_pos hl,if_pos hl']at hk;injection hk with hk
    injection hk with _ hk
    injection hk with hk _
   ·rw[if_pos hl,if_neg hl']at hk;cases hk
  ·by_cases hl':M.live y
   ·rw[if_neg hl,if_pos hl']at hk;cases hk
   ·rw[zh3 hl,zh3 hl']
 |
  cons c r ih=>
  intro x y hx hy h
  have hk:=hs x hx y hy h;unfold keyOf at hk;by_cases hl:M.live x
  ·by_cases hl':M.live y
   ·rw[if_pos hl,if_pos hl']at hk;injection hk with hk
    injection hk with _ hk
    injection hk with _ hk
    rw[zx9,zx9];by_cases hc:c<256
    ·rw[if_pos hc,if_pos hc];have hg:=zC4 hk c hc;cases hu:M.stepL x c with
     |
      none=>
      cases hv:M.stepL y c with
      |none=>rfl
      |some v=>rw[hu,hv]at hg;cases hg
     |
      some u=>
      cases hv:M.stepL y c with
      |none=>rw[hu,hv]at hg;cases hg
      |
       some v=>
       rw[hu,hv]at hg;injection hg with hg
       exact ih u v (zjj hW hx hu).1 (zjj hW hy hv).1 hg
    ·rw[if_neg hc,if_neg hc]
   ·rw[if_pos hl,if_neg hl']at hk;cases hk
  ·by_cases hl':M.live y
   ·rw[if_neg hl,if_pos hl']at hk;cases hk
   ·rw[zh3 hl,zh3 hl']
def Onto(n:Nat)(cls:Nat→Nat)(count:Nat):Prop:=(∀x,x<n→cls x<count)∧∀k,k<count→∃x,x<n∧cls x=k
theorem all_len:∀(m:Nat) (l:List Nat),(∀k,k<m→k∈l)→m≤l.length
 |0,_,_=>Nat.zero_le _
 |
  m+1,l,h=>by
  have hm:=h m (by omega);have:=all_len m (l.erase m) fun k hk=>(List.mem_erase_of_ne (by omega)).2 (h k (by omega))
  rw[List.length_erase_of_mem hm]at this;have:=List.length_pos_of_mem hm;omega
theorem z3f{count:Nat}(ho:Onto n cls count)(ho':Onto n cls' count)(hr:∀x,x<n→∀y,y<n→cls' x=cls' y→cls x=cls y){x y:Nat}(hx:x<n)(hy:y<n)(h:cls x=cls y):cls' x=cls' y:=by
 apply Classical.byContradiction
 intro hne
 have hf:∀k:Nat,∃z,k<count→z<n∧cls' z=k:=fun k=>by
  by_cases hk:k<count
  ·obtain⟨z,h1,h2⟩:=ho'.2 k hk;exact⟨z,fun _=>⟨h1,h2⟩⟩
  ·exact⟨0,fun h=>absurd h hk⟩
 let f:Nat→Nat:=fun k=>cls (Classical.choose (hf k))
 have hfz:∀z,z<n→f (cls' z)=cls z:=fun z hz=>by
  have:=Classical.choose_spec (hf (cls' z)) (ho'.1 z hz);exact hr _ this.1 z hz this.2
 have hy':=ho'.1 y hy;have hall:=all_len count (((List.range count).erase (cls' y)).map f) fun k hk=>by
  obtain⟨z,hz,hzk⟩:=ho.2 k hk;rw[List.mem_map];by_cases hzy:cls' z=cls' y
  ·refine⟨cls' x,(List.mem_erase_of_ne hne).2 (List.mem_range.2 (ho'.1 x hx)),?_⟩;rw[hfz x hx,h,←hr z hz y hy hzy,hzk]
  ·exact⟨cls' z,(List.mem_erase_of_ne hzy).2 (List.mem_range.2 (ho'.1 z hz)),by rw[hfz z hz,hzk]⟩
 rw[List.length_map,List.length_erase_of_mem (List.mem_range.2 hy'),List.length_range]at hall;omega
structure Round(M:Au Nat)(n:Nat)(cls cls':Nat→Nat)(count':Nat):Prop where
 onto:Onto n cls' count'
 iff:∀x,x<n→∀y,y<n→(cls' x=cls' y↔keyOf M cls x=keyOf M cls y)
theorem Round.coarse{c:Nat}(h:Round M n cls cls' c)(hW:zq5 M n)(hC:zmh M n cls):zmh M n cls':=fun x hx y hy hxy=>(h.iff x hx y hy).2 (zId hW hC hx hy hxy)
theorem Round.finer{c:Nat}(h:Round M n cls cls' c)(hC:zmh M n cls){x y:Nat}(hx:x<n)(hy:y<n)(he:cls' x=cls' y):cls x=cls y:=by
 have hk:=(h.iff x hx y hy).1 he;unfold keyOf at hk;by_cases hl:M.live x
 ·by_cases hl':M.live y
  ·rw[if_pos hl,if_pos hl']at hk;injection hk with hk
   injection hk with hk _
  ·rw[if_pos hl,if_neg hl']at hk;cases hk
 ·by_cases hl':M.live y
  ·rw[if_neg hl,if_pos hl']at hk;cases hk
  ·exact hC x hx y hy fun s=>by rw[zh3 hl,zh3 hl']
theorem Round.last{c:Nat}(h:Round M n cls cls' c)(hW:zq5 M n)(hC:zmh M n cls)(ho:Onto n cls c){x y:Nat}(hx:x<n)(hy:y<n):cls' x=cls' y↔Leq M x M y:=by
 have hfin:∀x,x<n→∀y,y<n→cls' x=cls' y→cls x=cls y:=fun x hx y hy he=>h.finer hC hx hy he
 constructor
 ·intro he s
  exact z3d hW (fun x hx y hy e=>(h.iff x hx y hy).1 (z3f ho h.onto hfin hx hy e)) s x y hx hy (hfin x hx y hy he)
 ·exact h.coarse hW hC x hx y hy
theorem z82{count:Nat}(h:Onto n cls count):count≤n:=by
 have:=all_len count ((List.range n).map cls) fun k hk=>by
  obtain⟨x,hx,he⟩:=h.2 k hk;exact List.mem_map.2 ⟨x,List.mem_range.2 hx,he⟩
 rwa[List.length_map,List.length_range]at this
theorem Round.more{c c':Nat}(h:Round M n cls cls' c')(hC:zmh M n cls)(ho:Onto n cls c):c≤c':=by
 have hf:∀k:Nat,∃z,k<c'→z<n∧cls' z=k:=fun k=>by
  by_cases hk:k<c'
  ·obtain⟨z,h1,h2⟩:=h.onto.2 k hk;exact⟨z,fun _=>⟨h1,h2⟩⟩
  ·exact⟨0,fun h=>absurd h hk⟩
 have:=all_len c ((List.range c').map fun k=>cls (Classical.choose (hf k))) fun k hk=>by
  obtain⟨z,hz,hzk⟩:=ho.2 k hk;refine List.mem_map.2 ⟨cls' z,List.mem_range.2 (h.onto.1 z hz),?_⟩;have:=Classical.choose_spec (hf (cls' z)) (h.onto.1 z hz);rw[←hzk];exact h.finer hC this.1 hz this.2
 rwa[List.length_map,List.length_range]at this
end
end
end Go.Proofs.YtaociahafamncaaGreatDoor
