/- Folded. -/
import Derived.Deep.OwnRows
import Derived.Test.YtaociahafamncaaGreatDoorHW20
set_option maxRecDepth 100000
set_option maxHeartbeats 40000000
namespace Go.Proofs.YtaociahafamncaaGreatDoor
section
open Go.RowKit
theorem made_list(z:Value):∀n,(madeCells #[z] n).toList=List.replicate n z:=by
 intro n
 apply List.ext_getElem?
 intro j
 by_cases hj:j<n
 ·simp[madeCells,hj,Nat.mod_one]
 ·simp[madeCells,hj]
theorem make_int(n:Nat)(hn:n≤1099511627776)(w:World):(Instr.makeSlice 71 (.int .i64 (n:Int)) (.int .i64 (n:Int))).run Tryz.prog w=.ok (.slice (some ⟨w.heap.size,0,none⟩) n n) (w.alloc (.cells (madeCells #[.int .i64 0] n) 3)):=
 run_make_row' 71 3 (.int .i64 0) 8 Tryz.underlying71 (by kernel_rfl) rfl .i64 .i64 n (by omega) (by omega) w
theorem make_bool(n:Nat)(hn:n≤1099511627776)(w:World):(Instr.makeSlice 59 (.int .i64 (n:Int)) (.int .i64 (n:Int))).run Tryz.prog w=.ok (.slice (some ⟨w.heap.size,0,none⟩) n n) (w.alloc (.cells (madeCells #[.bool false] n) 4)):=
 run_make_row' 59 4 (.bool false) 1 Tryz.underlying59 (by kernel_rfl) rfl .i64 .i64 n (by omega) (by omega) w
theorem make_ints(n:Nat)(hn:n≤1099511627776)(w:World):(Instr.makeSlice 67 (.int .i64 (n:Int)) (.int .i64 (n:Int))).run Tryz.prog w=.ok (.slice (some ⟨w.heap.size,0,none⟩) n n) (w.alloc (.cells (madeCells #[.slice none 0 0] n) 71)):=
 run_make_row' 67 71 (.slice none 0 0) 24 Tryz.underlying67 (by kernel_rfl) rfl .i64 .i64 n (by omega) (by omega) w
theorem own_made(w:World)(z:Value)(n:Nat)(hn:n≤1099511627776)(e:TypeId){nb:Nat}(h:nb=w.heap.size){base:Nat}(hb:base≤w.heap.size):(w.alloc (.cells (madeCells #[z] n) e)).ownsRow base e 1 (.slice (some ⟨nb,0,none⟩) n n) n (List.replicate n z):=by
 have hl:=made_list z n;have h1:=own_new w (madeCells #[z] n) e 1 n (by rw[←Array.length_toList,hl,List.length_replicate,Nat.mul_one]) (by unfold maxLen;omega) h hb;rw[hl]at h1;exact h1
end
section
open Go.RowKit
structure Rw where
 A:Option Addr
 c:Nat
 l:List Int
def Rw.val(x:Rw):Value:=.slice x.A x.l.length x.c
def Rw.own(W:World)(base:Nat)(x:Rw):Prop:=W.ownsRow base 3 1 x.val x.l.length (x.l.map (.int .i64))
def Ap(x y:Rw):Prop:=x.val.ownBlock=none∨y.val.ownBlock=none∨x.val.ownBlock≠y.val.ownBlock
theorem Ap.symm{x y:Rw}(h:Ap x y):Ap y x:=by
 rcases h with h|h|h
 ·exact .inr (.inl h)
 ·exact .inl h
 ·exact .inr (.inr fun e=>h e.symm)
structure Fam(W:World)(base:Nat)(F:List Rw):Prop where
 own:∀x∈F,x.own W base
 ap:F.Pairwise Ap
theorem Fam.below{W W':World}{base:Nat}{F:List Rw}(h:Fam W base F)(hb:Below W.heap.size W W'):Fam W' base F:=⟨fun x hx=>own_kept (h.own x hx) hb,h.ap⟩
theorem Ap.kept{x z:Rw}(h:Ap z x):z.val.ownBlock=none∨z.val.ownBlock≠x.val.ownBlock:=by
 rcases h with h|h|h
 ·exact .inl h
 ·cases hz:z.val.ownBlock with
  |none=>exact .inl rfl
  |some g=>exact .inr (by rw[h];simp)
 ·exact .inr h
theorem Fam.grow{W W2:World}{base:Nat}{a b:List Rw}{x y:Rw}(h:Fam W base (a++x::b))(hg:W.grownBy W2 x.val.ownBlock)(hy:y.own W2 base)(hm:y.val.ownBlock=x.val.ownBlock∨∃g,y.val.ownBlock=some g∧W.heap.size≤g):Fam W2 base (a++y::b):=by
 obtain⟨p1,p2,p3⟩:=List.pairwise_append.1 h.ap;obtain⟨p4,p5⟩:=List.pairwise_cons.1 p2;have hzx:∀z,z∈a∨z∈b→Ap z x:=fun z hz=>by
  rcases hz with hz|hz
  ·exact p3 z hz x (List.mem_cons_self ..)
  ·exact(p4 z hz).symm
 have hzy:∀z,z∈a∨z∈b→Ap z y:=fun z hz=>by
  have hown:z.own W base:=h.own z (by
   rcases hz with hz|hz
   ·exact List.mem_append_left _ hz
   ·exact List.mem_append_right _ (List.mem_cons_of_mem _ hz))
  rcases hm with hm|⟨g,hm,hgs⟩
  ·have:=hzx z hz;unfold Ap at this⊢;rw[hm];exact this
  ·cases hzb:z.val.ownBlock with
   |none=>exact .inl hzb
   |
    some k=>
    refine .inr (.inr ?_);rw[hzb,hm];intro e
    injection e with e
    have:=(World.ownsRow.lt hown k hzb).2;omega
 refine⟨fun z hz=>?_,List.pairwise_append.2 ⟨p1,List.pairwise_cons.2 ⟨fun z hz=>(hzy z (.inr hz)).symm,p5⟩,fun z hz u hu=>?_⟩⟩
 ·have keep:∀z,z∈a∨z∈b→z.own W2 base:=fun z hz=>by
   have hown:z.own W base:=h.own z (by
    rcases hz with hz|hz
    ·exact List.mem_append_left _ hz
    ·exact List.mem_append_right _ (List.mem_cons_of_mem _ hz))
   exact World.ownsRow.kept hown hg (hzx z hz).kept
  rcases List.mem_append.1 hz with hz|hz
  ·exact keep z (.inl hz)
  ·rcases List.mem_cons.1 hz with rfl|hz
   ·exact hy
   ·exact keep z (.inr hz)
 ·rcases List.mem_cons.1 hu with rfl|hu
  ·exact hzy z (.inl hz)
  ·exact p3 z hz u (List.mem_cons_of_mem _ hu)
theorem split_at{α:Type}{F:List α}{t:Nat}{x:α}(h:F[t]? =some x):F=F.take t++x::F.drop (t+1):=by
 obtain⟨h1,h2⟩:=List.getElem?_eq_some_iff.1 h;rw[←h2,←List.drop_eq_getElem_cons h1,List.take_append_drop]
theorem set_split{α:Type}{F:List α}{t:Nat}{x y:α}(h:F[t]? =some x):F.set t y=F.take t++y::F.drop (t+1):=by
 obtain⟨h1,_⟩:=List.getElem?_eq_some_iff.1 h;exact List.set_eq_take_append_cons_drop.trans (if_pos h1)
theorem Fam.set{W W2:World}{base:Nat}{F:List Rw}{t:Nat}{x y:Rw}(h:Fam W base F)(ht:F[t]? =some x)(hg:W.grownBy W2 x.val.ownBlock)(hy:y.own W2 base)(hm:y.val.ownBlock=x.val.ownBlock∨∃g,y.val.ownBlock=some g∧W.heap.size≤g):Fam W2 base (F.set t y):=by
 rw[set_split ht];rw[split_at ht]at h;exact h.grow hg hy hm
theorem Fam.other{W:World}{base g j:Nat}{F:List Rw}{u:Value}{cs:Array Value}{t:TypeId}{f:Nat×Nat}(h:Fam W base F)(hb:W.heap[g]? =some (.cells cs t f))(ht:t≠3):Fam (W.setCell ⟨g,j,none⟩ u) base F:=by
 refine⟨fun x hx=>World.ownsRow.kept (h.own x hx) (set_grown _ _ _) ?_,h.ap⟩;rcases(h.own x hx).2 with⟨hv,_⟩|⟨k,cap,cur,hv,_,hg,_⟩
 ·rw[hv];exact .inl rfl
 ·rw[hv];refine .inr fun e=>?_
  simp only[Value.ownBlock,Option.some.injEq]at e;subst e;rw[hg]at hb;injection hb with hb
  injection hb with _ hb _
  exact ht hb.symm
theorem own_cut{W:World}{base e s n k c:Nat}{A:Option Addr}{xs:List Value}(h:W.ownsRow base e s (.slice A n c) n xs)(hk:k≤n)(hn:A≠none):W.ownsRow base e s (.slice A k c) k (xs.take (k*s)):=by
 refine⟨by rw[List.length_take,h.1,Nat.min_eq_left (Nat.mul_le_mul_right _ hk)],?_⟩;rcases h.2 with⟨hv,_⟩|⟨g,cap,cur,hv,hb,hg,h1,h2,h3,h4⟩
 ·injection hv with hv _ _
  exact absurd hv hn
 ·injection hv with hv1 _ hv3
  subst hv1 hv3;refine .inr ⟨g,c,cur,rfl,hb,hg,Nat.le_trans hk h1,h2,h3,?_⟩;rw[←h4,List.take_take,Nat.min_eq_left (Nat.mul_le_mul_right _ hk)]
end
section
open Go.RowKit Go.Maps
def idx:List (List UInt8)→List UInt8→Option Nat
 |[],_=>none
 |x::r,s=>if x=s then some 0 else(idx r s).map (· +1)
theorem idx_snoc(ss:List (List UInt8))(x s:List UInt8):idx (ss++[x]) s=match idx ss s with
  |some i=>some i
  |none=>if x=s then some ss.length else none:=by
 induction ss with
 |nil=>simp[idx]
 |
  cons y r ih=>
  rw[List.cons_append,idx,idx,ih];by_cases h:y=s
  ·simp[h]
  ·simp only[h,if_false];cases idx r s with
   |some i=>rfl
   |
    none=>
    by_cases h2:x=s
    ·simp[h2]
    ·simp[h2]
theorem idx_lt{ss:List (List UInt8)}{s:List UInt8}{i:Nat}(h:idx ss s=some i):i<ss.length∧ss[i]? =some s:=by
 induction ss generalizing i with
 |nil=>cases h
 |
  cons y r ih=>
  rw[idx]at h;split at h
  ·rename_i e
   injection h with h
   subst h;simp[e]
  ·obtain⟨j,hj,rfl⟩:=Option.map_eq_some_iff.1 h;have:=ih hj;simp only[List.length_cons,List.getElem?_cons_succ];exact⟨by omega,this.2⟩
theorem idx_none{ss:List (List UInt8)}{s:List UInt8}(h:idx ss s=none):s∉ss:=by
 induction ss with
 |nil=>simp
 |
  cons y r ih=>
  rw[idx]at h;split at h
  ·cases h
  ·rename_i hne
   intro hm
   rcases List.mem_cons.1 hm with e|hm
   ·exact hne e.symm
   ·exact ih (by simpa using h) hm
theorem lawS:Keyed Tryz.prog 9:=string_keyed Tryz.underlying9
def intOfD{H:Type}:DataW H→Int
 | .lit (.int _ n)=>n
 |_=>0
def numD{H:Type}(N:DataW H)(s:List UInt8):Int:=intOfD (N.atKey (.string s) (.lit (.int .i64 0)))
theorem zeroI(w:World):(zeroValue 3).run Tryz.prog w=.ok (.int .i64 0) w:=by kernel_rfl
abbrev siMap{H:Type}(w:World)(b n:Nat)(N:DataW H):Prop:=w.ownsMap Tryz.prog 9 (plainElem Tryz.prog 3) b n N
theorem look_si{H:Type}{w:World}{b n:Nat}{N:DataW H}(h:siMap w b n N)(s:List UInt8)(hs:s.length≤maxLen):
  (Instr.lookup 66 (.map (some b)) (.string ⟨s.toArray⟩) true).run Tryz.prog w=.ok (.tuple #[.int .i64 (numD N s),.bool (Maps.has N (.string s))]) w:=by
 obtain⟨S,hS⟩:∃S:ByteArray,⟨s.toArray⟩=S:=⟨_,rfl⟩;have hz:S.size≤maxLen:=by rw[←hS,size_mk];exact hs
 have hd:S.data.toList=s:=by rw[←hS]
 rw[hS];obtain⟨v,ps,hrun,hR⟩:=h.look_ok lawS Tryz.underlying66 (zeroI w) (plainElem_int Tryz.underlying3 (a:=0) (by decide)) (Go.WideMaps.keyOf_string_mk Tryz.underlying9 hz);obtain⟨c,rfl,hc,hw⟩:=plainElem_int_inv Tryz.underlying3 hR;injection hc with hc _
 rw[hd]at hrun hc;have e:numD N s=c:=by
  unfold numD;rw[hc];rfl
 rw[e];exact hrun
theorem look_si1{H:Type}{w:World}{b n:Nat}{N:DataW H}(h:siMap w b n N)(s:List UInt8)(hs:s.length≤maxLen):
  (Instr.lookup 66 (.map (some b)) (.string ⟨s.toArray⟩) false).run Tryz.prog w=.ok (.int .i64 (numD N s)) w:=by
 obtain⟨S,hS⟩:∃S:ByteArray,⟨s.toArray⟩=S:=⟨_,rfl⟩;have hz:S.size≤maxLen:=by rw[←hS,size_mk];exact hs
 have hd:S.data.toList=s:=by rw[←hS]
 rw[hS];obtain⟨c,hrun,hc,_⟩:=h.lookup_int lawS Tryz.underlying66 Tryz.underlying3 (zeroI w) (Go.WideMaps.keyOf_string_mk Tryz.underlying9 hz);rw[hd]at hc;have e:numD N s=c:=by
  unfold numD;rw[hc];rfl
 rw[e];exact hrun
theorem len_si{H:Type}{w:World}{b n:Nat}{N:DataW H}(h:siMap w b n N):(Builtin.len_ #[66] 3 #[.map (some b)]).run Tryz.prog w=.ok (.int .i64 (Maps.size N)) w:=h.len Tryz.underlying66 3
def Known(N:DataW Unit)(ss:List (List UInt8)):Prop:=IsMap N∧∀s,match idx ss s with
 |some i=>Maps.has N (.string s)=true∧numD N s=i
 |none=>Maps.has N (.string s)=false
theorem known_nil:Known (.map []) []:=⟨⟨[],rfl⟩,fun _=>rfl⟩
theorem Known.snoc{N:DataW Unit}{ss:List (List UInt8)}(h:Known N ss){x:List UInt8}(hx:idx ss x=none):Known (N.put (.string x) (.lit (.int .i64 (ss.length:Nat)))) (ss++[x]):=by
 refine⟨h.1.put _ _,fun s=>?_⟩;have hs:=h.2 s;rw[idx_snoc];by_cases e:x=s
 ·subst e;rw[hx];simp only[if_true];refine⟨has_put_same h.1 (by simp[Go.WideAt.IsKeyLit]) _,?_⟩;unfold numD;rw[atKey_put_same h.1 (by simp[Go.WideAt.IsKeyLit])];rfl
 ·have hne:(Lit.string s)≠Lit.string x:=by simpa using fun h=>e h.symm
  have hn:numD (N.put (.string x) (.lit (.int .i64 (ss.length:Nat)))) s=numD N s:=by
   unfold numD;rw[atKey_put_other hne]
  cases hi:idx ss s with
  |
   some i=>
   rw[hi]at hs;exact⟨(has_put_other hne _).trans hs.1,hn.trans hs.2⟩
  |
   none=>
   rw[hi]at hs;simp only[e,if_false];exact(has_put_other hne _).trans hs
theorem row_not_map{H:Type}{W:World}{b e s n kb m:Nat}{x:Value}{xs:List Value}{N:DataW H}(h:W.ownsRow b e s x n xs)(hm:siMap W kb m N):x.ownBlock=none∨x.ownBlock≠some kb:=by
 rcases h.2 with⟨rfl,_⟩|⟨g,cap,cur,rfl,_,hg,_⟩
 ·exact .inl rfl
 ·refine .inr fun e=>?_
  simp only[Value.ownBlock,Option.some.injEq]at e;subst e;obtain⟨es,clock,hb,_⟩:=hm;rw[hg]at hb;cases hb
theorem row_not_cells{W:World}{b e s n k t:Nat}{x:Value}{xs:List Value}{cs:Array Value}{f:Nat×Nat}(h:W.ownsRow b e s x n xs)(hk:W.heap[k]? =some (.cells cs t f))(he:t≠e):x.ownBlock=none∨x.ownBlock≠some k:=by
 rcases h.2 with⟨rfl,_⟩|⟨g,cap,cur,rfl,_,hg,_⟩
 ·exact .inl rfl
 ·refine .inr fun e'=>?_
  simp only[Value.ownBlock,Option.some.injEq]at e';subst e';rw[hg]at hk;injection hk with hk
  injection hk with _ hk _
  exact he hk.symm
theorem grown_below{W W':World}(h:Below W.heap.size W W'):W.grownBy W' none:=⟨h.os,h.tape,h.output,h.size,fun k hk _=>h.block k hk⟩
theorem map_keep{w w':World}{b n:Nat}{N:DataW Unit}(h:siMap w b n N)(hb:Below w.heap.size w w'):siMap w' b n N:=h.kept (grown_below hb) (by simp)
def KnownN(N:DataW Unit)(ss:List (List UInt8)):Prop:=Known N ss∧Maps.size N=ss.length
theorem knownN_nil:KnownN (.map []) []:=⟨known_nil,rfl⟩
theorem KnownN.snoc{N:DataW Unit}{ss:List (List UInt8)}(h:KnownN N ss)(ht:Tidy N){x:List UInt8}(hx:idx ss x=none):KnownN (N.put (.string x) (.lit (.int .i64 (ss.length:Nat)))) (ss++[x]):=by
 refine⟨h.1.snoc hx,?_⟩;have hh:=h.1.2 x;rw[hx]at hh;rw[size_put ht,hh,if_neg (by simp),h.2,List.length_append,List.length_singleton]
end
section
open Go.RowKit
theorem el_int:Elem Tryz.prog 71 3 1 8:=Elem.mk_ Tryz.underlying71 (z:=.int .i64 0) (by kernel_rfl) rfl (by omega)
theorem blk_kept{W W':World}{b e s n k t:Nat}{v:Value}{xs:List Value}{cs:Array Value}{f:Nat×Nat}(ho:W.ownsRow b e s v n xs)(hg:W.grownBy W' v.ownBlock)(hk:W.heap[k]? =some (.cells cs t f))(he:t≠e):W'.heap[k]? =some (.cells cs t f):=by
 refine(hg.block k (Array.getElem?_eq_some_iff.1 hk).1 fun e'=>?_).trans hk;rcases row_not_cells ho hk he with h|h
 ·rw[h]at e';cases e'
 ·exact h e'.symm
theorem blk_other{W:World}{k b j:Nat}{o:Obj}{u:Value}(hk:W.heap[k]? =some o)(h:k≠b):(W.setCell ⟨b,j,none⟩ u).heap[k]? =some o:=(Below.heap_setCell _ _ _ k h).trans hk
theorem own_other{W:World}{b e s n g j t:Nat}{v u:Value}{xs:List Value}{cs:Array Value}{f:Nat×Nat}(ho:W.ownsRow b e s v n xs)(hk:W.heap[g]? =some (.cells cs t f))(he:t≠e):(W.setCell ⟨g,j,none⟩ u).ownsRow b e s v n xs:=
 ho.kept (set_grown _ _ _) (row_not_cells ho hk he)
structure AlR(w W:World)(n bk ob:Nat)(F:List Rw)(L:List Bool)(T:Rw):Prop where
 bel:Below w.heap.size w W
 len:F.length=n
 llen:L.length=n
 back:W.ownsRow w.heap.size 71 1 (.slice (some ⟨bk,0,none⟩) n n) n (F.map Rw.val)
 out:W.ownsRow w.heap.size 4 1 (.slice (some ⟨ob,0,none⟩) n n) n (L.map .bool)
 fam:Fam W w.heap.size (T::F)
section
variable {w W W':World}{n bk ob:Nat}{F:List Rw}{L:List Bool}{T:Rw}
theorem AlR.keep(h:AlR w W n bk ob F L T)(hb:Below W.heap.size W W'):AlR w W' n bk ob F L T:=
 ⟨bcall h.bel hb,h.len,h.llen,own_kept h.back hb,own_kept h.out hb,h.fam.below hb⟩
theorem own_blk{W:World}{b e s n g c:Nat}{xs:List Value}(h:W.ownsRow b e s (.slice (some ⟨g,0,none⟩) n c) n xs):b≤g∧g<W.heap.size∧∃cs,W.heap[g]? =some (.cells cs e (0,0)):=by
 rcases h.2 with⟨hv,_⟩|⟨g',cap,cur,hv,hb,hg,_⟩
 ·cases hv
 ·injection hv with hv _ _
  injection hv with hv
  injection hv with hv _ _
  subst hv;exact⟨hb,(Array.getElem?_eq_some_iff.1 hg).1,_,hg⟩
theorem own_cell{W:World}{b e n g c j:Nat}{u:Value}{xs:List Value}(h:W.ownsRow b e 1 (.slice (some ⟨g,0,none⟩) n c) n xs)(hu:xs[j]? =some u):W.cell? ⟨g,j,none⟩=some u:=by
 have:=h.cells (g:=g) rfl j u hu;rwa[Addr.add_lit,Nat.zero_add]at this
theorem own_free{W:World}{b e s n g c:Nat}{xs:List Value}(h:W.ownsRow b e s (.slice (some ⟨g,0,none⟩) n c) n xs)(j:Nat):W.frozen? ⟨g,j,none⟩=false:=by
 obtain⟨_,_,cs,hg⟩:=own_blk h;exact free_at hg j
theorem AlR.backAt(h:AlR w W n bk ob F L T){t:Nat}{f:Rw}(hf:F[t]? =some f):W.cell? ⟨bk,t,none⟩=some f.val:=own_cell h.back (by rw[List.getElem?_map,hf];rfl)
theorem AlR.outAt(h:AlR w W n bk ob F L T){t:Nat}{b:Bool}(hf:L[t]? =some b):W.cell? ⟨ob,t,none⟩=some (.bool b):=own_cell h.out (by rw[List.getElem?_map,hf];rfl)
theorem AlR.frow(h:AlR w W n bk ob F L T){t:Nat}{f:Rw}(hf:F[t]? =some f):f.own W w.heap.size:=h.fam.own f (List.mem_cons_of_mem _ (List.mem_of_getElem? hf))
theorem AlR.todo(h:AlR w W n bk ob F L T):T.own W w.heap.size:=h.fam.own T (List.mem_cons_self ..)
theorem AlR.growB(h:AlR w W n bk ob F L T){t:Nat}{f y:Rw}(hf:F[t]? =some f)(hg:W.grownBy W' f.val.ownBlock)(hy:y.own W' w.heap.size)(hm:y.val.ownBlock=f.val.ownBlock∨∃g,y.val.ownBlock=some g∧W.heap.size≤g):
  AlR w (W'.setCell ⟨bk,t,none⟩ y.val) n bk ob (F.set t y) L T∧W'.cell? ⟨bk,t,none⟩=some f.val∧W'.frozen? ⟨bk,t,none⟩=false∧bk<W'.heap.size∧
   ∀(k:Nat) (cs:Array Value) (e:TypeId) (z:Nat×Nat),e≠3→e≠71→W.heap[k]? =some (.cells cs e z)→W'.heap[k]? =some (.cells cs e z)∧(W'.setCell ⟨bk,t,none⟩ y.val).heap[k]? =some (.cells cs e z):=by
 have hr:=h.frow hf;have hb':W'.ownsRow w.heap.size 71 1 (.slice (some ⟨bk,0,none⟩) n n) n (F.map Rw.val):=h.back.kept hg (own_types hr h.back (by decide));have ho':W'.ownsRow w.heap.size 4 1 (.slice (some ⟨ob,0,none⟩) n n) n (L.map .bool):=h.out.kept hg (own_types hr h.out (by decide));obtain⟨q1,q2,cs,q3⟩:=own_blk hb';have hfam:Fam W' w.heap.size ((T::F).set (t+1) y):=h.fam.set (by simpa using hf) hg hy hm;have hset:(F.set t y).map Rw.val=(F.map Rw.val).set t y.val:=by rw[List.map_set]
 have hlt:∀q,f.val.ownBlock=some q→w.heap.size≤q:=fun q hq=>(hr.lt q hq).1
 refine⟨⟨?_,by rw[List.length_set];exact h.len,h.llen,?_,own_other ho' q3 (by decide),hfam.other q3 (by decide)⟩,?_,free_at q3 _,q2,fun k cs' e z he1 he2 hk=>?_⟩
 ·exact below_set (h.bel.grown hg h.bel.size hlt) q1 (Nat.le_refl _)
 ·rw[hset];exact own_put hb'
 ·exact own_cell hb' (by rw[List.getElem?_map,hf];rfl)
 ·have hk':=blk_kept hr hg hk he1;refine⟨hk',blk_other hk' fun e'=>?_⟩;subst e';rw[q3]at hk';injection hk' with hk'
  injection hk' with _ hk' _
  exact he2 hk'.symm
theorem AlR.growT(h:AlR w W n bk ob F L T){y:Rw}(hg:W.grownBy W' T.val.ownBlock)(hy:y.own W' w.heap.size)(hm:y.val.ownBlock=T.val.ownBlock∨∃g,y.val.ownBlock=some g∧W.heap.size≤g):
  AlR w W' n bk ob F L y∧∀(k:Nat) (cs:Array Value) (e:TypeId) (z:Nat×Nat),e≠3→W.heap[k]? =some (.cells cs e z)→W'.heap[k]? =some (.cells cs e z):=by
 have hr:=h.todo;have hlt:∀q,T.val.ownBlock=some q→w.heap.size≤q:=fun q hq=>(hr.lt q hq).1
 exact⟨⟨h.bel.grown hg h.bel.size hlt,h.len,h.llen,h.back.kept hg (own_types hr h.back (by decide)),h.out.kept hg (own_types hr h.out (by decide)),h.fam.set (t:=0) rfl hg hy hm⟩,fun k cs e z he hk=>blk_kept hr hg hk he⟩
theorem AlR.setO(h:AlR w W n bk ob F L T){t:Nat}:
  AlR w (W.setCell ⟨ob,t,none⟩ (.bool true)) n bk ob F (L.set t true) T∧W.frozen? ⟨ob,t,none⟩=false∧ob<W.heap.size∧
   ∀(k:Nat) (cs:Array Value) (e:TypeId) (z:Nat×Nat),e≠4→W.heap[k]? =some (.cells cs e z)→(W.setCell ⟨ob,t,none⟩ (.bool true)).heap[k]? =some (.cells cs e z):=by
 obtain⟨q1,q2,cs,q3⟩:=own_blk h.out;refine⟨⟨below_set h.bel q1 (Nat.le_refl _),h.len,by rw[List.length_set];exact h.llen,own_other h.back q3 (by decide),?_,h.fam.other q3 (by decide)⟩,free_at q3 _,q2,fun k cs' e z he hk=>blk_other hk fun e'=>?_⟩
 ·rw[List.map_set];exact own_put h.out
 ·subst e';rw[q3]at hk;injection hk with hk
  injection hk with _ hk _
  exact he hk.symm
theorem AlR.cutT(h:AlR w W n bk ob F L T){A:Option Addr}{c:Nat}{l:List Int}{x:Int}(hT:T=⟨A,c,l++[x]⟩):AlR w W n bk ob F L ⟨A,c,l⟩:=by
 subst hT;have hr:=h.todo;refine⟨h.bel,h.len,h.llen,h.back,h.out,⟨fun z hz=>?_,?_⟩⟩
 ·rcases List.mem_cons.1 hz with rfl|hz
  ·have hr':W.ownsRow w.heap.size 3 1 (.slice A (l++[x]).length c) (l++[x]).length ((l++[x]).map (.int .i64)):=hr;have:=own_cut (k:=l.length) hr' (by simp) (fun e=>by
    rcases hr'.2 with⟨_,h0⟩|⟨g,_,_,hv,_⟩
    ·simp at h0
    ·injection hv with hv _ _
     rw[e]at hv;cases hv)
   rw[Nat.mul_one,List.map_append,List.take_left' (by simp)]at this;exact this
  ·exact h.fam.own z (List.mem_cons_of_mem _ hz)
 ·obtain⟨h1,h2⟩:=List.pairwise_cons.1 h.fam.ap;refine List.pairwise_cons.2 ⟨fun z hz=>?_,h2⟩;have hv:(Rw.val ⟨A,c,l⟩).ownBlock=(Rw.val ⟨A,c,l++[x]⟩).ownBlock:=by
   cases A<;>rfl
  have:=h1 z hz;unfold Ap at this⊢;rw[hv];exact this
end
theorem AlR.start(w:World)(n:Nat)(hn:n≤1000000){W:World}(hW:W=((w.alloc (.cells (madeCells #[.slice none 0 0] n) 71)).alloc (.cells #[] 3)).alloc (.cells (madeCells #[.bool false] n) 4)):
  AlR w W n w.heap.size (w.heap.size+1+1) (List.replicate n ⟨none,0,[]⟩) (List.replicate n false) ⟨some ⟨w.heap.size+1,0,none⟩,0,[]⟩:=by
 subst hW;have b0:=bnew (brefl w) (.cells (madeCells #[.slice none 0 0] n) 71);have b1:=bnew b0 (.cells #[] 3);have b2:=bnew b1 (.cells (madeCells #[.bool false] n) 4);have o0:=own_made w (.slice none 0 0) n (by omega) 71 rfl (Nat.le_refl _);have o1:=own_kept (own_kept o0 (bnew (brefl _) (.cells #[] 3))) (bnew (brefl _) (.cells (madeCells #[.bool false] n) 4));refine⟨b2,by simp,by simp,?_,?_,⟨fun x hx=>?_,List.pairwise_cons.2 ⟨fun x hx=>?_,?_⟩⟩⟩
 ·have e:(List.replicate n (⟨none,0,[]⟩:Rw)).map Rw.val=List.replicate n (.slice none 0 0):=by rw[List.map_replicate];rfl
  rw[e];exact o1
 ·rw[List.map_replicate];exact own_made _ (.bool false) n (by omega) 4 (by simp) b1.size
 ·rcases List.mem_cons.1 hx with rfl|hx
  ·have h2:(w.alloc (.cells (madeCells #[.slice none 0 0] n) 71)).alloc (.cells #[] 3)|>.ownsRow w.heap.size 3 1 (.slice (some ⟨w.heap.size+1,0,none⟩) 0 0) 0 []:=own_lit _ 3 1 (by simp) b0.size
   exact own_kept h2 (bnew (brefl _) _)
  ·rw[(List.mem_replicate.1 hx).2];exact⟨rfl,.inl ⟨rfl,rfl⟩⟩
 ·rw[(List.mem_replicate.1 hx).2];exact .inr (.inl rfl)
 ·rw[List.pairwise_replicate];exact .inr (.inl rfl)
end
section
open Go.RowKit
structure Ash where
 A:Option Addr
 c:Nat
 l:List Arc3
def Ash.val(x:Ash):Value:=.slice x.A x.l.length x.c
structure ListsIn(w:World)(B:Nat)(A:Option Addr)(n:Nat)(Ls:List Ash):Prop where
 len:Ls.length=n
 sl:Sl w w.heap.size 1 A n (Ls.map Ash.val)
 ar:∀x∈Ls,ArcsIn w B x.A x.l.length x.c x.l∧x.l.length≤2097152∧x.l.length≤x.c
 nb:n≤20000
theorem ListsIn.keep{w w':World}{B n:Nat}{A:Option Addr}{Ls:List Ash}(h:ListsIn w B A n Ls)(hb:Below w.heap.size w w')(hB:B≤w.heap.size):ListsIn w' B A n Ls:=
 ⟨h.len,(h.sl.below hb).more hb.size,fun x hx=>⟨(h.ar x hx).1.keep (hb.mono hB) (Nat.le_refl _),(h.ar x hx).2⟩,h.nb⟩
theorem ListsIn.at_{w:World}{B n:Nat}{A:Option Addr}{Ls:List Ash}(h:ListsIn w B A n Ls)(hn:0<n):∃b off,A=some ⟨b,off,none⟩∧b<w.heap.size∧∀k x,Ls[k]? =some x→w.cell? ⟨b,off+k,none⟩=some x.val:=by
 obtain⟨b,off,hA,hb,hc⟩:=h.sl.at_ hn;exact⟨b,off,hA,hb,fun k x hx=>hc k _ (by rw[List.getElem?_map,hx];rfl)⟩
def cutA(a:Arc3):List Int:=[a.1,a.2.1+1]
def cutL(Ls:List Ash):List Int:=[0,256]++(Ls.flatMap (·.l)).flatMap cutA
theorem cuts_any(w:World)(B:Nat)(hB:B≤w.heap.size)(A:Option Addr)(n c:Nat)(Ls:List Ash)(h:ListsIn w B A n Ls)(hok:∀x∈Ls,∀a∈x.l,0≤a.1∧a.1≤a.2.1∧a.2.1≤255):
  Calls Tryz.prog 79 #[.slice A n c] w fun e w'=>∃(A':Option Addr) (q c':Nat),e=.returned (.slice A' q c')∧w'.ownsRow w.heap.size 3 1 (.slice A' q c') q ((Lib.compact (sorted (cutL Ls))).map (.int .i64))∧Below w.heap.size w w':=by
 have HS:=Lib.hid h;have HOK:=Lib.hid hok;have hlen:=h.len;have hnb:=h.nb;clear h hok;go_enter Tryz.func79,Tryz.ntmps79
 go_wp2_with fail;have HO0:Hid ((w.alloc (.cells #[.int .i64 0,.int .i64 256] 3)).ownsRow w.heap.size 3 1 (.slice (some ⟨w.heap.size,0,none⟩) 2 2) 2 (([0,256]:List Int).map (.int .i64))):=own_new w #[.int .i64 0,.int .i64 256] 3 1 2 rfl (by unfold maxLen;omega) rfl (Nat.le_refl _);have HB0:=Lib.hid (bnew (brefl w) (.cells #[.int .i64 0,.int .i64 256] 3));go_loopw [3,11] (fun ov iv wr=>∃(i q co:Nat) (Ao:Option Addr) (O:List Int),iv=.int .i64 i∧ov=.slice Ao q co∧i≤n∧q≤2+4194304*i∧Hid (O=[0,256]++((Ls.take i).flatMap (·.l)).flatMap cutA)∧Hid (wr.ownsRow w.heap.size 3 1 (.slice Ao q co) q (O.map (.int .i64)))∧Hid (Below w.heap.size w wr)) (fun _ iv _=>n-(intOf iv).toNat)
 case atStart=>exact⟨0,2,2,_,[0,256],rfl,rfl,Nat.zero_le _,by omega,rfl,HO0,HB0⟩
 case round=>
  clear HO0 HB0;obtain⟨i,q,co,Ao,O,rfl,rfl,hin,hqb,HO,HR,HB⟩:=hrel;by_cases hlt:i<n
  ·have HW:=Lib.hid (HS.out.keep HB.out hB);obtain⟨x,hx⟩:∃x,Ls[i]? =some x:=⟨Ls[i]'(by omega),List.getElem?_eq_getElem _⟩;obtain⟨lb,loff,rfl,hlb,hlc⟩:=HW.out.at_ (by omega);obtain⟨m,hm⟩:∃m,x.l.length=m:=⟨_,rfl⟩;have hxm:=List.mem_of_getElem? hx;have l0:wr.cell? ⟨lb,loff+i,none⟩=some (.slice x.A m x.c):=by rw[←hm];exact hlc i x hx
   have hm20:=(HS.out.ar x hxm).2;rw[hm]at hm20;obtain⟨hm20,hmc⟩:=hm20;have HM:=Lib.hid hm;have HXM:=Lib.hid hxm;have HTK:Hid ((Ls.take (i+1)).flatMap (·.l)=(Ls.take i).flatMap (·.l)++x.l):=by show _=_;rw[List.take_add_one,hx,List.flatMap_append];simp
   clear hx hlc hxm hm;go_wp2_with fail;go_loopw [3,17] (fun ov jv wj=>∃(j q co:Nat) (Ao:Option Addr) (O:List Int),jv=.int .i64 j∧ov=.slice Ao q co∧j≤m∧q≤2+4194304*i+2*j∧Hid (O=[0,256]++((Ls.take i).flatMap (·.l)++x.l.take j).flatMap cutA)∧Hid (wj.ownsRow w.heap.size 3 1 (.slice Ao q co) q (O.map (.int .i64)))∧Hid (Below w.heap.size w wj)) (fun _ jv _=>m-(intOf jv).toNat)
   case atStart=>exact⟨0,q,co,Ao,O,rfl,rfl,Nat.zero_le _,by omega,by rw[List.take_zero,List.append_nil];exact HO,HR,HB⟩
   case round=>
    clear HO HR HB HW l0;obtain⟨j,q,co,Ao,O,rfl,rfl,hjm,hqb,HO,HR,HB⟩:=hrel;by_cases hjl:j<m
    ·have HWJ:=(HS.out.keep HB.out hB);obtain⟨a,ha⟩:∃a,x.l[j]? =some a:=⟨x.l[j]'(by rw[HM.out];exact hjl),List.getElem?_eq_getElem _⟩;obtain⟨ab,aoff,hxA,hab,hac⟩:=(HWJ.ar x HXM.out).1.at_ (by rw[HM.out];omega);obtain⟨a0,a1,a2⟩:=hac j a ha;have habw:ab<wr.heap.size:=Nat.lt_of_lt_of_le hab (Nat.le_trans hB HB.out.size);have haok:=HOK.out x HXM.out a (List.mem_of_getElem? ha);have HTJ:Hid (x.l.take (j+1)=x.l.take j++[a]):=by show _=_;rw[List.take_add_one,ha];rfl
     rw[hxA];obtain⟨lo,hi,tt⟩:=a;simp only at a0 a1 a2 haok;have q1:IntKind.i64.wrap (hi+1)=hi+1:=IntWalk.i64_in _ (by omega);have HR1:=Lib.hid (own_kept HR.out (bnew (brefl wr) (.cells #[.int .i64 lo,.int .i64 hi,.int .i64 tt] 76)));have HB1:=Lib.hid (bnew HB.out (.cells #[.int .i64 lo,.int .i64 hi,.int .i64 tt] 76));have hbs1:=HB1.out.size;clear hac ha HWJ;go_wp2_with (at_builtin;refine wpList_pushm w (wr.alloc (.cells #[.int .i64 lo,.int .i64 hi,.int .i64 tt] 76)) _ rfl _ _ _ rfl el_int _ _ _ rfl HR1.out (m:=2) rfl (by simp) rfl (by simp[Value.oneCell']) (by unfold maxLen;omega) (by omega) hbs1 HB1.out ?_;intro v9 w9 hown9 hb9 _ _;obtain⟨A9,c9,rfl,_⟩:=own_shape hown9;have HO9:=Lib.hid hown9;have HB9:=Lib.hid hb9;clear hown9 hb9)
     have HON:Hid (O++[lo,hi+1]=[0,256]++((Ls.take i).flatMap (·.l)++x.l.take (j+1)).flatMap cutA):=by
      show _=_;rw[HTJ.out,HO.out,←List.append_assoc,List.flatMap_append,List.flatMap_append,List.flatMap_append];simp[cutA]
     have HR9:Hid (w9.ownsRow w.heap.size 3 1 (.slice A9 (q+2) c9) (q+2) ((O++[lo,hi+1]).map (.int .i64))):=by
      rw[List.map_append];exact HO9.out
     clear HO9 HR HR1 HO;go_wp2_with fail;go_roundw;case rel=>exact⟨j+1,q+2,c9,A9,O++[lo,hi+1],by go_num,rfl,by omega,by omega,HON,HR9,HB9⟩
     case measure=>simp[intOf];omega
    ·obtain rfl:m=j:=by omega
     have HON:Hid (O=[0,256]++((Ls.take (i+1)).flatMap (·.l)).flatMap cutA):=by
      have h1:=HO.out;have htk:x.l.take m=x.l:=List.take_of_length_le (by rw[HM.out];exact Nat.le_refl _);rw[htk]at h1;show _=_;rw[HTK.out];exact h1
     clear HO;go_wp2_with fail;go_roundw;case rel=>exact⟨i+1,q,co,Ao,O,by go_num,rfl,by omega,by omega,HON,HR,HB⟩
     case measure=>simp[intOf];omega
  ·obtain rfl:n=i:=by omega
   have HOE:Hid (O=cutL Ls):=by
    have h1:=HO.out;rw[List.take_of_length_le (by omega)]at h1;exact h1
   have hq0:0<q:=by
    have h1:=HR.out.1;rw[List.length_map,HOE.out,cutL,List.length_append]at h1;simp at h1
    omega
   have HBS:=Lib.hid HB.out.size;clear HO;go_wp2_with fail;refine(sort_own HR.out (by omega)).mono ?_;rintro e w7 ⟨rfl,hown7,hg7⟩;have HO7:=Lib.hid hown7;have HB7:=Lib.hid (HB.out.grown hg7 HB.out.size (fun r hr=>(HR.out.lt r hr).1));clear hown7 hg7 HR;go_wp2_with fail;refine(compact_own HO7.out (by omega) hq0).mono ?_;rintro e w8 ⟨rfl,hown8,hg8⟩;have HO8:=Lib.hid hown8;have HB8:=Lib.hid (HB7.out.grown hg8 HB7.out.size (fun r hr=>(HO7.out.lt r hr).1));clear hown8 hg8 HO7;have HLE:=Lib.hid HOE.out;go_wp2_with fail;go_ret;exact⟨_,_,_,rfl,by rw[←HLE.out];exact HO8.out,HB8.out⟩
end
section
open Go.RowKit
def arcsAt(l:List Lst)(z:Int):List Arc3:=((l[z.toNat]?).map (·.arcs)).getD []
def finAt(l:List Lst)(z:Int):Bool:=((l[z.toNat]?).map (·.fin)).getD false
def overP(l:List Lst)(S:List Int)(c:Nat)(x:Nat):Prop:=∃z∈S,∃a∈arcsAt l z,a.1≤(c:Int)∧(c:Int)≤a.2.1∧a.2.2=(x:Int)
open Classical in
noncomputable def stepS(l:List Lst)(S:List Int)(c:Nat):Option (List Int):=if∃x,overP l S c x then some (setL l.length (Clo l (overP l S c)))else none
def finS(l:List Lst)(S:List Int):Bool:=S.any (finAt l)
noncomputable def subW(l:List Lst):Bfs (List Int):=⟨stepS l,fun z y=>decide (z=y),id⟩
theorem subW_plain(l:List Lst):Plain (subW l):=⟨fun _ _=>rfl,fun _=>rfl⟩
theorem stepS_congr{l:List Lst}{S:List Int}{c c':Nat}(h:∀x,overP l S c x↔overP l S c' x):stepS l S c=stepS l S c':=by
 have e:overP l S c=overP l S c':=funext fun x=>propext (h x)
 unfold stepS;rw[e]
theorem stepS_list{l:List Lst}{S:List Int}{c:Nat}{T:List Int}(hT:∀z,z∈T↔∃y∈S,∃a∈arcsAt l y,a.1≤(c:Int)∧(c:Int)≤a.2.1∧a.2.2=z)(hpos:∀z∈T,0≤z):
  stepS l S c=if T=[]then none else some (setL l.length (Clo l fun x=>((x:Nat):Int)∈T)):=by
 have e:overP l S c=fun x=>((x:Nat):Int)∈T:=funext fun x=>propext ((hT (x:Int)).symm)
 unfold stepS;rw[e];by_cases h:T=[]
 ·rw[if_pos h,if_neg];rintro⟨x,hx⟩;rw[h]at hx;cases hx
 ·rw[if_neg h,if_pos];obtain⟨z,hz⟩:=List.exists_mem_of_ne_nil _ h;refine⟨z.toNat,?_⟩;have:=hpos z hz;show((z.toNat:Nat):Int)∈T;rw[show((z.toNat:Nat):Int)=z by omega];exact hz
theorem lt_gap{L:List Int}(h:L.Pairwise fun x y=>x<y){k:Nat}{u v:Int}(hu:L[k]? =some u)(hv:L[k+1]? =some v){z:Int}(hz:z∈L):z≤u∨v≤z:=by
 obtain⟨j,hj⟩:=List.mem_iff_getElem?.1 hz;have hjl:=(List.getElem?_eq_some_iff.1 hj);have hkl:=(List.getElem?_eq_some_iff.1 hu);have hvl:=(List.getElem?_eq_some_iff.1 hv);rcases Nat.lt_trichotomy j k with h1|h1|h1
 ·have:=List.pairwise_iff_getElem.1 h j k hjl.1 hkl.1 h1;rw[hjl.2,hkl.2]at this;omega
 ·subst h1;rw[hu]at hj;injection hj with hj
  omega
 ·by_cases e:j=k+1
  ·subst e;rw[hv]at hj;injection hj with hj
   omega
  ·have:=List.pairwise_iff_getElem.1 h (k+1) j hvl.1 hjl.1 (by omega);rw[hjl.2,hvl.2]at this;omega
structure CutP(l:List Lst)(S:List Int)(C:List Int):Prop where
 lt:C.Pairwise fun x y=>x<y
 in_:∀x∈C,0≤x∧x≤256
 zero:C[0]? =some 0
 last:C[C.length-1]? =some 256
 two:2≤C.length
 arc:∀z∈S,∀a∈arcsAt l z,a.1∈C∧a.2.1+1∈C
theorem cut_first{C:List Int}(h:C.Pairwise fun x y=>x<y)(hin:∀x∈C,0≤x∧x≤256)(h0:(0:Int)∈C):C[0]? =some 0:=by
 cases C with
 |nil=>cases h0
 |
  cons x r=>
  rcases List.mem_cons.1 h0 with e|hr
  ·rw[←e];rfl
  ·have:=(List.pairwise_cons.1 h).1 0 hr;have:=hin x (List.mem_cons_self ..);omega
theorem cut_last{C:List Int}(h:C.Pairwise fun x y=>x<y)(hin:∀x∈C,0≤x∧x≤256)(h0:(256:Int)∈C):C[C.length-1]? =some 256:=by
 obtain⟨j,hj⟩:=List.mem_iff_getElem?.1 h0;obtain⟨h1,h2⟩:=List.getElem?_eq_some_iff.1 hj;by_cases e:j=C.length-1
 ·rw[←e];exact hj
 ·have h3:=List.pairwise_iff_getElem.1 h j (C.length-1) h1 (by omega) (by omega);have h4:=hin _ (List.getElem_mem (show C.length-1<C.length by omega));rw[h2]at h3;omega
theorem cutP_of{l:List Lst}{S:List Int}{Ls:List Ash}(hg:LGood l)(hLs:Ls.map (·.l)=S.map (arcsAt l)):CutP l S (Lib.compact (sorted (cutL Ls))):=by
 obtain⟨h1,h2⟩:=compact_sorted (sorted_le (cutL Ls));have hmem:∀x,x∈Lib.compact (sorted (cutL Ls))↔x∈cutL Ls:=fun x=>(h2 x).trans (sorted_mem _ x)
 have hcut:∀x,x∈cutL Ls↔x=0∨x=256∨∃z∈S,∃a∈arcsAt l z,x=a.1∨x=a.2.1+1:=fun x=>by
  unfold cutL;rw[List.mem_append,List.mem_flatMap];have e:Ls.flatMap (·.l)=(S.map (arcsAt l)).flatten:=by rw[←hLs,List.flatMap_def]
  rw[e];constructor
  ·rintro(h|⟨a,ha,hx⟩)
   ·simp at h
    rcases h with h|h
    ·exact .inl h
    ·exact .inr (.inl h)
   ·rw[List.mem_flatten]at ha;obtain⟨L,hL,haL⟩:=ha;obtain⟨z,hz,rfl⟩:=List.mem_map.1 hL;simp[cutA]at hx
    exact .inr (.inr ⟨z,hz,a,haL,hx⟩)
  ·rintro(h|h|⟨z,hz,a,ha,hx⟩)
   ·left;simp[h]
   ·left;simp[h]
   ·right
    refine⟨a,?_,by simpa[cutA]using hx⟩;rw[List.mem_flatten];exact⟨_,List.mem_map_of_mem hz,ha⟩
 have hok:∀z,∀a∈arcsAt l z,0≤a.1∧a.1≤a.2.1∧a.2.1≤255:=fun z a ha=>by
  unfold arcsAt at ha;cases hz:l[z.toNat]? with
  |none=>rw[hz]at ha;cases ha
  |
   some s=>
   rw[hz]at ha;have:=hg.arc s (List.mem_of_getElem? hz) a ha;exact⟨this.1,this.2.1,this.2.2.1⟩
 have hin:∀x∈Lib.compact (sorted (cutL Ls)),0≤x∧x≤256:=fun x hx=>by
  rcases(hcut x).1 ((hmem x).1 hx)with h|h|⟨z,_,a,ha,h⟩
  ·omega
  ·omega
  ·have:=hok z a ha;rcases h with h|h<;>omega
 have h0:(0:Int)∈Lib.compact (sorted (cutL Ls)):=(hmem 0).2 ((hcut 0).2 (.inl rfl));have h256:(256:Int)∈Lib.compact (sorted (cutL Ls)):=(hmem 256).2 ((hcut 256).2 (.inr (.inl rfl)));have hz:=cut_first h1 hin h0;have hl:=cut_last h1 hin h256;refine⟨h1,hin,hz,hl,?_,fun z hz a ha=>⟨(hmem _).2 ((hcut _).2 (.inr (.inr ⟨z,hz,a,ha,.inl rfl⟩))),(hmem _).2 ((hcut _).2 (.inr (.inr ⟨z,hz,a,ha,.inr rfl⟩)))⟩⟩;apply Classical.byContradiction
 intro hn
 have:(Lib.compact (sorted (cutL Ls))).length-1=0:=by omega
 rw[this,hz]at hl;injection hl with hl
 exact absurd hl (by decide)
theorem CutP.same{l:List Lst}{S C:List Int}(h:CutP l S C){k u v:Nat}(hu:C[k]? =some ((u:Nat):Int))(hv:C[k+1]? =some ((v:Nat):Int)){c:Nat}(h1:u≤c)(h2:c<v):stepS l S c=stepS l S u:=by
 refine stepS_congr fun x=>?_
 unfold overP;constructor
 ·rintro⟨z,hz,a,ha,a1,a2,a3⟩;obtain⟨b1,b2⟩:=h.arc z hz a ha;have c1:=lt_gap h.lt hu hv b1;have c2:=lt_gap h.lt hu hv b2;exact⟨z,hz,a,ha,by omega,by omega,a3⟩
 ·rintro⟨z,hz,a,ha,a1,a2,a3⟩;obtain⟨b1,b2⟩:=h.arc z hz a ha;have c1:=lt_gap h.lt hu hv b1;have c2:=lt_gap h.lt hu hv b2;exact⟨z,hz,a,ha,by omega,by omega,a3⟩
theorem run_head{σ:Type}(W:Bfs σ)(x0:σ):∀f,(W.run f 0 [x0])[0]? =some x0
 |0=>rfl
 |
  f+1=>by
  have ih:=run_head W x0 f;rw[W.run_succ];split
  ·rename_i x _
   obtain⟨more,hm⟩:=W.row_pre x (W.run f 0 [x0]) 256;have hl:=(List.getElem?_eq_some_iff.1 ih).1;rw[hm,List.getElem?_append_left hl];exact ih
  ·exact ih
theorem out_good{σ:Type}(W:Bfs σ)(fin:σ→Bool){met:List σ}(h0:met≠[])(hl:met.length≤20000):Good (W.out fin met):=by
 have hlen:(W.out fin met).length=met.length:=by unfold Bfs.out;rw[List.length_map]
 refine⟨fun e=>h0 (List.map_eq_nil_iff.1 e),by rw[hlen];exact hl,fun s hs=>?_,fun s hs a ha=>?_⟩
 ·obtain⟨x,_,rfl⟩:=List.mem_map.1 hs;exact(runs_asc _ 256).1
 ·obtain⟨x,_,rfl⟩:=List.mem_map.1 hs;obtain⟨c,k,_,hg,hk⟩:=runs_mem _ 256 a ha;obtain⟨y,_,hf⟩:=Option.bind_eq_some_iff.1 hg;obtain⟨z,hz,_⟩:=findI_some hf;have:=(List.getElem?_eq_some_iff.1 hz).1;rw[hlen];omega
theorem MadeP.leq{W:Bfs (List Int)}{fin fin0:List Int→Bool}{x0:List Int}{i:Nat}{met:List (List Int)}{ds:List St}(hW:Plain W)(h:MadeP W fin fin0 x0 i met ds)(hi:i=met.length):Leq (auOf ds) 0 ⟨fin,W.step⟩ x0:=by
 obtain⟨e,hm,_⟩:=h.last hW hi;rw[e];intro s
 refine out_leq W fin (fun z y hzy=>?_) hm s 0 x0 ?_
 ·rw[hW.eqv,decide_eq_true_eq]at hzy;rw[hzy];exact Leq.refl _ _
 ·rw[h.run];exact run_head W x0 i
theorem MadeP.good{W:Bfs (List Int)}{fin fin0:List Int→Bool}{x0:List Int}{i:Nat}{met:List (List Int)}{ds:List St}(hW:Plain W)(h:MadeP W fin fin0 x0 i met ds)(hi:i=met.length)(hl:met.length≤20000):Good ds:=by
 obtain⟨e,_,_⟩:=h.last hW hi;rw[e];refine out_good W fin (fun e=>?_) hl;have:=run_head W x0 i;rw[←h.run,e]at this;cases this
end
end Go.Proofs.YtaociahafamncaaGreatDoor
