/- Folded. -/
import Derived.Test.YtaociahafamncaaGreatDoorHM31
import Derived.Test.YtaociahafamncaaGreatDoorHM34
set_option maxRecDepth 100000
set_option maxHeartbeats 40000000
namespace Go.Proofs.YtaociahafamncaaGreatDoor
section
open Go.RowKit Go.Maps
theorem MkG.start{w w1:World}(hb1:Below w.heap.size w w1){p kb:Nat}(hp:p=w1.heap.size+1)(hkb:kb=w1.heap.size):MkR ((w1.alloc (.map #[] 0)).alloc (.cells #[.slice none 0 0,.map (some kb),.slice none 0 0,.int .i64 0] 69)) w.heap.size p none 0 0 none 0 kb (.map []) GRow.nil [] []:=by
 subst hp hkb;have hs:=hb1.size;refine⟨⟨?_,by omega,by simp;omega,⟨rfl,.inl ⟨rfl,rfl⟩⟩,⟨rfl,.inl ⟨rfl,rfl⟩⟩,?_,hs,⟨fun x hx=>absurd hx List.not_mem_nil,List.Pairwise.nil⟩,(GFam.nil _ _ _ _).cons_nil⟩,rfl,rfl,zs0,fun s hs=>absurd hs List.not_mem_nil⟩
 ·have:=heap_alloc_new (w1.alloc (.map #[] 0)) (.cells #[.slice none 0 0,.map (some w1.heap.size),.slice none 0 0,.int .i64 0] 69);simpa using this
 ·exact(World.ownsMap_made (H:=Unit) w1 Tryz.prog 9 (plainElem Tryz.prog 3)).alloc _
theorem zE8:Elem Tryz.prog 154 72 1 24:=Elem.mk_ Tryz.underlying154 (z:=.slice none 0 0) (by kernel_rfl) rfl (by omega)
theorem zo6{W:World}{b n g c i j:Nat}{hs:List Sh}{x:Sh}{u:Value}(h:W.ownsRow b 74 2 (.slice (some ⟨g,0,none⟩) n c) n (hs.flatMap Sh.hdr))(hx:hs[i]? =some x)(hu:x.hdr[j]? =some u)(hj:j<2):W.cell? ⟨g,i*2+j,none⟩=some u:=by
 have:=h.cells (g:=g) rfl (i*2+j) u (by rw[zc7 Sh.hdr 2 (fun _=>rfl) hs i j x hx hj];exact hu);rwa[Addr.add_lit,Nat.zero_add]at this
theorem zC6{hs:List Sh}{i:Nat}{x y:Sh}(hx:hs[i]? =some x)(hr:y.row=x.row):(hs.set i y).map Sh.row=hs.map Sh.row:=by
 rw[List.map_set,hr];obtain⟨h1,h2⟩:=List.getElem?_eq_some_iff.1 hx;apply List.ext_getElem?
 intro k
 rw[List.getElem?_set];split
 ·rename_i e
  subst e;rw[List.length_map,if_pos h1,List.getElem?_map,hx];rfl
 ·rfl
theorem zD5{C:List Int}(h:C.Pairwise fun x y=>x<y)(hin:∀x∈C,0≤x∧x≤256):C.length≤257:=by
 have:∀(C:List Int) (a:Int),C.Pairwise (fun x y=>x<y)→(∀x∈C,a≤x∧x≤256)→(C.length:Int)≤max (257-a) 0:=by
  intro C
  induction C with
  |nil=>intro a _ _;simp;omega
  |
   cons x r ih=>
   intro a h hin
   obtain⟨h1,h2⟩:=List.pairwise_cons.1 h;have h3:=hin x (List.mem_cons_self ..);have:=ih (x+1) h2 fun y hy=>⟨by have:=h1 y hy;omega,(hin y (List.mem_cons_of_mem _ hy)).2⟩
   rw[List.length_cons];omega
 have:=this C 0 h hin;omega
def toL(ls:List Arc3)(b:Nat):List Int:=(ls.filter fun a=>decide (a.1≤(b:Int))&&decide ((b:Int)≤a.2.1)).map (·.2.2)
theorem zBe(ls:List Arc3)(a:Arc3)(b:Nat):toL (ls++[a]) b=toL ls b++(if a.1≤(b:Int)∧(b:Int)≤a.2.1 then[a.2.2]else[]):=by
 unfold toL;rw[List.filter_append,List.map_append];congr 1
 by_cases h1:a.1≤(b:Int)<;>by_cases h2:(b:Int)≤a.2.1<;>simp[h1,h2]
theorem zGk{l:List Lst}{S:List Int}{Ls:List Ash}(hLs:Ls.map (·.l)=S.map (ze4 l)){b:Nat}{z:Int}:z∈toL (Ls.flatMap (·.l)) b↔∃y∈S,∃a∈ze4 l y,a.1≤(b:Int)∧(b:Int)≤a.2.1∧a.2.2=z:=by
 have e:Ls.flatMap (·.l)=(S.map (ze4 l)).flatten:=by rw[←hLs,List.flatMap_def]
 unfold toL;rw[e,List.mem_map];constructor
 ·rintro⟨a,ha,rfl⟩;rw[List.mem_filter,List.mem_flatten]at ha;obtain⟨⟨L,hL,haL⟩,hp⟩:=ha;obtain⟨y,hy,rfl⟩:=List.mem_map.1 hL;rw[Bool.and_eq_true,decide_eq_true_eq,decide_eq_true_eq]at hp;exact⟨y,hy,a,haL,hp.1,hp.2,rfl⟩
 ·rintro⟨y,hy,a,ha,h1,h2,rfl⟩;refine⟨a,?_,rfl⟩;rw[List.mem_filter,List.mem_flatten,Bool.and_eq_true,decide_eq_true_eq,decide_eq_true_eq];exact⟨⟨_,List.mem_map_of_mem hy,ha⟩,h1,h2⟩
theorem zF3{α:Type}(p:α→Bool)(l:List α)(x:α):(l++[x]).any p=(l.any p||p x):=by rw[List.any_append];simp
theorem z65(w:World)(B:Nat)(hB:B≤w.heap.size)(A:Option Addr)(n c:Nat)(H:List Lsh)(h:LoIn w B A n c H)(hn:n≤20000)(hg:LGood (H.map (·.d)))(most:Int)(hm:most≤20000)(ht:Tab w):
  Calls Tryz.prog 66 #[.slice A n c,.int .i64 most] w fun e w'=>
   ((∃f,most<(((subW (H.map (·.d))).run f 0 [setL n (Clo (H.map (·.d)) fun x=>x=0)]).length:Nat))∧e=.returned (.tuple #[.slice none 0 0,.int .i64 8])∧Below w.heap.size w w')∨
   ((∀f,(((subW (H.map (·.d))).run f 0 [setL n (Clo (H.map (·.d)) fun x=>x=0)]).length:Nat)≤most)∧∃v hs d,e=.returned (.tuple #[v,.int .i64 0])∧OwnSts w' w.heap.size v hs∧zcg (auOf d) 0 (hs.map (·.d))∧Leq (auOf d) 0 ⟨finS (H.map (·.d)),stepS (H.map (·.d))⟩ (setL n (Clo (H.map (·.d)) fun x=>x=0))∧hs.length≤d.length∧d.length≤20000∧Below w.heap.size w w'):=by
 have HS:=Lib.hid h;have HLO:=Lib.hid ((z8d _).2 hg);have hmk:= @run_makeMap Tryz.prog;obtain⟨l,hl⟩:∃l,H.map (·.d)=l:=⟨_,rfl⟩;have HD:=Lib.hid hl;have HG:=Lib.hid hg;rw[hl];have hll:l.length=n:=by rw[←hl,List.length_map];exact h.len
 have HLL:=Lib.hid hll;obtain⟨S0,hS0⟩:∃S,setL n (Clo l fun x=>x=0)=S:=⟨_,rfl⟩;have HSZ:=Lib.hid hS0;rw[hS0];have HT:=Lib.hid ht;have hln:H.length=n:=h.len;have hnp:0<n:=by rw[←hln,←List.length_map];exact List.length_pos_iff.2 hg.ne
 clear h hg ht hl hll hS0;go_enter Tryz.func66,Tryz.ntmps66
 go_wp2_with fail;refine(z8e w B hB A n c H HS.out).mono ?_;rintro e w1 ⟨rfl,hb1⟩;rw[HLO.out];have HB1:=Lib.hid hb1;have HMS:=Lib.hid (MkG.start hb1 rfl rfl);clear hb1;go_wp2_with fail;have HB2:=Lib.hid (bnew (bnew HB1.out (.map #[] 0)) (.cells #[.slice none 0 0,.map (some w1.heap.size),.slice none 0 0,.int .i64 0] 69));have hsz2:((w1.alloc (.map #[] 0)).alloc (.cells #[.slice none 0 0,.map (some w1.heap.size),.slice none 0 0,.int .i64 0] 69)).heap.size=w1.heap.size+1+1:=by simp
 obtain⟨p,hp⟩:∃p,w1.heap.size+1=p:=⟨_,rfl⟩;obtain⟨kb,hkb⟩:∃p,w1.heap.size=p:=⟨_,rfl⟩;rw[hkb]at HMS HB2 hsz2 hp;rw[hp]at HMS hsz2;rw[hkb,hp];generalize(w1.alloc (.map #[] 0)).alloc (.cells #[.slice none 0 0,.map (some kb),.slice none 0 0,.int .i64 0] 69)=W2 at*;have HB3:=Lib.hid (bnew HB2.out (.cells #[.int .i64 0] 3));have HO3:Hid ((W2.alloc (.cells #[.int .i64 0] 3)).ownsRow (p+1) 3 1 (.slice (some ⟨p+1,0,none⟩) 1 1) 1 (([0]:List Int).map (.int .i64))):=zg1 W2 #[.int .i64 0] 3 1 1 rfl (by unfold maxLen;omega) hsz2.symm (by omega);have HM3:=Lib.hid (HMS.out.keep (bnew (za0 W2) (.cells #[.int .i64 0] 3)));have hbp:B≤p+1:=by have:=HB2.out.size;omega
 refine(z1e _ B (Nat.le_trans hB HB3.out.size) A n c H (HS.out.keep (HB3.out.mono hB) (Nat.le_refl _)) hn HG.out (p+1) hbp _ 1 1 [0] HO3.out (by omega) (fun y hy=>by rw[List.mem_singleton.1 hy];omega)).mono ?_;rintro e w4 ⟨A4,q4,c4,rfl,hown4,hg4⟩;have HM4:=Lib.hid (HMS.out.keep ((bnew (za0 W2) (.cells #[.int .i64 0] 3)).grown hg4 (by simp) (fun r hr=>by simp only[Value.ownBlock,Option.some.injEq]at hr;omega)));have HB4:=Lib.hid (HB3.out.grown hg4 HB3.out.size (fun r hr=>by simp only[Value.ownBlock,Option.some.injEq]at hr;have:=HB2.out.size;omega));have hS0:setL n (Clo (H.map (·.d)) fun x=>((x:Nat):Int)∈([0]:List Int))=S0:=by
  rw[←HSZ.out,HD.out];have e:(fun x:Nat=>((x:Nat):Int)∈([0]:List Int))=fun x=>x=0:=funext fun x=>propext (by simp)
  rw[e]
 rw[hS0]at hown4;have hl4:S0.length=q4:=by simpa using hown4.1
 have hF4:Fam w4 w.heap.size ([]++[⟨A4,c4,S0⟩]):=⟨fun x hx=>by
  rw[List.mem_singleton.1 hx];show World.ownsRow _ _ _ _ (.slice _ _ _) _ _;rw[hl4];exact own_lower hown4 HB3.out.size,List.pairwise_singleton _ _⟩
 have hS0n:S0.length≤n:=by rw[←hS0];exact zt9 _ _
 have hS0b:∀x∈S0,0≤x∧x≤1000000:=fun x hx=>by
  rw[←hS0]at hx;obtain⟨y,h1,h2,_⟩:=zd6.1 hx;omega
 have HT4:=Lib.hid (HT.out.below HB4.out);have HST:=Lib.hid (zjk w4 w.heap.size p none 0 0 none 0 kb (.map []) GRow.nil [] [] HM4.out (by omega) HT4.out HT.out.lt ⟨A4,c4,S0⟩ q4 hl4 hF4 (by omega) hS0b false);clear hown4 hg4 HO3 HM3 hF4 hS0 HMS HB3 HB2 hsz2 hmk;go_wp2_with fail;refine HST.out.mono ?_;rintro e w5 ⟨i0,rfl,hk5,ht5,hcase⟩;have hcase2:i0=0∧∃As' cs' At' ct' N',MkR w5 w.heap.size p As' (0+1) cs' At' ct' kb N' GRow.nil ([]++[⟨(false,[]),none,0⟩]) ([]++[⟨A4,c4,S0⟩]):=by
  rcases hcase with⟨h1,_⟩|⟨_,h2,h3⟩
  ·cases h1
  ·exact⟨h2,h3⟩
 obtain⟨rfl,As,cs,At,ct,N,hmk5⟩:=hcase2;have HM5:=Lib.hid hmk5;have HK5:=Lib.hid hk5;have HT5:=Lib.hid ht5;have hFS:Fam w5 w.heap.size ([]++([]++[⟨A4,c4,S0⟩])):=hmk5.g.fam;have HTI:Hid (TiG w w5 p As 1 cs At ct kb N GRow.nil [⟨(false,[]),none,0⟩] [⟨A4,c4,S0⟩] [] GRow.nil):=⟨HB4.out.trans hk5.bel,hmk5,ht5,hFS,GRow.own_nil _ _ _ _⟩;have HMP:Hid (MadeP (subW l) (finS l) (fun _=>false) S0 0 [S0] [(false,[])]):=MadeP.start _ _ _ _;have HIN:Hid (∀s∈([⟨A4,c4,S0⟩]:List Rw),s.l.length≤n∧∀x∈s.l,0≤x∧x<(n:Int)):=fun s hs=>by
  rw[List.mem_singleton.1 hs];refine⟨hS0n,fun x hx=>?_⟩;rw[←HSZ.out]at hx;obtain⟨y,h1,h2,_⟩:=zd6.1 hx;omega
 have HSH:Hid (∀k,0≤k→k<1→([⟨(false,[]),none,0⟩]:List Sh)[k]? =some ⟨(false,[]),none,0⟩):=fun k _ hk=>by
  obtain rfl:k=0:=by omega
  rfl
 clear HM5 HK5 HT5;clear hcase hmk5 hk5 ht5 HST HM4 hFS hS0b hl4 hS0n HT4 HB4 HB1;go_wp2_with fail;go_loopw [7] (fun iv wr=>∃(i ns cs ct:Nat) (As At:Option Addr) (N:DataW Unit) (hs:List Sh) (S:List Rw),iv=.int .i64 i∧i≤ns∧ns≤20300∧Hid (i=0∨(i:Int)≤most)∧Hid (TiG w wr p As ns cs At ct kb N GRow.nil hs S [] GRow.nil)∧Hid (MadeP (subW l) (finS l) (fun _=>false) S0 i (S.map (·.l)) (hs.map (·.d)))∧Hid ((∀s∈S,s.l.length≤n∧∀x∈s.l,0≤x∧x<(n:Int))∧∀k,i≤k→k<ns→hs[k]? =some ⟨(false,[]),none,0⟩)) (fun iv _=>20001-(intOf iv).toNat)
 case atStart=>exact⟨0,1,cs,ct,As,At,N,_,_,rfl,Nat.zero_le _,by omega,.inl rfl,HTI,HMP,HIN.out,HSH.out⟩
 case round=>
  clear HTI HMP HIN HSH hp hkb hbp;obtain⟨i,ns,cs,ct,As,At,N,hs,S,rfl,hin,hns,HI0,HR,HP,HIN⟩:=hrel;obtain⟨m0,m1,m2⟩:=HR.out.mr.g.cells;have hpl:=HR.out.mr.g.lt;by_cases hlt:i<ns
  ·by_cases hmo:most<(ns:Int)
   ·have q1:decide ((ns:Int)>most)=true:=decide_eq_true hmo;have HLN:Hid (∃f,most<(((subW l).run f 0 [S0]).length:Nat)):=⟨i,by rw[←HP.out.run,List.length_map,HR.out.mr.sl];exact hmo⟩;have HB:=Lib.hid HR.out.bel;clear hmo;go_wp2_with fail;go_ret2;exact .inl ⟨HLN.out,rfl,HB.out⟩
   ·have q1:decide ((ns:Int)>most)=false:=decide_eq_false hmo;have hns2:ns≤20000:=by omega
    have HMO:=Lib.hid (show(ns:Int)≤most by omega);obtain⟨x,hx⟩:∃x,S[i]? =some x:=⟨S[i]'(by rw[HR.out.mr.sl];exact hlt),List.getElem?_eq_getElem _⟩;have hxin:=HIN.out.1 x (List.mem_of_getElem? hx);obtain⟨tg,rfl,htb,htl⟩:=zah HR.out.mr.g.se (by omega);obtain⟨q,hq⟩:∃q,x.l.length=q:=⟨_,rfl⟩;have t0:wr.cell? ⟨tg,i,none⟩=some (.slice x.A q x.c):=by rw[←hq];exact zak HR.out.mr.g.se (by rw[List.getElem?_map,hx];rfl)
    have hct:ns≤ct:=by
     obtain⟨A1,c1,e1,h1⟩:=za1 HR.out.mr.g.se;injection e1 with _ _ e1
     omega
    have hqn:q≤n:=by rw[←hq];exact hxin.1
    have HQ:=Lib.hid hq;have HX:=Lib.hid hx;have HXB:=Lib.hid hxin.2;have i1:(0:Int)≤(i:Int):=by omega
    have i2:(i:Int)<(ns:Int):=by omega
    have HMD:Hid (MidP (subW l) (finS l) (fun _=>false) S0 i (S.map (·.l)) x.l 0 (S.map (·.l)) [] false (hs.map (·.d))):=HP.out.enter (by rw[List.getElem?_map,hx];rfl);clear hmo hx hxin hq;go_wp2_with fail;obtain⟨sg,rfl,hsgb,hsgl⟩:=zah HR.out.mr.g.st (by omega);have hcs:ns≤cs:=by
     obtain⟨A1,c1,e1,h1⟩:=za1 HR.out.mr.g.st;injection e1 with _ _ e1
     omega
    have HBW:Hid (p+1≤wr.heap.size):=hpl;have HSL:=Lib.hid HR.out.mr.sl;clear t0 m0 m1 m2 hpl htl hsgl;go_loopw [8,54] (fun lv jv wj=>∃(j lc:Nat) (La:Option Addr) (Ls:List Ash) (hs:List Sh),jv=.int .i64 j∧lv=.slice La j lc∧j≤q∧Hid (TiG w wj p (some ⟨sg,0,none⟩) ns cs (some ⟨tg,0,none⟩) ct kb N GRow.nil hs S [] ⟨.slice La j lc,j,Ls.map Ash.val⟩)∧Hid (MidP (subW l) (finS l) (fun _=>false) S0 i (S.map (·.l)) x.l 0 (S.map (·.l)) [] ((x.l.take j).any (zpa l)) (hs.map (·.d)))∧Hid (Ls.length=j∧Ls.map (·.l)=(x.l.take j).map (ze4 l)∧(∀y∈Ls,∃X∈H,y.A=X.A∧y.c=X.c∧y.l=X.d.arcs)∧(∃fc,hs[i]? =some ⟨(fc,[]),none,0⟩)∧∀k,i+1≤k→k<ns→hs[k]? =some ⟨(false,[]),none,0⟩)) (fun _ jv _=>q-(intOf jv).toNat)
    case atStart=>exact⟨0,0,none,[],hs,rfl,rfl,Nat.zero_le _,HR,HMD,rfl,rfl,fun y hy=>absurd hy List.not_mem_nil,⟨false,HIN.out.2 i (Nat.le_refl _) hlt⟩,fun k h1 h2=>HIN.out.2 k (by omega) h2⟩
    case round=>
     clear HR HMD;obtain⟨j,lc,La,Ls,hs,rfl,rfl,hjq,HR,HMD,HLS⟩:=hrel;by_cases hjl:j<q
     ·
      obtain⟨z,hz⟩:∃z,x.l[j]? =some z:=⟨x.l[j]'(by rw[HQ.out];exact hjl),List.getElem?_eq_getElem _⟩;have hzb:=HXB.out z (List.mem_of_getElem? hz);obtain⟨y,rfl⟩:=Int.eq_ofNat_of_zero_le hzb.1;have hyn:y<n:=by omega
      have hxo:wr.ownsRow w.heap.size 3 1 (.slice x.A q x.c) q (x.l.map (.int .i64)):=by
       rw[←HQ.out];exact HR.out.fam.own x (by rw[List.nil_append];exact List.mem_of_getElem? HX.out)
      obtain⟨xg,hxA,hxb,hxl⟩:=zah hxo (by omega);rw[hxA]at hxo;have x0:=zak (j:=j) (u:=.int .i64 (y:Int)) hxo (by rw[List.getElem?_map,hz];rfl);have hxc:q≤x.c:=by
       obtain⟨A1,c1,e1,h1⟩:=za1 hxo;injection e1 with _ _ e1
       omega
      obtain⟨X,hX⟩:∃X,H[y]? =some X:=⟨H[y]'(by omega),List.getElem?_eq_getElem _⟩;have HW:=Lib.hid (HS.out.keep (HR.out.bel.mono hB) (Nat.le_refl _));obtain⟨b,off,rfl,hb,hcell⟩:=HW.out.at_ (by omega);obtain⟨h0,h1,_⟩:=hcell y X hX;obtain⟨m,hm'⟩:∃m,X.d.arcs.length=m:=⟨_,rfl⟩;obtain⟨fx,hfx⟩:∃f,X.d.fin=f:=⟨_,rfl⟩;rw[hm']at h1;rw[hfx]at h0;have hlX:l[y]? =some X.d:=by rw[←HD.out,List.getElem?_map,hX];rfl
      have HFA:Hid (zpa l (y:Int)=fx):=by
       show((l[(y:Int).toNat]?).map (·.fin)).getD false=fx;rw[Int.toNat_natCast,hlX];exact hfx
      have HAA:Hid (ze4 l (y:Int)=X.d.arcs):=by
       show((l[(y:Int).toNat]?).map (·.arcs)).getD []=_;rw[Int.toNat_natCast,hlX];rfl
      have HTK:Hid (x.l.take (j+1)=x.l.take j++[(y:Int)]):=by show _=_;rw[List.take_add_one,hz];rfl
      have HXM:=Lib.hid (List.mem_of_getElem? hX);have HM':=Lib.hid hm';have i3:(0:Int)≤(y:Int):=by omega
      have i4:(y:Int)<(n:Int):=by omega
      have hbw:b<wr.heap.size:=Nat.lt_of_lt_of_le hb (Nat.le_trans hB HR.out.bel.size);have hbs:=HR.out.bel.size;have HLO2:Hid (wr.ownsRow w.heap.size 72 1 (.slice La j lc) j (Ls.map Ash.val)):=HR.out.ls;have HBL2:=Lib.hid HR.out.bel;have HB2:Hid (b<w.heap.size):=Nat.lt_of_lt_of_le hb hB;rw[hxA];clear hz hxo hX hcell hm' hfx hlX hzb HW;obtain⟨fc,hfc⟩:=HLS.out.2.2.2.1;have HFC:=Lib.hid hfc;clear hfc;go_wp2_with (at_builtin;refine zab w wr #[.slice X.A m X.c] rfl _ _ _ rfl zE8 _ _ _ rfl HLO2.out rfl (by simp) rfl (by simp[Value.oneCell']) (by unfold maxLen;omega) (by omega) hbs HR.out.bel ?_;intro v8 w8 hown8 _ hg8 _;obtain⟨A8,c8,rfl,_⟩:=za1 hown8;have HO8:=Lib.hid hown8;have HG8:=Lib.hid hg8;clear hown8 hg8)
      have HT8:Hid (TiG w w8 p (some ⟨sg,0,none⟩) ns cs (some ⟨tg,0,none⟩) ct kb N GRow.nil hs S [] ⟨.slice A8 (j+1) c8,j+1,Ls.map Ash.val++[.slice X.A m X.c]⟩):=HR.out.growL HT.out HG8.out HO8.out;have s0:=HT8.out.mr.g.cells.1;have s1:=zo6 (j:=0) (u:=.bool fc) HT8.out.mr.g.st HFC.out rfl (by omega);rw[Nat.add_zero]at s1;have s2:w8.cell? ⟨b,off+y*3,none⟩=some (.bool fx):=by
       have h2:=HBL2.out.cell (p:=⟨b,off+y*3,none⟩) HB2.out;have h3:=HT8.out.bel.cell (p:=⟨b,off+y*3,none⟩) HB2.out;rw[h3,←h2];exact h0
      have s3:=zn2 HT8.out.mr.g.st (i*2);have l1:=HT8.out.mr.g.lt;have l2:=(zb3 HT8.out.mr.g.st).2.1;have l3:b<w8.heap.size:=Nat.lt_of_lt_of_le HB2.out HT8.out.bel.size;have HSET:Hid (∀f:Bool,TiG w (w8.setCell ⟨sg,i*2,none⟩ (.bool f)) p (some ⟨sg,0,none⟩) ns cs (some ⟨tg,0,none⟩) ct kb N GRow.nil (hs.set i ⟨(f,[]),none,0⟩) S [] ⟨.slice A8 (j+1) c8,j+1,Ls.map Ash.val++[.slice X.A m X.c]⟩):=fun f=>(HT8.out.setS (j:=0) HT.out rfl HFC.out (by omega) (y:=⟨(f,[]),none,0⟩) rfl (by rw[zC6 (y:=⟨(f,[]),none,0⟩) HFC.out rfl];exact HT8.out.mr.g.arcs)).1
      have HMN:Hid (∀f,MidP (subW l) (finS l) (fun _=>false) S0 i (S.map (·.l)) x.l 0 (S.map (·.l)) [] f ((hs.set i ⟨(f,[]),none,0⟩).map (·.d))):=fun f=>by
       have h1:=HMD.out.fin (by rw[List.length_map,HSL.out];exact hin) f;rw[List.map_set];exact h1
      have HLN:Hid ((Ls++[(⟨X.A,X.c,X.d.arcs⟩:Ash)]).length=j+1∧(Ls++[(⟨X.A,X.c,X.d.arcs⟩:Ash)]).map (·.l)=(x.l.take (j+1)).map (ze4 l)∧(∀y∈Ls++[(⟨X.A,X.c,X.d.arcs⟩:Ash)],∃X∈H,y.A=X.A∧y.c=X.c∧y.l=X.d.arcs)):=by
       refine⟨by rw[List.length_append,HLS.out.1];rfl,?_,fun u hu=>?_⟩
       ·rw[HTK.out,List.map_append,List.map_append,HLS.out.2.1];simp only[List.map_cons,List.map_nil];rw[HAA.out]
       ·rcases List.mem_append.1 hu with hu|hu
        ·exact HLS.out.2.2.1 u hu
        ·rw[List.mem_singleton.1 hu];exact⟨X,HXM.out,rfl,rfl,rfl⟩
      have HVL:Hid ((Ls++[(⟨X.A,X.c,X.d.arcs⟩:Ash)]).map Ash.val=Ls.map Ash.val++[.slice X.A m X.c]):=by
       show _=_;rw[List.map_append];simp only[List.map_cons,List.map_nil];show Ls.map Ash.val++[Value.slice _ _ _]=_;rw[HM'.out]
      have HHI:Hid (∀f:Bool,(hs.set i ⟨(f,[]),none,0⟩)[i]? =some ⟨(f,[]),none,0⟩):=fun f=>by
       rw[List.getElem?_set,if_pos rfl,if_pos (List.getElem?_eq_some_iff.1 HFC.out).1]
      have HHK:Hid (∀(f:Bool) (k:Nat),i+1≤k→k<ns→(hs.set i ⟨(f,[]),none,0⟩)[k]? =some ⟨(false,[]),none,0⟩):=fun f k h1 h2=>by
       rw[List.getElem?_set,if_neg (by omega)];exact HLS.out.2.2.2.2 k h1 h2
      have HANY:Hid ((x.l.take (j+1)).any (zpa l)=(((x.l.take j).any (zpa l))||fx)):=by
       show _=_;rw[HTK.out,zF3,HFA.out]
      have HFE:Hid (fc=(x.l.take j).any (zpa l)):=by
       have h1:=HMD.out.out_;have h2:(hs.map (·.d))[i]? =some (fc,[]):=by rw[List.getElem?_map,HFC.out];rfl
       rw[h1,List.getElem?_append_right (by rw[List.length_map,List.length_take];omega),List.length_map,List.length_take,List.length_map,HSL.out,Nat.min_eq_left hin,Nat.sub_self]at h2;simp at h2
       exact h2.symm
      clear HO8 HG8 HR h0 h1 x0 hbw hbs HLO2 HBL2 HMD HLS;cases fc with
      |
       true=>
       go_region
       all_goals
        have HT9:=Lib.hid ((HSET.out true).keep (za0 _).drew);have HM9:Hid (MidP (subW l) (finS l) (fun _=>false) S0 i (S.map (·.l)) x.l 0 (S.map (·.l)) [] ((x.l.take (j+1)).any (zpa l)) ((hs.set i ⟨(true,[]),none,0⟩).map (·.d))):=by
         rw[HANY.out,←HFE.out];exact HMN.out true
        clear HSET HT8 s0 s1 s2 s3 l1 l2 l3;go_wp2_with fail;go_roundw;case rel=>exact⟨j+1,c8,A8,_,_,by go_num,rfl,by omega,by rw[HVL.out];exact HT9,HM9,HLN.out.1,HLN.out.2.1,HLN.out.2.2,⟨_,HHI.out true⟩,HHK.out true⟩
        case measure=>simp[intOf];omega
      |
       false=>
       go_region
       all_goals
        have HT9:=Lib.hid ((HSET.out fx).keep (za0 _).drew);have HM9:Hid (MidP (subW l) (finS l) (fun _=>false) S0 i (S.map (·.l)) x.l 0 (S.map (·.l)) [] ((x.l.take (j+1)).any (zpa l)) ((hs.set i ⟨(fx,[]),none,0⟩).map (·.d))):=by
         rw[HANY.out,←HFE.out];exact HMN.out fx
        clear HSET HT8 s0 s1 s2 s3 l1 l2 l3;go_wp2_with fail;go_roundw;case rel=>exact⟨j+1,c8,A8,_,_,by go_num,rfl,by omega,by rw[HVL.out];exact HT9,HM9,HLN.out.1,HLN.out.2.1,HLN.out.2.2,⟨_,HHI.out fx⟩,HHK.out fx⟩
        case measure=>simp[intOf];omega
     ·obtain rfl:q=j:=by omega
      have hall:x.l.take q=x.l:=List.take_of_length_le (by rw[HQ.out];exact Nat.le_refl _);rw[hall]at HMD HLS;have HLI:Hid (ListsIn wr B La q Ls):=by
       refine⟨HLS.out.1,Sl.of_own (c:=lc) HR.out.ls,fun y hy=>?_,by omega⟩;obtain⟨X,hX,e1,e2,e3⟩:=HLS.out.2.2.1 y hy;have hW:=HS.out.keep (HR.out.bel.mono hB) (Nat.le_refl _);have h1:=hW.arcs hX;have h2:=hW.ar X hX;obtain⟨yA,yc,yl⟩:=y;simp only at e1 e2 e3;subst e1 e2 e3;exact⟨h1,h2.2.2,h2.2.1⟩
      have HLK:Hid (∀y∈Ls,∀a∈y.l,0≤a.1∧a.1≤a.2.1∧a.2.1≤255):=fun y hy a ha=>by
       obtain⟨X,hX,_,_,e3⟩:=HLS.out.2.2.1 y hy;rw[e3]at ha;have:=HG.out.arc X.d (List.mem_map_of_mem hX) a ha;exact⟨this.1,this.2.1,this.2.2.1⟩
      have HBS:=Lib.hid HR.out.bel.size;clear hall;go_wp2_with fail;refine(zEb wr B (Nat.le_trans hB HBS.out) La q lc Ls HLI.out HLK.out).mono ?_;rintro e w9 ⟨A9,n9,c9,rfl,hown9,hb9⟩;obtain⟨C,hC⟩:∃C,Lib.compact (sorted (cutL Ls))=C:=⟨_,rfl⟩;have HCP:Hid (CutP l x.l C):=by
       rw[←hC];exact zJ8 (by rw[←HD.out];exact HG.out) HLS.out.2.1
      rw[hC]at hown9;have HCL:Hid (C.length=n9):=by
       have h1:=hown9.1;rw[List.length_map]at h1;show _=_;omega
      have HT9:Hid (TiG w w9 p (some ⟨sg,0,none⟩) ns cs (some ⟨tg,0,none⟩) ct kb N GRow.nil hs S [⟨A9,c9,C⟩] ⟨.slice La q lc,q,Ls.map Ash.val⟩):=HR.out.newE hb9 (by
       show World.ownsRow _ _ _ _ (.slice _ _ _) _ _;rw[HCL.out];exact hown9)
      clear hown9 hb9 hC HLI HLK HBS HR;go_wp2_with fail;have hfin:x.l.any (zpa l)=finS l x.l:=rfl;rw[hfin]at HMD;have hn9:2≤n9∧n9≤257:=⟨by rw[←HCL.out];exact HCP.out.two,by rw[←HCL.out];exact zD5 HCP.out.lt HCP.out.in_⟩;obtain⟨hn9a,hn9b⟩:=hn9;have hCa:n9≤c9:=by
       have h1:=HT9.out.fam.own ⟨A9,c9,C⟩ (List.mem_cons_self ..);obtain⟨A1,c1,e1,h1⟩:=za1 h1;injection e1 with _ e2 e1
       have e3:c9=c1:=e1;have e4:=HCL.out;have e5:C.length≤c1:=h1;omega
      have hCo9:w9.ownsRow w.heap.size 3 1 (.slice A9 n9 c9) n9 (C.map (.int .i64)):=by
       rw[←HCL.out];exact HT9.out.fam.own ⟨A9,c9,C⟩ (List.mem_cons_self ..)
      obtain⟨cg,rfl,hcgb,_⟩:=zah hCo9 (by omega);clear hCo9;obtain⟨M0,hM0⟩:∃M,S.map (·.l)=M:=⟨_,rfl⟩;rw[hM0]at HMD;have HM0:Hid (M0=S.map (·.l)):=hM0.symm;have HSX:Hid (∃x',S[i]? =some x'∧x'.l=x.l):=⟨x,HX.out,rfl⟩;have HIL:Hid (∀k,i+1≤k→k<ns→hs[k]? =some ⟨(false,[]),none,0⟩):=fun k h1 h2=>by
       exact HLS.out.2.2.2.2 k h1 h2
      have HIS:Hid (hs[i]? =some ⟨(finS l x.l,[]),none,0⟩):=by
       obtain⟨fc,hfc⟩:=HLS.out.2.2.2.1;have h1:=HMD.out.out_;have h2:(hs.map (·.d))[i]? =some (fc,[]):=by rw[List.getElem?_map,hfc];rfl
       rw[h1,List.getElem?_append_right (by rw[List.length_map,List.length_take];omega),List.length_map,List.length_take,HM0.out,List.length_map,HSL.out,Nat.min_eq_left hin,Nat.sub_self]at h2;simp at h2
       rw[h2];exact hfc
      have HIN1:=Lib.hid HIN.out.1;clear hM0 HX HIN hfin;go_loopw [12,13] (fun av kv wj=>∃(k ns cs ct tg na ca b:Nat) (As At Aa:Option Addr) (N:DataW Unit) (hs:List Sh) (S:List Rw) (arcs:List Arc3),kv=.int .i64 k∧av=.slice Aa na ca∧k+1≤n9∧ns≤20000+k∧na≤k∧i<ns∧Hid (C[k]? =some (b:Int))∧Hid (TiG w wj p As ns cs At ct kb N ⟨.slice Aa na ca,na,zaa arcs⟩ hs S [⟨some ⟨cg,0,none⟩,c9,C⟩] ⟨.slice La q lc,q,Ls.map Ash.val⟩)∧Hid (MidP (subW l) (finS l) (fun _=>false) S0 i M0 x.l b (S.map (·.l)) arcs (finS l x.l) (hs.map (·.d)))∧Hid ((∀s∈S,s.l.length≤n∧∀x∈s.l,0≤x∧x<(n:Int))∧(∀k,i+1≤k→k<ns→hs[k]? =some ⟨(false,[]),none,0⟩)∧hs[i]? =some ⟨(finS l x.l,[]),none,0⟩∧arcs.length=na∧∀a∈arcs,0≤a.2.1∧a.2.1≤256)) (fun _ kv _=>n9-(intOf kv).toNat)
      case atStart=>exact⟨0,ns,cs,ct,tg,0,0,0,_,_,none,N,hs,S,[],rfl,rfl,by omega,by omega,Nat.le_refl _,hlt,HCP.out.zero,HT9,by rw[←HM0.out];exact HMD,HIN1.out,HIL.out,HIS.out,rfl,fun a ha=>absurd ha List.not_mem_nil⟩
      case round=>
       clear HT9 HMD HIL HIS HIN1 hcs hct hsgb htb HSL;obtain⟨k,ns,cs,ct,tg,na,ca,b,As,At,Aa,N,hs,S,arcs,rfl,rfl,hkn,hnk,hnak,hin2,HCB,HR,HMD,HIN⟩:=hrel;by_cases hkl:k+1<n9
       ·obtain⟨v,hv⟩:∃v:Nat,C[k+1]? =some (v:Int):=by
         have h1:C[k+1]? =some (C[k+1]'(by rw[HCL.out];exact hkl)):=List.getElem?_eq_getElem _;have h2:=HCP.out.in_ _ (List.mem_of_getElem? h1);exact⟨(C[k+1]'(by rw[HCL.out];exact hkl)).toNat,by rw[h1];congr 1;omega⟩
        have HCV:=Lib.hid hv;have hbv:b<v:=by
         obtain⟨h1,h2⟩:=List.getElem?_eq_some_iff.1 HCB.out;obtain⟨h3,h4⟩:=List.getElem?_eq_some_iff.1 hv;have:=List.pairwise_iff_getElem.1 HCP.out.lt k (k+1) h1 h3 (by omega);rw[h2,h4]at this;omega
        have hv256:v≤256:=by have:=HCP.out.in_ _ (List.mem_of_getElem? hv);omega
        clear hv;have q2:decide ((k:Int)+1<(n9:Int))=true:=decide_eq_true (by omega);go_wp2_with fail;clear q2;have HR1:Hid (TiG w (wr.alloc (.cells #[] 3)) p As ns cs At ct kb N ⟨.slice Aa na ca,na,zaa arcs⟩ hs S [⟨some ⟨wr.heap.size,0,none⟩,0,[]⟩,⟨some ⟨cg,0,none⟩,c9,C⟩] ⟨.slice La q lc,q,Ls.map Ash.val⟩):=HR.out.newE (bnew (za0 wr) _) (zc1 wr 3 1 rfl (Nat.le_refl _));clear HR;go_loopw [14,101] (fun tv jv wj=>∃(j tc tn:Nat) (Ta:Option Addr) (T:List Int),jv=.int .i64 j∧tv=.slice Ta tn tc∧j≤q∧tn≤2097152*j∧Hid (TiG w wj p As ns cs At ct kb N ⟨.slice Aa na ca,na,zaa arcs⟩ hs S [⟨Ta,tc,T⟩,⟨some ⟨cg,0,none⟩,c9,C⟩] ⟨.slice La q lc,q,Ls.map Ash.val⟩)∧Hid (T.length=tn∧T=toL ((Ls.take j).flatMap (·.l)) b)) (fun _ jv _=>q-(intOf jv).toNat)
        case atStart=>exact⟨0,0,0,_,[],rfl,rfl,Nat.zero_le _,Nat.zero_le _,HR1,rfl,rfl⟩
        case round=>
         clear HR1;obtain⟨j,tc,tn,Ta,T,rfl,rfl,hjq,htn,HR,HTL⟩:=hrel;by_cases hjl:j<q
         ·obtain⟨y,hy⟩:∃y,Ls[j]? =some y:=⟨Ls[j]'(by rw[HLS.out.1];exact hjl),List.getElem?_eq_getElem _⟩;have hym:=List.mem_of_getElem? hy;obtain⟨X,hXm,e1,e2,e3⟩:=HLS.out.2.2.1 y hym;obtain⟨lg,rfl,hlb,hll⟩:=zah HR.out.ls (by omega);have hls:=HR.out.ls;obtain⟨m,hm'⟩:∃m,X.d.arcs.length=m:=⟨_,rfl⟩;have y0:=zak (j:=j) (u:=.slice X.A m X.c) hls (by
           rw[List.getElem?_map,hy];show some (Value.slice _ _ _)=_;rw[e1,e2,e3,hm'])
          have hqlc:q≤lc:=by
           obtain⟨A1,c1,e1,h1⟩:=za1 hls;injection e1 with _ _ e1
           omega
          have hm20:=(HS.out.ar X hXm).2.2;have hmc:=(HS.out.ar X hXm).2.1;rw[hm']at hm20 hmc;have HTK:Hid ((Ls.take (j+1)).flatMap (·.l)=(Ls.take j).flatMap (·.l)++X.d.arcs):=by
           show _=_;rw[List.take_add_one,hy,List.flatMap_append];simp[e3]
          have HXM:=Lib.hid hXm;have HM':=Lib.hid hm';clear hy hym hls hXm hm' e1 e2 e3;go_wp2_with fail;go_loopw [14,107] (fun tv gv wj=>∃(g tc tn:Nat) (Ta:Option Addr) (T:List Int),gv=.int .i64 g∧tv=.slice Ta tn tc∧g≤m∧tn≤2097152*j+g∧Hid (TiG w wj p As ns cs At ct kb N ⟨.slice Aa na ca,na,zaa arcs⟩ hs S [⟨Ta,tc,T⟩,⟨some ⟨cg,0,none⟩,c9,C⟩] ⟨.slice (some ⟨lg,0,none⟩) q lc,q,Ls.map Ash.val⟩)∧Hid (T.length=tn∧T=toL ((Ls.take j).flatMap (·.l)++X.d.arcs.take g) b)) (fun _ gv _=>m-(intOf gv).toNat)
          case atStart=>exact⟨0,tc,tn,Ta,T,rfl,rfl,Nat.zero_le _,by omega,HR,HTL.out.1,by rw[List.take_zero,List.append_nil];exact HTL.out.2⟩
          case round=>
           clear HR HTL y0 hll;obtain⟨g,tc,tn,Ta,T,rfl,rfl,hgm,htn,HR,HTL⟩:=hrel;by_cases hgl:g<m
           ·
            obtain⟨a,ha⟩:∃a,X.d.arcs[g]? =some a:=⟨X.d.arcs[g]'(by rw[HM'.out];exact hgl),List.getElem?_eq_getElem _⟩;have HTJ:Hid (X.d.arcs.take (g+1)=X.d.arcs.take g++[a]):=by show _=_;rw[List.take_add_one,ha];rfl
            have hW:=HS.out.keep (HR.out.bel.mono hB) (Nat.le_refl _);obtain⟨ab,aoff,hxA,hab,hac⟩:=(hW.arcs HXM.out).at_ (by rw[HM'.out];omega);obtain⟨a0,a1,a2⟩:=hac g a ha;have habw:ab<wr.heap.size:=Nat.lt_of_lt_of_le hab (Nat.le_trans hB HR.out.bel.size);obtain⟨lo,hi,tt⟩:=a;simp only at a0 a1 a2;rw[hxA];have HR1:=Lib.hid (HR.out.keep (bnew (za0 wr) (.cells #[.int .i64 lo,.int .i64 hi,.int .i64 tt] 76)));have HY1:=Lib.hid (heap_alloc_new wr (.cells #[.int .i64 lo,.int .i64 hi,.int .i64 tt] 76));clear hac ha hW;go_wp2_with fail;have hyl:=(Array.getElem?_eq_some_iff.1 HY1.out).1;have hCo:(wr.alloc (.cells #[.int .i64 lo,.int .i64 hi,.int .i64 tt] 76)).ownsRow w.heap.size 3 1 (.slice (some ⟨cg,0,none⟩) n9 c9) n9 (C.map (.int .i64)):=by
             rw[←HCL.out];exact HR1.out.fam.own ⟨some ⟨cg,0,none⟩,c9,C⟩ (by simp)
            have hcgl:=(zb3 hCo).2.1;have y0:=cell_of_row _ wr.heap.size 0 _ _ (0,0) HY1.out;have y1:=cell_of_row _ wr.heap.size 1 _ _ (0,0) HY1.out;have y2:=cell_of_row _ wr.heap.size 2 _ _ (0,0) HY1.out;have z0:=zak (j:=k) (u:=.int .i64 (b:Int)) hCo (by rw[List.getElem?_map,HCB.out];rfl);have HTO:Hid ((wr.alloc (.cells #[.int .i64 lo,.int .i64 hi,.int .i64 tt] 76)).ownsRow w.heap.size 3 1 (.slice Ta tn tc) tn (T.map (.int .i64))):=by
             rw[←HTL.out.1];exact HR1.out.fam.own ⟨Ta,tc,T⟩ (List.mem_cons_self ..)
            have HBL1:=Lib.hid HR1.out.bel;have hbs1:=HR1.out.bel.size;have i5:(0:Int)≤(k:Int):=by omega
            have i6:(k:Int)<(n9:Int):=by omega
            have HTS:Hid (toL ((Ls.take j).flatMap (·.l)++X.d.arcs.take (g+1)) b=T++(if lo≤(b:Int)∧(b:Int)≤hi then[tt]else[])):=by
             show _=_;rw[HTJ.out,←List.append_assoc,zBe,←HTL.out.2]
            clear HR a0 a1 a2 habw hCo;generalize wr.alloc (.cells #[.int .i64 lo,.int .i64 hi,.int .i64 tt] 76)=W1 at*;generalize wr.heap.size=pa at*;simp at y0 y1 y2
            by_cases c1:lo≤(b:Int)
            ·have p1:decide (lo≤(b:Int))=true:=decide_eq_true c1;by_cases c2:(b:Int)≤hi
             ·have p2:decide ((b:Int)≤hi)=true:=decide_eq_true c2;rw[if_pos ⟨c1,c2⟩]at HTS;clear c1 c2;go_region
              have HTO2:=Lib.hid (za2 HTO.out (za0 W1).drew);have HBL2:=Lib.hid (HBL1.out.drew);go_wp2_with (at_builtin;refine zab w W1.drew _ rfl _ _ _ rfl zf3 _ _ _ rfl HTO2.out rfl (by simp) rfl (by simp[Value.oneCell']) (by unfold maxLen;omega) (by omega) hbs1 HBL2.out ?_;intro v9 w9 hown9 _ hg9 hor9;obtain⟨A8,c8,rfl,_⟩:=za1 hown9;have HO9:=Lib.hid hown9;have HG9:=Lib.hid hg9;have HOR9:=Lib.hid hor9;clear hown9 hg9 hor9)
              have HVT:Hid ((Rw.mk Ta tc T).val=.slice Ta tn tc):=by show Value.slice _ _ _=_;rw[HTL.out.1]
              have HLN:Hid ((T++[tt]).length=tn+1):=by show _=_;rw[List.length_append,HTL.out.1];rfl
              have HVN:Hid ((Rw.mk A8 c8 (T++[tt])).val=.slice A8 (tn+1) c8):=by show Value.slice _ _ _=_;rw[HLN.out]
              have HR9:=Lib.hid ((HR1.out.keep (za0 W1).drew).growE (y:=⟨A8,c8,T++[tt]⟩) HT.out (by rw[HVT.out];exact HG9.out) (by
               show World.ownsRow _ _ _ _ (.slice _ _ _) _ _;rw[HLN.out,List.map_append];exact HO9.out) (by rw[HVT.out,HVN.out];exact HOR9.out))
              have HTN:Hid ((T++[tt]).length=tn+1∧T++[tt]=toL ((Ls.take j).flatMap (·.l)++X.d.arcs.take (g+1)) b):=⟨HLN.out,HTS.out.symm⟩;clear HO9 HG9 HOR9 HTO HTO2 HR1 HY1;go_wp2_with fail;go_roundw;case rel=>exact⟨g+1,c8,tn+1,A8,T++[tt],by go_num,rfl,by omega,by omega,HR9,HTN⟩
              case measure=>simp[intOf];omega
             ·have p2:decide ((b:Int)≤hi)=false:=decide_eq_false c2;have HTN:Hid (T.length=tn∧T=toL ((Ls.take j).flatMap (·.l)++X.d.arcs.take (g+1)) b):=⟨HTL.out.1,by rw[HTS.out,if_neg (fun h=>c2 h.2),List.append_nil]⟩;have HR2:=Lib.hid (HR1.out.keep (za0 W1).drew);clear c1 c2 HTO HTS;go_region
              go_wp2_with fail;go_roundw;case rel=>exact⟨g+1,tc,tn,Ta,T,by go_num,rfl,by omega,by omega,HR2,HTN⟩
              case measure=>simp[intOf];omega
            ·have p1:decide (lo≤(b:Int))=false:=decide_eq_false c1;have HTN:Hid (T.length=tn∧T=toL ((Ls.take j).flatMap (·.l)++X.d.arcs.take (g+1)) b):=⟨HTL.out.1,by rw[HTS.out,if_neg (fun h=>c1 h.1),List.append_nil]⟩;have HR2:=Lib.hid (HR1.out.keep (za0 W1).drew);clear c1 HTO HTS;go_region
             go_wp2_with fail;go_roundw;case rel=>exact⟨g+1,tc,tn,Ta,T,by go_num,rfl,by omega,by omega,HR2,HTN⟩
             case measure=>simp[intOf];omega
           ·obtain rfl:m=g:=by omega
            have HTN:Hid (T.length=tn∧T=toL ((Ls.take (j+1)).flatMap (·.l)) b):=by
             refine⟨HTL.out.1,?_⟩;rw[HTK.out,HTL.out.2];have htk:X.d.arcs.take m=X.d.arcs:=List.take_of_length_le (by rw[HM'.out];exact Nat.le_refl _);rw[htk]
            clear HTL;go_wp2_with fail;go_roundw;case rel=>exact⟨j+1,tc,tn,Ta,T,by go_num,rfl,by omega,by omega,HR,HTN⟩
            case measure=>simp[intOf];omega
         ·obtain rfl:q=j:=by omega
          have hall:Ls.take q=Ls:=List.take_of_length_le (by rw[HLS.out.1];exact Nat.le_refl _);rw[hall]at HTL;have HTM:Hid (∀z,z∈T↔∃y∈x.l,∃a∈ze4 l y,a.1≤(b:Int)∧(b:Int)≤a.2.1∧a.2.2=z):=fun z=>by
           rw[HTL.out.2];exact zGk HLS.out.2.1
          have HTP:Hid (∀z∈T,0≤z∧z<(n:Int)):=fun z hz=>by
           obtain⟨y,hy,a,ha,_,_,e⟩:=(HTM.out z).1 hz;unfold ze4 at ha;cases hly:l[y.toNat]? with
           |none=>rw[hly]at ha;cases ha
           |
            some s=>
            rw[hly]at ha;have h1:=HG.out.arc s (by rw[HD.out];exact List.mem_of_getElem? hly) a ha;rw[List.length_map,hln,e]at h1;exact h1.2.2.2
          have HSS:Hid ((subW l).step x.l b=if T=[]then none else some (setL n (Clo l fun x=>((x:Nat):Int)∈T))):=by
           have h1:=z3a HTM.out (fun z hz=>(HTP.out z hz).1);rw[HLL.out]at h1;exact h1
          obtain⟨mm,hmm⟩:∃mm,v=b+(mm+1):=⟨v-b-1,by omega⟩;have HRG:Hid (∀c,b≤c→c<b+(mm+1)→(subW l).step x.l c=(subW l).step x.l b):=fun c h1 h2=>HCP.out.same HCB.out HCV.out h1 (by omega)
          have HMM:=Lib.hid hmm;clear hall hmm;by_cases ht0:tn=0
          ·subst ht0;have hT0:T=[]:=List.eq_nil_of_length_eq_zero HTL.out.1;have HMN:Hid (MidP (subW l) (finS l) (fun _=>false) S0 i M0 x.l v (S.map (·.l)) arcs (finS l x.l) (hs.map (·.d))):=by
            rw[HMM.out];exact HMD.out.skip (zda l) HRG.out (by rw[HSS.out,if_pos hT0])
           have HR2:=Lib.hid HR.out.dropE;clear hT0 HTL HR;go_wp2_with fail;go_roundw;case rel=>exact⟨k+1,ns,cs,ct,tg,na,ca,v,As,At,Aa,N,hs,S,arcs,by go_num,rfl,by omega,by omega,by omega,hin2,HCV,HR2,HMN,HIN⟩
           case measure=>simp[intOf];omega
          ·have hTn:T≠[]:=fun e=>ht0 (by rw[←HTL.out.1,e];rfl)
           have q3:decide ((tn:Int)>0)=true:=decide_eq_true (by omega);have q4:decide (tn>0)=true:=decide_eq_true (by omega);have q5:decide (0<tn)=true:=decide_eq_true (by omega);rw[if_neg hTn]at HSS;obtain⟨Z,hZ⟩:∃Z,setL n (Clo l fun x=>((x:Nat):Int)∈T)=Z:=⟨_,rfl⟩;have HZ:=Lib.hid hZ;rw[hZ]at HSS;have hCo:wr.ownsRow w.heap.size 3 1 (.slice (some ⟨cg,0,none⟩) n9 c9) n9 (C.map (.int .i64)):=by
            rw[←HCL.out];exact HR.out.fam.own ⟨some ⟨cg,0,none⟩,c9,C⟩ (by simp)
           have hcgl:=(zb3 hCo).2.1;have HCC:Hid (∀W:World,W.ownsRow w.heap.size 3 1 (.slice (some ⟨cg,0,none⟩) n9 c9) n9 (C.map (.int .i64))→W.cell? ⟨cg,k,none⟩=some (.int .i64 (b:Int))∧W.cell? ⟨cg,k+1,none⟩=some (.int .i64 (v:Int))):=fun W hW=>
            ⟨zak (j:=k) (u:=.int .i64 (b:Int)) hW (by rw[List.getElem?_map,HCB.out];rfl),zak (j:=k+1) (u:=.int .i64 (v:Int)) hW (by rw[List.getElem?_map,HCV.out];rfl)⟩
           have HS0':=Lib.hid (HCC.out wr hCo);have i5:(0:Int)≤(k:Int):=by omega
           have i6:(k:Int)<(n9:Int):=by omega
           have i7:IntKind.i64.wrap ((k:Int)+1)=(k:Int)+1:=IntWalk.i64_in _ (by omega);have i8:IntKind.i64.wrap ((v:Int)-1)=(v:Int)-1:=IntWalk.i64_in _ (by omega);have i9:(0:Int)≤(k:Int)+1:=by omega
           have i10:(k:Int)+1<(n9:Int):=by omega
           clear hTn hZ hCo;have HZB:Hid (∀z∈Z,0≤z∧z<(n:Int)):=fun z hz=>by
            rw[←HZ.out]at hz;obtain⟨y,h1,h2,_⟩:=zd6.1 hz;omega
           have HZN:Hid (Z.length≤n):=by rw[←HZ.out];exact zt9 _ _
           have HTO:Hid (∀W,TiG w W p As ns cs At ct kb N ⟨.slice Aa na ca,na,zaa arcs⟩ hs S [⟨Ta,tc,T⟩,⟨some ⟨cg,0,none⟩,c9,C⟩] ⟨.slice La q lc,q,Ls.map Ash.val⟩→W.ownsRow w.heap.size 3 1 (.slice Ta tn tc) tn (T.map (.int .i64))):=fun W hW=>by
            rw[←HTL.out.1];exact hW.fam.own ⟨Ta,tc,T⟩ (List.mem_cons_self ..)
           have HFREE:Hid (∀W,TiG w W p As ns cs At ct kb N ⟨.slice Aa na ca,na,zaa arcs⟩ hs S [⟨Ta,tc,T⟩,⟨some ⟨cg,0,none⟩,c9,C⟩] ⟨.slice La q lc,q,Ls.map Ash.val⟩→Calls Tryz.prog 78 #[.slice A n c,.slice Ta tn tc] W fun e w10=>∃A10 q10 c10,e=.returned (.slice A10 q10 c10)∧Z.length=q10∧TiG w w10 p As ns cs At ct kb N ⟨.slice Aa na ca,na,zaa arcs⟩ hs S [⟨A10,c10,Z⟩,⟨some ⟨cg,0,none⟩,c9,C⟩] ⟨.slice La q lc,q,Ls.map Ash.val⟩):=fun W hW=>by
            refine(z1e W B (Nat.le_trans hB hW.bel.size) A n c H (HS.out.keep (hW.bel.mono hB) (Nat.le_refl _)) hn HG.out w.heap.size hB Ta tn tc T (HTO.out _ hW) (by omega) HTP.out).mono ?_;rintro e w10 ⟨A10,q10,c10,rfl,hown10,hg10⟩;rw[HD.out,HZ.out]at hown10;have hq10:Z.length=q10:=by
             have h1:=hown10.1;rw[List.length_map]at h1;omega
            refine⟨A10,q10,c10,rfl,hq10,hW.useE HT.out (by
             show World.grownBy _ _ (Value.slice _ _ _).ownBlock;rw[HTL.out.1];exact hg10) (by
             show World.ownsRow _ _ _ _ (.slice _ _ _) _ _;rw[hq10];exact hown10)⟩
           have HSTA:Hid (∀W A10 q10 c10,Z.length=q10→TiG w W p As ns cs At ct kb N ⟨.slice Aa na ca,na,zaa arcs⟩ hs S [⟨A10,c10,Z⟩,⟨some ⟨cg,0,none⟩,c9,C⟩] ⟨.slice La q lc,q,Ls.map Ash.val⟩→Calls Tryz.prog 31 #[.pointer (some ⟨p,0,none⟩),.slice A10 q10 c10,.bool false] W fun e w11=>∃i11:Nat,e=.returned (.int .i64 (i11:Int))∧
             ∃ns' cs' ct' As' At' N' hs' S',TiG w w11 p As' ns' cs' At' ct' kb N' ⟨.slice Aa na ca,na,zaa arcs⟩ hs' S' [⟨some ⟨cg,0,none⟩,c9,C⟩] ⟨.slice La q lc,q,Ls.map Ash.val⟩∧
              ((ze2 Z (S.map (·.l))=some i11∧ns'=ns∧hs'=hs∧S'=S)∨(ze2 Z (S.map (·.l))=none∧i11=ns∧ns'=ns+1∧hs'=hs++[⟨(false,[]),none,0⟩]∧S'=S++[⟨A10,c10,Z⟩]))):=fun W A10 q10 c10 hq10 hW=>by
            refine(zjk W w.heap.size p As ns cs At ct kb N _ hs S hW.mr (by omega) hW.tab HT.out.lt ⟨A10,c10,Z⟩ q10 hq10 (Fam.tail' (F:=[⟨some ⟨cg,0,none⟩,c9,C⟩]) (Fam.turn' (F:=[⟨some ⟨cg,0,none⟩,c9,C⟩]) hW.fam)) (by have h2:=HZN.out;omega) (fun z hz=>by have:=HZB.out z hz;omega) false).mono ?_;rintro e w11 ⟨i11,rfl,hk11,ht11,hcase⟩;refine⟨i11,rfl,?_⟩;rcases hcase with⟨h1,h2⟩|⟨h1,h2,As',cs',At',ct',N',h3⟩
            ·exact⟨ns,cs,ct,As,At,N,hs,S,hW.old hk11 ht11 h2,.inl ⟨h1,rfl,rfl,rfl⟩⟩
            ·exact⟨ns+1,cs',ct',As',At',N',_,_,hW.new hk11 ht11 h3,.inr ⟨h1,h2,rfl,rfl,rfl⟩⟩
           have HAO:Hid (arcs.length=na):=HIN.out.2.2.2.1;have HAH:Hid (∀a∈arcs,0≤a.2.1∧a.2.1≤256):=HIN.out.2.2.2.2;go_wp2_with fail;go_region_held3 (fun w'=>w'.cell? ⟨cg,k,none⟩=some (.int .i64 (b:Int))∧w'.cell? ⟨cg,k+1,none⟩=some (.int .i64 (v:Int)))
            (first
             |assumption
             |exact HS0'.out
             |exact HS10.out
             |exact HS11.out
             |exact HS12.out)
            (first
             |(
               go_at_call 78
               refine(HFREE.out _ (HR.out.keep (by repeat(first|exact za0 _|refine Below.drew ?_)))).mono ?_;rintro e w10 ⟨A10,q10,c10,rfl,hq10,hr10⟩;have HQ10:=Lib.hid hq10;have HR10:=Lib.hid hr10;have HS10:=Lib.hid (HCC.out w10 (by rw[←HCL.out];exact hr10.fam.own ⟨some ⟨cg,0,none⟩,c9,C⟩ (by simp)));clear hq10 hr10)
             |(
               go_at_call 31
               refine(HSTA.out _ A10 q10 c10 HQ10.out (HR10.out.keep (by repeat(first|exact za0 _|refine Below.drew ?_)))).mono ?_;rintro e w11 ⟨i11,rfl,ns',cs',ct',As',At',N',hs',S',hr11,hca11⟩;have HR11:=Lib.hid hr11;have HCA:=Lib.hid hca11;have HS11:=Lib.hid (HCC.out w11 (by rw[←HCL.out];exact hr11.fam.own ⟨some ⟨cg,0,none⟩,c9,C⟩ (by simp)));have HCU:Hid (w11.ownsRow w.heap.size 76 3 (.slice Aa na ca) na (zaa arcs)):=hr11.mr.g.arcs.own _ (List.mem_cons_self ..);clear hr11 hca11)
             |(
               go_at_call 32
               refine(zn6 _ w.heap.size (by exact HR11.out.bel.size) Aa na ca arcs (by exact HCU.out) (by omega) (b:Int) ((v:Int)-1) (i11:Int) ⟨by omega,by omega⟩ HAH.out).mono ?_;rintro e w12 ⟨v12,rfl,hown12,hg12,hm12⟩;have HO12:=Lib.hid hown12;have HG12:Hid (w11.grownBy w12 (Value.slice Aa na ca).ownBlock):=⟨hg12.os,hg12.tape,hg12.output,hg12.size,hg12.block⟩;have HM12:Hid (v12.ownBlock=(Value.slice Aa na ca).ownBlock∨∃g,v12.ownBlock=some g∧w11.heap.size≤g):=hm12;have HR12:Hid (TiG w w12 p As' ns' cs' At' ct' kb N' ⟨v12,(zbf arcs ((b:Int),(v:Int)-1,(i11:Int))).length,zaa (zbf arcs ((b:Int),(v:Int)-1,(i11:Int)))⟩ hs' S' [⟨some ⟨cg,0,none⟩,c9,C⟩] ⟨.slice La q lc,q,Ls.map Ash.val⟩):=HR11.out.growC HT.out HG12.out HO12.out HM12.out;have HS12:=Lib.hid (HCC.out w12 (by rw[←HCL.out];exact HR12.out.fam.own ⟨some ⟨cg,0,none⟩,c9,C⟩ (by simp)));clear hown12 hg12 hm12))
           all_goals
            obtain⟨Ac,cac,rfl,_⟩:=za1 HO12.out;have HNA:Hid ((zbf arcs ((b:Int),(v:Int)-1,(i11:Int))).length≤k+1):=by
             have h1:=zp1 arcs ((b:Int),(v:Int)-1,(i11:Int));have h2:=HAO.out;show _≤_;omega
            have HAN:Hid (∀a∈zbf arcs ((b:Int),(v:Int)-1,(i11:Int)),0≤a.2.1∧a.2.1≤256):=zu7 (P:=fun z=>0≤z∧z≤256) HAH.out (by show 0≤(v:Int)-1∧(v:Int)-1≤256;omega);have hbm:((b+mm:Nat):Int)=(v:Int)-1:=by have:=HMM.out;omega
            have HFIN:Hid (ns'≤20000+(k+1)∧i<ns'∧MidP (subW l) (finS l) (fun _=>false) S0 i M0 x.l v (S'.map (·.l)) (zbf arcs ((b:Int),(v:Int)-1,(i11:Int))) (finS l x.l) (hs'.map (·.d))∧(∀s∈S',s.l.length≤n∧∀x∈s.l,0≤x∧x<(n:Int))∧(∀k,i+1≤k→k<ns'→hs'[k]? =some ⟨(false,[]),none,0⟩)∧hs'[i]? =some ⟨(finS l x.l,[]),none,0⟩):=by
             rcases HCA.out with⟨hq,rfl,rfl,rfl⟩|⟨hq,rfl,rfl,rfl,rfl⟩
             ·have h1:=HMD.out.old (zda l) HRG.out HSS.out hq;rw[hbm,←HMM.out]at h1;exact⟨by omega,hin2,h1,HIN.out.1,HIN.out.2.1,HIN.out.2.2.1⟩
             ·have h1:=HMD.out.new (zda l) HRG.out HSS.out hq;rw[hbm,←HMM.out,List.length_map,HR.out.mr.sl]at h1;refine⟨by omega,by omega,?_,fun s hs=>?_,fun k' h2 h3=>?_,?_⟩
              ·rw[List.map_append,List.map_append];exact h1
              ·rcases List.mem_append.1 hs with hs|hs
               ·exact HIN.out.1 s hs
               ·rw[List.mem_singleton.1 hs];exact⟨HZN.out,HZB.out⟩
              ·by_cases hk':k'<i11
               ·rw[List.getElem?_append_left (by rw[HR.out.mr.hl];exact hk')];exact HIN.out.2.1 k' h2 hk'
               ·obtain rfl:k'=i11:=by omega
                rw[List.getElem?_append_right (by rw[HR.out.mr.hl];exact Nat.le_refl _),HR.out.mr.hl,Nat.sub_self];rfl
              ·rw[List.getElem?_append_left (by rw[HR.out.mr.hl];exact hin2)];exact HIN.out.2.2.1
            clear HR10 HR11 HCA HO12 HG12 HM12 HCU HS10 HS11 HS12 HS0' HFREE HSTA HTO HR;go_wp2_with fail;go_roundw;case rel=>exact⟨k+1,ns',cs',ct',0,_,cac,v,As',At',Ac,N',hs',S',_,by go_num,rfl,by omega,HFIN.out.1,HNA.out,HFIN.out.2.1,HCV,HR12,HFIN.out.2.2.1,HFIN.out.2.2.2.1,HFIN.out.2.2.2.2.1,HFIN.out.2.2.2.2.2,rfl,HAN.out⟩
            case measure=>simp[intOf];omega
       ·obtain rfl:n9=k+1:=by omega
        have hb256:b=256:=by
         have h1:=HCP.out.last;rw[HCL.out,Nat.add_sub_cancel,HCB.out]at h1;injection h1 with h1
         omega
        subst hb256;obtain⟨m0,m1,m2⟩:=HR.out.mr.g.cells;have hpl:=HR.out.mr.g.lt;obtain⟨sg2,rfl,hsgb2,hsgl2⟩:=zah HR.out.mr.g.st (by omega);have hcs2:ns≤cs:=by
         obtain⟨A1,c1,e1,h1⟩:=za1 HR.out.mr.g.st;injection e1 with _ _ e1
         omega
        have hsz:=zo6 (j:=1) (u:=.slice none 0 0) HR.out.mr.g.st HIN.out.2.2.1 rfl (by omega);have HNL:Hid (arcs.length=na):=HIN.out.2.2.2.1;have HPL:Hid (GFam wr w.heap.size 76 3 (GRow.nil::(hs.set i ⟨(finS l x.l,arcs),Aa,ca⟩).map Sh.row)):=by
         have h1:=HR.out.mr.g.arcs.place (i:=i) (by rw[List.getElem?_map,HIN.out.2.2.1];rfl);have h2:(hs.set i (⟨(finS l x.l,arcs),Aa,ca⟩:Sh)).map Sh.row=(hs.map Sh.row).set i ⟨.slice Aa na ca,na,zaa arcs⟩:=by
          rw[List.map_set];congr 1
          unfold Sh.row;simp only[HNL.out]
         show GFam _ _ _ _ _;rw[h2];exact h1
        have HSE:=Lib.hid (HR.out.setS (j:=1) (v:=.slice Aa na ca) HT.out rfl HIN.out.2.2.1 (by omega) (y:=⟨(finS l x.l,arcs),Aa,ca⟩) (by unfold Sh.hdr;simp only[HNL.out];rfl) HPL.out);have hfz:=HSE.out.2.1;have hsl2:=HSE.out.2.2;have HRN:Hid (TiG w (wr.setCell ⟨sg2,i*2+1,none⟩ (.slice Aa na ca)) p (some ⟨sg2,0,none⟩) ns cs At ct kb N GRow.nil (hs.set i ⟨(finS l x.l,arcs),Aa,ca⟩) S [] GRow.nil):=HSE.out.1.dropE.newL;have HMN:Hid (MadeP (subW l) (finS l) (fun _=>false) S0 (i+1) (S.map (·.l)) ((hs.set i ⟨(finS l x.l,arcs),Aa,ca⟩).map (·.d))):=by
         rw[List.map_set];exact HMD.out.leave (zda l) (by rw[HM0.out];exact HP.out)
        have HIN':Hid ((∀s∈S,s.l.length≤n∧∀x∈s.l,0≤x∧x<(n:Int))∧∀k,i+1≤k→k<ns→(hs.set i ⟨(finS l x.l,arcs),Aa,ca⟩)[k]? =some ⟨(false,[]),none,0⟩):=⟨HIN.out.1,fun k' h1 h2=>by
         rw[List.getElem?_set,if_neg (by omega)];exact HIN.out.2.1 k' h1 h2⟩
        have i5:(0:Int)≤(i:Int):=by omega
        have i6:(i:Int)<(ns:Int):=by omega
        clear HR HMD HSE HPL HIN;go_wp2_with fail;go_roundw;case rel=>exact⟨i+1,ns,cs,ct,_,At,N,_,S,by go_num,by omega,by omega,.inr (by have:=HMO.out;omega),HRN,HMN,HIN'⟩
        case measure=>simp[intOf];omega
  ·obtain rfl:ns=i:=by omega
   have hml:(S.map (·.l)).length=ns:=by rw[List.length_map];exact HR.out.mr.sl
   have hns1:1≤ns:=by
    have h1:=zeb (subW l) S0 ns;rw[←HP.out.run]at h1;have:=(List.getElem?_eq_some_iff.1 h1).1;omega
   have hnm:(ns:Int)≤most:=by
    rcases HI0.out with h1|h1
    ·omega
    ·exact h1
   have HGD:=Lib.hid (HP.out.good (zda l) hml.symm (by omega));have HLQ:=Lib.hid (HP.out.leq (zda l) hml.symm);have HFF:Hid (∀f,(((subW l).run f 0 [S0]).length:Nat)≤most):=fun f=>by
    have h1:=(HP.out.last (zda l) hml.symm).2.2 f;omega
   have HOS:Hid (OwnSts wr w.heap.size (.slice As ns cs) hs):=⟨by rw[HR.out.mr.hl];exact HR.out.mr.g.st,HR.out.mr.g.arcs.tail⟩;have HSI:=Lib.hid (HOS.out.sts HR.out.mr.hl (by omega) (fun x hx=>by
    have h1:=HGD.out.asc x.d (List.mem_map_of_mem hx);have:=asc_few h1;omega))
   have HTW:=Lib.hid HR.out.tab;have HBW:=Lib.hid HR.out.bel;have HDN:Hid ((hs.map (·.d)).length=ns):=by show _=_;rw[List.length_map];exact HR.out.mr.hl
   clear hml HI0 HIN HP HR;go_wp2_with fail;refine(zs3 wr wr.heap.size (Nat.le_refl _) As ns cs hs HSI.out (by omega) HGD.out HTW.out).mono ?_;rintro e w9 ⟨v9,hs9,rfl,hown9,hl9,hle9,hb9⟩;have HO9:=Lib.hid hown9;have HL9:=Lib.hid hl9;have HB9:=Lib.hid hb9;clear hown9 hl9 hb9;go_wp2_with fail;go_ret2;exact .inr ⟨HFF.out,v9,hs9,hs.map (·.d),rfl,⟨own_lower HO9.out.out HBW.out.size,fun z hz=>own_lower (HO9.out.fam.own z hz) HBW.out.size,HO9.out.fam.ap⟩,HL9.out,HLQ.out,by rw[HDN.out];exact hle9,by rw[HDN.out];omega,za9 HBW.out HB9.out⟩
end
end Go.Proofs.YtaociahafamncaaGreatDoor
