/- Folded. -/
import Derived.Test.YtaociahafamncaaGreatDoorHM36
set_option maxRecDepth 100000
set_option maxHeartbeats 40000000
set_option linter.unusedVariables false
namespace Go.Proofs.YtaociahafamncaaGreatDoor
section
open Go.RowKit
open Sp
theorem zqg(w:World)(a:UInt8)(A:Int)(ha:(a.toNat:Int)=A)(h1:224≤A)(h2:A<240):
  Calls Tryz.prog 84 #[.string ⟨([a]).toArray⟩] w fun e w'=>e=.returned (.tuple #[.int .i64 0,.int .i64 0])∧w'=w:=by
 have hz0:=zd2 a [] (by show 0<([a]).toArray.size;simp);have k0:=zoi ⟨a.toNat,a.toNat_lt⟩;simp only at k0;rw[show((a.toNat%16:Nat):Int)=A-224 by omega,ha]at k0;obtain⟨C0,hC0⟩:∃z,A-224=z:=⟨_,rfl⟩;rw[hC0]at k0;rw[ha]at hz0;clear ha;go_enter Tryz.func84,Tryz.ntmps84
 go_wp2_with fail;go_ret2;exact⟨by simp,rfl⟩
theorem zqf(w:World)(a b:UInt8)(A B:Int)(ha:(a.toNat:Int)=A)(hb:(b.toNat:Int)=B)(h1:224≤A)(h2:A<240):
  Calls Tryz.prog 84 #[.string ⟨([a,b]).toArray⟩] w fun e w'=>e=.returned (.tuple #[.int .i64 0,.int .i64 0])∧w'=w:=by
 have hz0:=zd2 a [b] (by show 0<([a,b]).toArray.size;simp);have hz1:=zei a b [] (by show 1<([a,b]).toArray.size;simp);have k0:=zoi ⟨a.toNat,a.toNat_lt⟩;simp only at k0;rw[show((a.toNat%16:Nat):Int)=A-224 by omega,ha]at k0;obtain⟨C0,hC0⟩:∃z,A-224=z:=⟨_,rfl⟩;rw[hC0]at k0;rw[ha]at hz0;rw[hb]at hz1;clear ha hb;go_enter Tryz.func84,Tryz.ntmps84
 go_wp2_with fail;go_ret2;exact⟨by simp,rfl⟩
theorem zwi(w:World)(a b c:UInt8)(r:List UInt8)(A B C:Int)(ha:(a.toNat:Int)=A)(hb:(b.toNat:Int)=B)(hc:(c.toNat:Int)=C)(h1:224≤A)(h2:A<240)(gz:¬(128≤B∧B≤191)):
  Calls Tryz.prog 84 #[.string ⟨(a::b::c::r).toArray⟩] w fun e w'=>e=.returned (.tuple #[.int .i64 0,.int .i64 0])∧w'=w:=by
 have hz0:=zd2 a (b::c::r) (by show 0<(a::b::c::r).toArray.size;simp);have hz1:=zei a b (c::r) (by show 1<(a::b::c::r).toArray.size;simp);have hz2:=zh6 a b c (r) (by show 2<(a::b::c::r).toArray.size;simp);have k0:=zoi ⟨a.toNat,a.toNat_lt⟩;simp only at k0;rw[show((a.toNat%16:Nat):Int)=A-224 by omega,ha]at k0;obtain⟨C0,hC0⟩:∃z,A-224=z:=⟨_,rfl⟩;rw[hC0]at k0;have p0:=ze5 ⟨b.toNat,b.toNat_lt⟩;simp only at p0;rw[hb]at p0;obtain⟨Z,hZ⟩:∃z,((b.toNat/64*64:Nat):Int)=z:=⟨_,rfl⟩;rw[hZ]at p0;have hne:¬(Z=128):=by omega
 have hnb:(Z==128)=false:=by simp;exact hne
 rw[ha]at hz0;rw[hb]at hz1;rw[hc]at hz2;clear ha hb hc;go_enter Tryz.func84,Tryz.ntmps84
 go_wp2_with fail;refine wp_loop_rounds 1 ?_;rw[rounds_succ];go_wp2_with fail;go_ret2;exact⟨by simp,rfl⟩
theorem zwh(w:World)(a b c:UInt8)(r:List UInt8)(A B C:Int)(ha:(a.toNat:Int)=A)(hb:(b.toNat:Int)=B)(hc:(c.toNat:Int)=C)(h1:224≤A)(h2:A<240)(gb:128≤B∧B≤191)(gz:¬(128≤C∧C≤191)):
  Calls Tryz.prog 84 #[.string ⟨(a::b::c::r).toArray⟩] w fun e w'=>e=.returned (.tuple #[.int .i64 0,.int .i64 0])∧w'=w:=by
 have hz0:=zd2 a (b::c::r) (by show 0<(a::b::c::r).toArray.size;simp);have hz1:=zei a b (c::r) (by show 1<(a::b::c::r).toArray.size;simp);have hz2:=zh6 a b c (r) (by show 2<(a::b::c::r).toArray.size;simp);have k0:=zoi ⟨a.toNat,a.toNat_lt⟩;simp only at k0;rw[show((a.toNat%16:Nat):Int)=A-224 by omega,ha]at k0;obtain⟨C0,hC0⟩:∃z,A-224=z:=⟨_,rfl⟩;rw[hC0]at k0;have p0:=ze5 ⟨b.toNat,b.toNat_lt⟩;have q0:=zfk ⟨b.toNat,b.toNat_lt⟩;simp only at p0 q0;rw[show((b.toNat/64*64:Nat):Int)=128 by omega,hb]at p0;rw[show((b.toNat%64:Nat):Int)=B-128 by omega,hb]at q0;obtain⟨C1,hC1⟩:∃z,C0*64+(B-128)=z:=⟨_,rfl⟩;have r0:bits .or .i64 (C0*64) (B-128)=C1:=by rw[zb4 6 _ _ (by omega) (by omega) (by omega) (by omega) (by omega) (by omega)];exact hC1
 have s0:IntKind.i64.wrap (C0*64)=C0*64:=by rw[IntKind.wrap_i64];omega
 have p1:=ze5 ⟨c.toNat,c.toNat_lt⟩;simp only at p1;rw[hc]at p1;obtain⟨Z,hZ⟩:∃z,((c.toNat/64*64:Nat):Int)=z:=⟨_,rfl⟩;rw[hZ]at p1;have hne:¬(Z=128):=by omega
 have hnb:(Z==128)=false:=by simp;exact hne
 rw[ha]at hz0;rw[hb]at hz1;rw[hc]at hz2;clear ha hb hc;go_enter Tryz.func84,Tryz.ntmps84
 go_wp2_with fail;refine wp_loop_rounds 2 ?_;rw[rounds_succ];go_wp2_with fail;rw[rounds_succ];go_wp2_with fail;go_ret2;exact⟨by simp,rfl⟩
theorem zy8(w:World)(a b c:UInt8)(r:List UInt8)(A B C:Int)(ha:(a.toNat:Int)=A)(hb:(b.toNat:Int)=B)(hc:(c.toNat:Int)=C)(h1:224≤A)(h2:A<240)(gb:128≤B∧B≤191)(gc:128≤C∧C≤191)(V:Int)(hV:(((A-224)*64+(B-128))*64+(C-128))=V)(hl:V<2048):
  Calls Tryz.prog 84 #[.string ⟨(a::b::c::r).toArray⟩] w fun e w'=>e=.returned (.tuple #[.int .i64 0,.int .i64 0])∧w'=w:=by
 have hz0:=zd2 a (b::c::r) (by show 0<(a::b::c::r).toArray.size;simp);have hz1:=zei a b (c::r) (by show 1<(a::b::c::r).toArray.size;simp);have hz2:=zh6 a b c (r) (by show 2<(a::b::c::r).toArray.size;simp);have k0:=zoi ⟨a.toNat,a.toNat_lt⟩;simp only at k0;rw[show((a.toNat%16:Nat):Int)=A-224 by omega,ha]at k0;obtain⟨C0,hC0⟩:∃z,A-224=z:=⟨_,rfl⟩;rw[hC0]at k0;have p0:=ze5 ⟨b.toNat,b.toNat_lt⟩;have q0:=zfk ⟨b.toNat,b.toNat_lt⟩;simp only at p0 q0;rw[show((b.toNat/64*64:Nat):Int)=128 by omega,hb]at p0;rw[show((b.toNat%64:Nat):Int)=B-128 by omega,hb]at q0;obtain⟨C1,hC1⟩:∃z,C0*64+(B-128)=z:=⟨_,rfl⟩;have r0:bits .or .i64 (C0*64) (B-128)=C1:=by rw[zb4 6 _ _ (by omega) (by omega) (by omega) (by omega) (by omega) (by omega)];exact hC1
 have s0:IntKind.i64.wrap (C0*64)=C0*64:=by rw[IntKind.wrap_i64];omega
 have p1:=ze5 ⟨c.toNat,c.toNat_lt⟩;have q1:=zfk ⟨c.toNat,c.toNat_lt⟩;simp only at p1 q1;rw[show((c.toNat/64*64:Nat):Int)=128 by omega,hc]at p1;rw[show((c.toNat%64:Nat):Int)=C-128 by omega,hc]at q1;obtain⟨C2,hC2⟩:∃z,C1*64+(C-128)=z:=⟨_,rfl⟩;have r1:bits .or .i64 (C1*64) (C-128)=C2:=by rw[zb4 6 _ _ (by omega) (by omega) (by omega) (by omega) (by omega) (by omega)];exact hC2
 have s1:IntKind.i64.wrap (C1*64)=C1*64:=by rw[IntKind.wrap_i64];omega
 have hv:C2=V:=by omega
 rw[hv]at r1;clear hv hC2;rw[ha]at hz0;rw[hb]at hz1;rw[hc]at hz2;clear ha hb hc;go_enter Tryz.func84,Tryz.ntmps84
 go_wp2_with fail;refine wp_loop_rounds 3 ?_;rw[rounds_succ];go_wp2_with fail;rw[rounds_succ];go_wp2_with fail;rw[rounds_succ];go_wp2_with fail;go_ret2;exact⟨by simp,rfl⟩
theorem zwg(w:World)(a b c:UInt8)(r:List UInt8)(A B C:Int)(ha:(a.toNat:Int)=A)(hb:(b.toNat:Int)=B)(hc:(c.toNat:Int)=C)(h1:224≤A)(h2:A<240)(gb:128≤B∧B≤191)(gc:128≤C∧C≤191)(V:Int)(hV:(((A-224)*64+(B-128))*64+(C-128))=V)(hl:2048≤V)(hw:zb1 V=false):
  Calls Tryz.prog 84 #[.string ⟨(a::b::c::r).toArray⟩] w fun e w'=>e=.returned (.tuple #[.int .i64 0,.int .i64 0])∧w'=w:=by
 have hz0:=zd2 a (b::c::r) (by show 0<(a::b::c::r).toArray.size;simp);have hz1:=zei a b (c::r) (by show 1<(a::b::c::r).toArray.size;simp);have hz2:=zh6 a b c (r) (by show 2<(a::b::c::r).toArray.size;simp);have k0:=zoi ⟨a.toNat,a.toNat_lt⟩;simp only at k0;rw[show((a.toNat%16:Nat):Int)=A-224 by omega,ha]at k0;obtain⟨C0,hC0⟩:∃z,A-224=z:=⟨_,rfl⟩;rw[hC0]at k0;have p0:=ze5 ⟨b.toNat,b.toNat_lt⟩;have q0:=zfk ⟨b.toNat,b.toNat_lt⟩;simp only at p0 q0;rw[show((b.toNat/64*64:Nat):Int)=128 by omega,hb]at p0;rw[show((b.toNat%64:Nat):Int)=B-128 by omega,hb]at q0;obtain⟨C1,hC1⟩:∃z,C0*64+(B-128)=z:=⟨_,rfl⟩;have r0:bits .or .i64 (C0*64) (B-128)=C1:=by rw[zb4 6 _ _ (by omega) (by omega) (by omega) (by omega) (by omega) (by omega)];exact hC1
 have s0:IntKind.i64.wrap (C0*64)=C0*64:=by rw[IntKind.wrap_i64];omega
 have p1:=ze5 ⟨c.toNat,c.toNat_lt⟩;have q1:=zfk ⟨c.toNat,c.toNat_lt⟩;simp only at p1 q1;rw[show((c.toNat/64*64:Nat):Int)=128 by omega,hc]at p1;rw[show((c.toNat%64:Nat):Int)=C-128 by omega,hc]at q1;obtain⟨C2,hC2⟩:∃z,C1*64+(C-128)=z:=⟨_,rfl⟩;have r1:bits .or .i64 (C1*64) (C-128)=C2:=by rw[zb4 6 _ _ (by omega) (by omega) (by omega) (by omega) (by omega) (by omega)];exact hC2
 have s1:IntKind.i64.wrap (C1*64)=C1*64:=by rw[IntKind.wrap_i64];omega
 have hv:C2=V:=by omega
 rw[hv]at r1;clear hv hC2;have HW:=Lib.hid (zg3 V);rw[hw]at HW;rw[ha]at hz0;rw[hb]at hz1;rw[hc]at hz2;clear ha hb hc;go_enter Tryz.func84,Tryz.ntmps84
 go_wp2_with fail;refine wp_loop_rounds 3 ?_;rw[rounds_succ];go_wp2_with fail;rw[rounds_succ];go_wp2_with fail;rw[rounds_succ];go_wp2_with fail;refine(HW.out _).mono ?_;rintro e w1 ⟨rfl,rfl⟩;go_wp2_with fail;go_ret2;exact⟨by simp,rfl⟩
theorem z4h(w:World)(a b c:UInt8)(r:List UInt8)(A B C:Int)(ha:(a.toNat:Int)=A)(hb:(b.toNat:Int)=B)(hc:(c.toNat:Int)=C)(h1:224≤A)(h2:A<240)(gb:128≤B∧B≤191)(gc:128≤C∧C≤191)(V:Int)(hV:(((A-224)*64+(B-128))*64+(C-128))=V)(hl:2048≤V)(hw:zb1 V=true):
  Calls Tryz.prog 84 #[.string ⟨(a::b::c::r).toArray⟩] w fun e w'=>e=.returned (.tuple #[.int .i64 V,.int .i64 3])∧w'=w:=by
 have hz0:=zd2 a (b::c::r) (by show 0<(a::b::c::r).toArray.size;simp);have hz1:=zei a b (c::r) (by show 1<(a::b::c::r).toArray.size;simp);have hz2:=zh6 a b c (r) (by show 2<(a::b::c::r).toArray.size;simp);have k0:=zoi ⟨a.toNat,a.toNat_lt⟩;simp only at k0;rw[show((a.toNat%16:Nat):Int)=A-224 by omega,ha]at k0;obtain⟨C0,hC0⟩:∃z,A-224=z:=⟨_,rfl⟩;rw[hC0]at k0;have p0:=ze5 ⟨b.toNat,b.toNat_lt⟩;have q0:=zfk ⟨b.toNat,b.toNat_lt⟩;simp only at p0 q0;rw[show((b.toNat/64*64:Nat):Int)=128 by omega,hb]at p0;rw[show((b.toNat%64:Nat):Int)=B-128 by omega,hb]at q0;obtain⟨C1,hC1⟩:∃z,C0*64+(B-128)=z:=⟨_,rfl⟩;have r0:bits .or .i64 (C0*64) (B-128)=C1:=by rw[zb4 6 _ _ (by omega) (by omega) (by omega) (by omega) (by omega) (by omega)];exact hC1
 have s0:IntKind.i64.wrap (C0*64)=C0*64:=by rw[IntKind.wrap_i64];omega
 have p1:=ze5 ⟨c.toNat,c.toNat_lt⟩;have q1:=zfk ⟨c.toNat,c.toNat_lt⟩;simp only at p1 q1;rw[show((c.toNat/64*64:Nat):Int)=128 by omega,hc]at p1;rw[show((c.toNat%64:Nat):Int)=C-128 by omega,hc]at q1;obtain⟨C2,hC2⟩:∃z,C1*64+(C-128)=z:=⟨_,rfl⟩;have r1:bits .or .i64 (C1*64) (C-128)=C2:=by rw[zb4 6 _ _ (by omega) (by omega) (by omega) (by omega) (by omega) (by omega)];exact hC2
 have s1:IntKind.i64.wrap (C1*64)=C1*64:=by rw[IntKind.wrap_i64];omega
 have hv:C2=V:=by omega
 rw[hv]at r1;clear hv hC2;have HW:=Lib.hid (zg3 V);rw[hw]at HW;rw[ha]at hz0;rw[hb]at hz1;rw[hc]at hz2;clear ha hb hc;go_enter Tryz.func84,Tryz.ntmps84
 go_wp2_with fail;refine wp_loop_rounds 3 ?_;rw[rounds_succ];go_wp2_with fail;rw[rounds_succ];go_wp2_with fail;rw[rounds_succ];go_wp2_with fail;refine(HW.out _).mono ?_;rintro e w1 ⟨rfl,rfl⟩;go_wp2_with fail;go_ret2;exact⟨by simp,rfl⟩
end
section
open Go.RowKit
open Sp
theorem zqe(w:World)(a:UInt8)(A:Int)(ha:(a.toNat:Int)=A)(h1:240≤A)(h2:A<248):
  Calls Tryz.prog 84 #[.string ⟨([a]).toArray⟩] w fun e w'=>e=.returned (.tuple #[.int .i64 0,.int .i64 0])∧w'=w:=by
 have hz0:=zd2 a [] (by show 0<([a]).toArray.size;simp);have k0:=zkj ⟨a.toNat,a.toNat_lt⟩;simp only at k0;rw[show((a.toNat%8:Nat):Int)=A-240 by omega,ha]at k0;obtain⟨C0,hC0⟩:∃z,A-240=z:=⟨_,rfl⟩;rw[hC0]at k0;rw[ha]at hz0;clear ha;go_enter Tryz.func84,Tryz.ntmps84
 go_wp2_with fail;go_ret2;exact⟨by simp,rfl⟩
theorem zqd(w:World)(a b:UInt8)(A B:Int)(ha:(a.toNat:Int)=A)(hb:(b.toNat:Int)=B)(h1:240≤A)(h2:A<248):
  Calls Tryz.prog 84 #[.string ⟨([a,b]).toArray⟩] w fun e w'=>e=.returned (.tuple #[.int .i64 0,.int .i64 0])∧w'=w:=by
 have hz0:=zd2 a [b] (by show 0<([a,b]).toArray.size;simp);have hz1:=zei a b [] (by show 1<([a,b]).toArray.size;simp);have k0:=zkj ⟨a.toNat,a.toNat_lt⟩;simp only at k0;rw[show((a.toNat%8:Nat):Int)=A-240 by omega,ha]at k0;obtain⟨C0,hC0⟩:∃z,A-240=z:=⟨_,rfl⟩;rw[hC0]at k0;rw[ha]at hz0;rw[hb]at hz1;clear ha hb;go_enter Tryz.func84,Tryz.ntmps84
 go_wp2_with fail;go_ret2;exact⟨by simp,rfl⟩
theorem zqc(w:World)(a b c:UInt8)(A B C:Int)(ha:(a.toNat:Int)=A)(hb:(b.toNat:Int)=B)(hc:(c.toNat:Int)=C)(h1:240≤A)(h2:A<248):
  Calls Tryz.prog 84 #[.string ⟨([a,b,c]).toArray⟩] w fun e w'=>e=.returned (.tuple #[.int .i64 0,.int .i64 0])∧w'=w:=by
 have hz0:=zd2 a [b,c] (by show 0<([a,b,c]).toArray.size;simp);have hz1:=zei a b [c] (by show 1<([a,b,c]).toArray.size;simp);have hz2:=zh6 a b c [] (by show 2<([a,b,c]).toArray.size;simp);have k0:=zkj ⟨a.toNat,a.toNat_lt⟩;simp only at k0;rw[show((a.toNat%8:Nat):Int)=A-240 by omega,ha]at k0;obtain⟨C0,hC0⟩:∃z,A-240=z:=⟨_,rfl⟩;rw[hC0]at k0;rw[ha]at hz0;rw[hb]at hz1;rw[hc]at hz2;clear ha hb hc;go_enter Tryz.func84,Tryz.ntmps84
 go_wp2_with fail;go_ret2;exact⟨by simp,rfl⟩
theorem zwf(w:World)(a b c d:UInt8)(r:List UInt8)(A B C D:Int)(ha:(a.toNat:Int)=A)(hb:(b.toNat:Int)=B)(hc:(c.toNat:Int)=C)(hd:(d.toNat:Int)=D)(h1:240≤A)(h2:A<248)(gz:¬(128≤B∧B≤191)):
  Calls Tryz.prog 84 #[.string ⟨(a::b::c::d::r).toArray⟩] w fun e w'=>e=.returned (.tuple #[.int .i64 0,.int .i64 0])∧w'=w:=by
 have hz0:=zd2 a (b::c::d::r) (by show 0<(a::b::c::d::r).toArray.size;simp);have hz1:=zei a b (c::d::r) (by show 1<(a::b::c::d::r).toArray.size;simp);have hz2:=zh6 a b c (d::r) (by show 2<(a::b::c::d::r).toArray.size;simp);have hz3:=zsa a b c d (r) (by show 3<(a::b::c::d::r).toArray.size;simp);have k0:=zkj ⟨a.toNat,a.toNat_lt⟩;simp only at k0;rw[show((a.toNat%8:Nat):Int)=A-240 by omega,ha]at k0;obtain⟨C0,hC0⟩:∃z,A-240=z:=⟨_,rfl⟩;rw[hC0]at k0;have p0:=ze5 ⟨b.toNat,b.toNat_lt⟩;simp only at p0;rw[hb]at p0;obtain⟨Z,hZ⟩:∃z,((b.toNat/64*64:Nat):Int)=z:=⟨_,rfl⟩;rw[hZ]at p0;have hne:¬(Z=128):=by omega
 have hnb:(Z==128)=false:=by simp;exact hne
 rw[ha]at hz0;rw[hb]at hz1;rw[hc]at hz2;rw[hd]at hz3;clear ha hb hc hd;go_enter Tryz.func84,Tryz.ntmps84
 go_wp2_with fail;refine wp_loop_rounds 1 ?_;rw[rounds_succ];go_wp2_with fail;go_ret2;exact⟨by simp,rfl⟩
theorem zwe(w:World)(a b c d:UInt8)(r:List UInt8)(A B C D:Int)(ha:(a.toNat:Int)=A)(hb:(b.toNat:Int)=B)(hc:(c.toNat:Int)=C)(hd:(d.toNat:Int)=D)(h1:240≤A)(h2:A<248)(gb:128≤B∧B≤191)(gz:¬(128≤C∧C≤191)):
  Calls Tryz.prog 84 #[.string ⟨(a::b::c::d::r).toArray⟩] w fun e w'=>e=.returned (.tuple #[.int .i64 0,.int .i64 0])∧w'=w:=by
 have hz0:=zd2 a (b::c::d::r) (by show 0<(a::b::c::d::r).toArray.size;simp);have hz1:=zei a b (c::d::r) (by show 1<(a::b::c::d::r).toArray.size;simp);have hz2:=zh6 a b c (d::r) (by show 2<(a::b::c::d::r).toArray.size;simp);have hz3:=zsa a b c d (r) (by show 3<(a::b::c::d::r).toArray.size;simp);have k0:=zkj ⟨a.toNat,a.toNat_lt⟩;simp only at k0;rw[show((a.toNat%8:Nat):Int)=A-240 by omega,ha]at k0;obtain⟨C0,hC0⟩:∃z,A-240=z:=⟨_,rfl⟩;rw[hC0]at k0;have p0:=ze5 ⟨b.toNat,b.toNat_lt⟩;have q0:=zfk ⟨b.toNat,b.toNat_lt⟩;simp only at p0 q0;rw[show((b.toNat/64*64:Nat):Int)=128 by omega,hb]at p0;rw[show((b.toNat%64:Nat):Int)=B-128 by omega,hb]at q0;obtain⟨C1,hC1⟩:∃z,C0*64+(B-128)=z:=⟨_,rfl⟩;have r0:bits .or .i64 (C0*64) (B-128)=C1:=by rw[zb4 6 _ _ (by omega) (by omega) (by omega) (by omega) (by omega) (by omega)];exact hC1
 have s0:IntKind.i64.wrap (C0*64)=C0*64:=by rw[IntKind.wrap_i64];omega
 have p1:=ze5 ⟨c.toNat,c.toNat_lt⟩;simp only at p1;rw[hc]at p1;obtain⟨Z,hZ⟩:∃z,((c.toNat/64*64:Nat):Int)=z:=⟨_,rfl⟩;rw[hZ]at p1;have hne:¬(Z=128):=by omega
 have hnb:(Z==128)=false:=by simp;exact hne
 rw[ha]at hz0;rw[hb]at hz1;rw[hc]at hz2;rw[hd]at hz3;clear ha hb hc hd;go_enter Tryz.func84,Tryz.ntmps84
 go_wp2_with fail;refine wp_loop_rounds 2 ?_;rw[rounds_succ];go_wp2_with fail;rw[rounds_succ];go_wp2_with fail;go_ret2;exact⟨by simp,rfl⟩
theorem zwd(w:World)(a b c d:UInt8)(r:List UInt8)(A B C D:Int)(ha:(a.toNat:Int)=A)(hb:(b.toNat:Int)=B)(hc:(c.toNat:Int)=C)(hd:(d.toNat:Int)=D)(h1:240≤A)(h2:A<248)(gb:128≤B∧B≤191)(gc:128≤C∧C≤191)(gz:¬(128≤D∧D≤191)):
  Calls Tryz.prog 84 #[.string ⟨(a::b::c::d::r).toArray⟩] w fun e w'=>e=.returned (.tuple #[.int .i64 0,.int .i64 0])∧w'=w:=by
 have hz0:=zd2 a (b::c::d::r) (by show 0<(a::b::c::d::r).toArray.size;simp);have hz1:=zei a b (c::d::r) (by show 1<(a::b::c::d::r).toArray.size;simp);have hz2:=zh6 a b c (d::r) (by show 2<(a::b::c::d::r).toArray.size;simp);have hz3:=zsa a b c d (r) (by show 3<(a::b::c::d::r).toArray.size;simp);have k0:=zkj ⟨a.toNat,a.toNat_lt⟩;simp only at k0;rw[show((a.toNat%8:Nat):Int)=A-240 by omega,ha]at k0;obtain⟨C0,hC0⟩:∃z,A-240=z:=⟨_,rfl⟩;rw[hC0]at k0;have p0:=ze5 ⟨b.toNat,b.toNat_lt⟩;have q0:=zfk ⟨b.toNat,b.toNat_lt⟩;simp only at p0 q0;rw[show((b.toNat/64*64:Nat):Int)=128 by omega,hb]at p0;rw[show((b.toNat%64:Nat):Int)=B-128 by omega,hb]at q0;obtain⟨C1,hC1⟩:∃z,C0*64+(B-128)=z:=⟨_,rfl⟩;have r0:bits .or .i64 (C0*64) (B-128)=C1:=by rw[zb4 6 _ _ (by omega) (by omega) (by omega) (by omega) (by omega) (by omega)];exact hC1
 have s0:IntKind.i64.wrap (C0*64)=C0*64:=by rw[IntKind.wrap_i64];omega
 have p1:=ze5 ⟨c.toNat,c.toNat_lt⟩;have q1:=zfk ⟨c.toNat,c.toNat_lt⟩;simp only at p1 q1;rw[show((c.toNat/64*64:Nat):Int)=128 by omega,hc]at p1;rw[show((c.toNat%64:Nat):Int)=C-128 by omega,hc]at q1;obtain⟨C2,hC2⟩:∃z,C1*64+(C-128)=z:=⟨_,rfl⟩;have r1:bits .or .i64 (C1*64) (C-128)=C2:=by rw[zb4 6 _ _ (by omega) (by omega) (by omega) (by omega) (by omega) (by omega)];exact hC2
 have s1:IntKind.i64.wrap (C1*64)=C1*64:=by rw[IntKind.wrap_i64];omega
 have p2:=ze5 ⟨d.toNat,d.toNat_lt⟩;simp only at p2;rw[hd]at p2;obtain⟨Z,hZ⟩:∃z,((d.toNat/64*64:Nat):Int)=z:=⟨_,rfl⟩;rw[hZ]at p2;have hne:¬(Z=128):=by omega
 have hnb:(Z==128)=false:=by simp;exact hne
 rw[ha]at hz0;rw[hb]at hz1;rw[hc]at hz2;rw[hd]at hz3;clear ha hb hc hd;go_enter Tryz.func84,Tryz.ntmps84
 go_wp2_with fail;refine wp_loop_rounds 3 ?_;rw[rounds_succ];go_wp2_with fail;rw[rounds_succ];go_wp2_with fail;rw[rounds_succ];go_wp2_with fail;go_ret2;exact⟨by simp,rfl⟩
end
section
open Go.RowKit
open Sp
theorem zy7(w:World)(a b c d:UInt8)(r:List UInt8)(A B C D:Int)(ha:(a.toNat:Int)=A)(hb:(b.toNat:Int)=B)(hc:(c.toNat:Int)=C)(hd:(d.toNat:Int)=D)(h1:240≤A)(h2:A<248)(gb:128≤B∧B≤191)(gc:128≤C∧C≤191)(gd:128≤D∧D≤191)(V:Int)(hV:((((A-240)*64+(B-128))*64+(C-128))*64+(D-128))=V)(hl:V<65536):
  Calls Tryz.prog 84 #[.string ⟨(a::b::c::d::r).toArray⟩] w fun e w'=>e=.returned (.tuple #[.int .i64 0,.int .i64 0])∧w'=w:=by
 have hz0:=zd2 a (b::c::d::r) (by show 0<(a::b::c::d::r).toArray.size;simp);have hz1:=zei a b (c::d::r) (by show 1<(a::b::c::d::r).toArray.size;simp);have hz2:=zh6 a b c (d::r) (by show 2<(a::b::c::d::r).toArray.size;simp);have hz3:=zsa a b c d (r) (by show 3<(a::b::c::d::r).toArray.size;simp);have k0:=zkj ⟨a.toNat,a.toNat_lt⟩;simp only at k0;rw[show((a.toNat%8:Nat):Int)=A-240 by omega,ha]at k0;obtain⟨C0,hC0⟩:∃z,A-240=z:=⟨_,rfl⟩;rw[hC0]at k0;have p0:=ze5 ⟨b.toNat,b.toNat_lt⟩;have q0:=zfk ⟨b.toNat,b.toNat_lt⟩;simp only at p0 q0;rw[show((b.toNat/64*64:Nat):Int)=128 by omega,hb]at p0;rw[show((b.toNat%64:Nat):Int)=B-128 by omega,hb]at q0;obtain⟨C1,hC1⟩:∃z,C0*64+(B-128)=z:=⟨_,rfl⟩;have r0:bits .or .i64 (C0*64) (B-128)=C1:=by rw[zb4 6 _ _ (by omega) (by omega) (by omega) (by omega) (by omega) (by omega)];exact hC1
 have s0:IntKind.i64.wrap (C0*64)=C0*64:=by rw[IntKind.wrap_i64];omega
 have p1:=ze5 ⟨c.toNat,c.toNat_lt⟩;have q1:=zfk ⟨c.toNat,c.toNat_lt⟩;simp only at p1 q1;rw[show((c.toNat/64*64:Nat):Int)=128 by omega,hc]at p1;rw[show((c.toNat%64:Nat):Int)=C-128 by omega,hc]at q1;obtain⟨C2,hC2⟩:∃z,C1*64+(C-128)=z:=⟨_,rfl⟩;have r1:bits .or .i64 (C1*64) (C-128)=C2:=by rw[zb4 6 _ _ (by omega) (by omega) (by omega) (by omega) (by omega) (by omega)];exact hC2
 have s1:IntKind.i64.wrap (C1*64)=C1*64:=by rw[IntKind.wrap_i64];omega
 have p2:=ze5 ⟨d.toNat,d.toNat_lt⟩;have q2:=zfk ⟨d.toNat,d.toNat_lt⟩;simp only at p2 q2;rw[show((d.toNat/64*64:Nat):Int)=128 by omega,hd]at p2;rw[show((d.toNat%64:Nat):Int)=D-128 by omega,hd]at q2;obtain⟨C3,hC3⟩:∃z,C2*64+(D-128)=z:=⟨_,rfl⟩;have r2:bits .or .i64 (C2*64) (D-128)=C3:=by rw[zb4 6 _ _ (by omega) (by omega) (by omega) (by omega) (by omega) (by omega)];exact hC3
 have s2:IntKind.i64.wrap (C2*64)=C2*64:=by rw[IntKind.wrap_i64];omega
 have hv:C3=V:=by omega
 rw[hv]at r2;clear hv hC3;rw[ha]at hz0;rw[hb]at hz1;rw[hc]at hz2;rw[hd]at hz3;clear ha hb hc hd;go_enter Tryz.func84,Tryz.ntmps84
 go_wp2_with fail;refine wp_loop_rounds 4 ?_;rw[rounds_succ];go_wp2_with fail;rw[rounds_succ];go_wp2_with fail;rw[rounds_succ];go_wp2_with fail;rw[rounds_succ];go_wp2_with fail;go_ret2;exact⟨by simp,rfl⟩
theorem zwc(w:World)(a b c d:UInt8)(r:List UInt8)(A B C D:Int)(ha:(a.toNat:Int)=A)(hb:(b.toNat:Int)=B)(hc:(c.toNat:Int)=C)(hd:(d.toNat:Int)=D)(h1:240≤A)(h2:A<248)(gb:128≤B∧B≤191)(gc:128≤C∧C≤191)(gd:128≤D∧D≤191)(V:Int)(hV:((((A-240)*64+(B-128))*64+(C-128))*64+(D-128))=V)(hl:65536≤V)(hw:zb1 V=false):
  Calls Tryz.prog 84 #[.string ⟨(a::b::c::d::r).toArray⟩] w fun e w'=>e=.returned (.tuple #[.int .i64 0,.int .i64 0])∧w'=w:=by
 have hz0:=zd2 a (b::c::d::r) (by show 0<(a::b::c::d::r).toArray.size;simp);have hz1:=zei a b (c::d::r) (by show 1<(a::b::c::d::r).toArray.size;simp);have hz2:=zh6 a b c (d::r) (by show 2<(a::b::c::d::r).toArray.size;simp);have hz3:=zsa a b c d (r) (by show 3<(a::b::c::d::r).toArray.size;simp);have k0:=zkj ⟨a.toNat,a.toNat_lt⟩;simp only at k0;rw[show((a.toNat%8:Nat):Int)=A-240 by omega,ha]at k0;obtain⟨C0,hC0⟩:∃z,A-240=z:=⟨_,rfl⟩;rw[hC0]at k0;have p0:=ze5 ⟨b.toNat,b.toNat_lt⟩;have q0:=zfk ⟨b.toNat,b.toNat_lt⟩;simp only at p0 q0;rw[show((b.toNat/64*64:Nat):Int)=128 by omega,hb]at p0;rw[show((b.toNat%64:Nat):Int)=B-128 by omega,hb]at q0;obtain⟨C1,hC1⟩:∃z,C0*64+(B-128)=z:=⟨_,rfl⟩;have r0:bits .or .i64 (C0*64) (B-128)=C1:=by rw[zb4 6 _ _ (by omega) (by omega) (by omega) (by omega) (by omega) (by omega)];exact hC1
 have s0:IntKind.i64.wrap (C0*64)=C0*64:=by rw[IntKind.wrap_i64];omega
 have p1:=ze5 ⟨c.toNat,c.toNat_lt⟩;have q1:=zfk ⟨c.toNat,c.toNat_lt⟩;simp only at p1 q1;rw[show((c.toNat/64*64:Nat):Int)=128 by omega,hc]at p1;rw[show((c.toNat%64:Nat):Int)=C-128 by omega,hc]at q1;obtain⟨C2,hC2⟩:∃z,C1*64+(C-128)=z:=⟨_,rfl⟩;have r1:bits .or .i64 (C1*64) (C-128)=C2:=by rw[zb4 6 _ _ (by omega) (by omega) (by omega) (by omega) (by omega) (by omega)];exact hC2
 have s1:IntKind.i64.wrap (C1*64)=C1*64:=by rw[IntKind.wrap_i64];omega
 have p2:=ze5 ⟨d.toNat,d.toNat_lt⟩;have q2:=zfk ⟨d.toNat,d.toNat_lt⟩;simp only at p2 q2;rw[show((d.toNat/64*64:Nat):Int)=128 by omega,hd]at p2;rw[show((d.toNat%64:Nat):Int)=D-128 by omega,hd]at q2;obtain⟨C3,hC3⟩:∃z,C2*64+(D-128)=z:=⟨_,rfl⟩;have r2:bits .or .i64 (C2*64) (D-128)=C3:=by rw[zb4 6 _ _ (by omega) (by omega) (by omega) (by omega) (by omega) (by omega)];exact hC3
 have s2:IntKind.i64.wrap (C2*64)=C2*64:=by rw[IntKind.wrap_i64];omega
 have hv:C3=V:=by omega
 rw[hv]at r2;clear hv hC3;have HW:=Lib.hid (zg3 V);rw[hw]at HW;rw[ha]at hz0;rw[hb]at hz1;rw[hc]at hz2;rw[hd]at hz3;clear ha hb hc hd;go_enter Tryz.func84,Tryz.ntmps84
 go_wp2_with fail;refine wp_loop_rounds 4 ?_;rw[rounds_succ];go_wp2_with fail;rw[rounds_succ];go_wp2_with fail;rw[rounds_succ];go_wp2_with fail;rw[rounds_succ];go_wp2_with fail;refine(HW.out _).mono ?_;rintro e w1 ⟨rfl,rfl⟩;go_wp2_with fail;go_ret2;exact⟨by simp,rfl⟩
theorem z4g(w:World)(a b c d:UInt8)(r:List UInt8)(A B C D:Int)(ha:(a.toNat:Int)=A)(hb:(b.toNat:Int)=B)(hc:(c.toNat:Int)=C)(hd:(d.toNat:Int)=D)(h1:240≤A)(h2:A<248)(gb:128≤B∧B≤191)(gc:128≤C∧C≤191)(gd:128≤D∧D≤191)(V:Int)(hV:((((A-240)*64+(B-128))*64+(C-128))*64+(D-128))=V)(hl:65536≤V)(hw:zb1 V=true):
  Calls Tryz.prog 84 #[.string ⟨(a::b::c::d::r).toArray⟩] w fun e w'=>e=.returned (.tuple #[.int .i64 V,.int .i64 4])∧w'=w:=by
 have hz0:=zd2 a (b::c::d::r) (by show 0<(a::b::c::d::r).toArray.size;simp);have hz1:=zei a b (c::d::r) (by show 1<(a::b::c::d::r).toArray.size;simp);have hz2:=zh6 a b c (d::r) (by show 2<(a::b::c::d::r).toArray.size;simp);have hz3:=zsa a b c d (r) (by show 3<(a::b::c::d::r).toArray.size;simp);have k0:=zkj ⟨a.toNat,a.toNat_lt⟩;simp only at k0;rw[show((a.toNat%8:Nat):Int)=A-240 by omega,ha]at k0;obtain⟨C0,hC0⟩:∃z,A-240=z:=⟨_,rfl⟩;rw[hC0]at k0;have p0:=ze5 ⟨b.toNat,b.toNat_lt⟩;have q0:=zfk ⟨b.toNat,b.toNat_lt⟩;simp only at p0 q0;rw[show((b.toNat/64*64:Nat):Int)=128 by omega,hb]at p0;rw[show((b.toNat%64:Nat):Int)=B-128 by omega,hb]at q0;obtain⟨C1,hC1⟩:∃z,C0*64+(B-128)=z:=⟨_,rfl⟩;have r0:bits .or .i64 (C0*64) (B-128)=C1:=by rw[zb4 6 _ _ (by omega) (by omega) (by omega) (by omega) (by omega) (by omega)];exact hC1
 have s0:IntKind.i64.wrap (C0*64)=C0*64:=by rw[IntKind.wrap_i64];omega
 have p1:=ze5 ⟨c.toNat,c.toNat_lt⟩;have q1:=zfk ⟨c.toNat,c.toNat_lt⟩;simp only at p1 q1;rw[show((c.toNat/64*64:Nat):Int)=128 by omega,hc]at p1;rw[show((c.toNat%64:Nat):Int)=C-128 by omega,hc]at q1;obtain⟨C2,hC2⟩:∃z,C1*64+(C-128)=z:=⟨_,rfl⟩;have r1:bits .or .i64 (C1*64) (C-128)=C2:=by rw[zb4 6 _ _ (by omega) (by omega) (by omega) (by omega) (by omega) (by omega)];exact hC2
 have s1:IntKind.i64.wrap (C1*64)=C1*64:=by rw[IntKind.wrap_i64];omega
 have p2:=ze5 ⟨d.toNat,d.toNat_lt⟩;have q2:=zfk ⟨d.toNat,d.toNat_lt⟩;simp only at p2 q2;rw[show((d.toNat/64*64:Nat):Int)=128 by omega,hd]at p2;rw[show((d.toNat%64:Nat):Int)=D-128 by omega,hd]at q2;obtain⟨C3,hC3⟩:∃z,C2*64+(D-128)=z:=⟨_,rfl⟩;have r2:bits .or .i64 (C2*64) (D-128)=C3:=by rw[zb4 6 _ _ (by omega) (by omega) (by omega) (by omega) (by omega) (by omega)];exact hC3
 have s2:IntKind.i64.wrap (C2*64)=C2*64:=by rw[IntKind.wrap_i64];omega
 have hv:C3=V:=by omega
 rw[hv]at r2;clear hv hC3;have HW:=Lib.hid (zg3 V);rw[hw]at HW;rw[ha]at hz0;rw[hb]at hz1;rw[hc]at hz2;rw[hd]at hz3;clear ha hb hc hd;go_enter Tryz.func84,Tryz.ntmps84
 go_wp2_with fail;refine wp_loop_rounds 4 ?_;rw[rounds_succ];go_wp2_with fail;rw[rounds_succ];go_wp2_with fail;rw[rounds_succ];go_wp2_with fail;rw[rounds_succ];go_wp2_with fail;refine(HW.out _).mono ?_;rintro e w1 ⟨rfl,rfl⟩;go_wp2_with fail;go_ret2;exact⟨by simp,rfl⟩
end
section
open Go.RowKit
open Sp
def zxa(t:List UInt8)(e:Ending):Prop:=(∃(c:Int) (n:Nat),e=.returned (.tuple #[.int .i64 c,.int .i64 (n:Int)])∧0<n∧n≤4∧n≤t.length∧zb1 c=true∧zaf (t.take n)=encN c)∨(e=.returned (.tuple #[.int .i64 0,.int .i64 0])∧∀c,¬Fst1 (zaf t) c)
theorem zxa.yes{t:List UInt8}{e:Ending}{c:Int}{n:Nat}(he:e=.returned (.tuple #[.int .i64 c,.int .i64 (n:Int)]))(h0:0<n)(h4:n≤4)(hn:n≤t.length)(hw:zb1 c=true)(h:zaf (t.take n)=encN c):zxa t e:=.inl ⟨c,n,he,h0,h4,hn,hw,h⟩
theorem za8(a:UInt8)(r:List UInt8):zaf (a::r)=a.toNat::zaf r:=rfl
theorem zbe{t:List UInt8}(h1:∀c:Int,0≤c→c<128→∀r,zaf t=c.toNat::r→False)
  (h2:∀(a b:Nat) r,192≤a→a<224→128≤b→b≤191→128≤((a:Int)-192)*64+(b-128)→zaf t=a::b::r→False)
  (h3:∀(a b d:Nat) r,224≤a→a<240→128≤b→b≤191→128≤d→d≤191→2048≤(((a:Int)-224)*64+(b-128))*64+(d-128)→zb1 ((((a:Int)-224)*64+(b-128))*64+(d-128))=true→zaf t=a::b::d::r→False)
  (h4:∀(a b d e:Nat) r,240≤a→a<248→128≤b→b≤191→128≤d→d≤191→128≤e→e≤191→65536≤((((a:Int)-240)*64+(b-128))*64+(d-128))*64+(e-128)→zb1 (((((a:Int)-240)*64+(b-128))*64+(d-128))*64+(e-128))=true→zaf t=a::b::d::e::r→False):
  ∀c,¬Fst1 (zaf t) c:=by
 rintro c ⟨hw,r,h⟩;have hw2:=hw;rcases zna hw with⟨k0,k1,e⟩|⟨k0,_,a,b,e,k1,k2,k3,k4,rfl⟩|⟨k0,_,a,b,d,e,k1,k2,k3,k4,k5,k6,rfl⟩|⟨k0,_,a,b,d,f,e,k1,k2,k3,k4,k5,k6,k7,k8,rfl⟩<;>rw[e]at h
 ·exact h1 c k0 k1 r h
 ·exact h2 a b r k1 k2 k3 k4 k0 h
 ·exact h3 a b d r k1 k2 k3 k4 k5 k6 k0 hw2 h
 ·exact h4 a b d f r k1 k2 k3 k4 k5 k6 k7 k8 k0 hw2 h
theorem first_any(w:World)(t:List UInt8)(ht:t≠[]):Calls Tryz.prog 84 #[.string ⟨t.toArray⟩] w fun e w'=>zxa t e∧w'=w:=by
 have bad:∀{t:List UInt8},(Calls Tryz.prog 84 #[.string ⟨t.toArray⟩] w fun e w'=>e=.returned (.tuple #[.int .i64 0,.int .i64 0])∧w'=w)→(∀c,¬Fst1 (zaf t) c)→Calls Tryz.prog 84 #[.string ⟨t.toArray⟩] w fun e w'=>zxa t e∧w'=w:=fun h1 h2=>h1.mono fun e w' ⟨h3,h4⟩=>⟨.inr ⟨h3,h2⟩,h4⟩
 have yes:∀{t:List UInt8}{c:Int}{n:Nat}{N:Int},N=(n:Int)→(Calls Tryz.prog 84 #[.string ⟨t.toArray⟩] w fun e w'=>e=.returned (.tuple #[.int .i64 c,.int .i64 N])∧w'=w)→0<n→n≤4→n≤t.length→zb1 c=true→zaf (t.take n)=encN c→Calls Tryz.prog 84 #[.string ⟨t.toArray⟩] w fun e w'=>zxa t e∧w'=w:=fun hN h1 h2 h3 h4 h5 h6=>h1.mono fun e w' ⟨h7,h8⟩=>⟨.inl ⟨_,_,by rw[h7,hN],h2,h3,h4,h5,h6⟩,h8⟩
 match t,ht with
 |
  a::r,_=>
  obtain⟨A,hA⟩:∃A:Int,(a.toNat:Int)=A:=⟨_,rfl⟩;have hlt:=a.toNat_lt;by_cases c1:A<128
  ·refine yes (n:=1) rfl (zIh w a r A hA c1) (by omega) (by omega) (by simp) (zf6 (by omega)) ?_;rw[←hA,zJ1 (by omega)];rfl
  by_cases c2:A<192
  ·refine bad (z99 w a r A hA (by omega) c2) (zbe ?_ ?_ ?_ ?_)<;>intros<;>rename_i h<;>(rw[za8]at h;injection h with h _;omega)
  by_cases c3:248≤A
  ·refine bad (z9a w a r A hA c3) (zbe ?_ ?_ ?_ ?_)<;>intros<;>rename_i h<;>(rw[za8]at h;injection h with h _;omega)
  by_cases c4:A<224
  ·match r with
   |[]=>refine bad (zqh w a A hA (by omega) c4) (zbe ?_ ?_ ?_ ?_)<;>intros<;>rename_i h<;>(simp only[za8,List.cons.injEq]at h;first|omega|(obtain⟨_,h⟩:=h;cases h))
   |
    b::r=>
    obtain⟨B,hB⟩:∃B:Int,(b.toNat:Int)=B:=⟨_,rfl⟩;by_cases g:128≤B∧B≤191
    ·obtain⟨C,hC⟩:∃C,((A-192)*64+(B-128))=C:=⟨_,rfl⟩;by_cases l:C<128
     ·refine bad (zy9 w a b r A B hA hB (by omega) c4 g C hC l) (zbe ?_ ?_ ?_ ?_)<;>intros<;>rename_i h<;>(simp only[za8,List.cons.injEq]at h;omega)
     ·have hw:zb1 C=true:=zf6 (by omega);refine yes (n:=2) rfl (z4i w a b r A B hA hB (by omega) c4 g C hC (by omega) hw) (by omega) (by omega) (by simp) hw ?_;rw[←hC,←hA,←hB,zIk (by omega) (by omega) (by omega) (by omega) (by omega)];rfl
    ·refine bad (zwj w a b r A B hA hB (by omega) c4 g) (zbe ?_ ?_ ?_ ?_)<;>intros<;>rename_i h<;>(simp only[za8,List.cons.injEq]at h;omega)
  by_cases c5:A<240
  ·match r with
   |[]=>refine bad (zqg w a A hA (by omega) c5) (zbe ?_ ?_ ?_ ?_)<;>intros<;>rename_i h<;>(simp only[za8,List.cons.injEq]at h;first|omega|(obtain⟨_,h⟩:=h;cases h))
   |[b]=>refine bad (zqf w a b A _ hA rfl (by omega) c5) (zbe ?_ ?_ ?_ ?_)<;>intros<;>rename_i h<;>(simp only[za8,List.cons.injEq]at h;first|omega|(obtain⟨_,_,h⟩:=h;cases h))
   |
    b::d::r=>
    obtain⟨B,hB⟩:∃B:Int,(b.toNat:Int)=B:=⟨_,rfl⟩;obtain⟨D,hD⟩:∃B:Int,(d.toNat:Int)=B:=⟨_,rfl⟩;by_cases g:128≤B∧B≤191
    ·by_cases g2:128≤D∧D≤191
     ·obtain⟨C,hC⟩:∃C,(((A-224)*64+(B-128))*64+(D-128))=C:=⟨_,rfl⟩;by_cases l:C<2048
      ·refine bad (zy8 w a b d r A B D hA hB hD (by omega) c5 g g2 C hC l) (zbe ?_ ?_ ?_ ?_)<;>intros<;>rename_i h<;>(simp only[za8,List.cons.injEq]at h;omega)
      ·cases hw:zb1 C
       ·refine bad (zwg w a b d r A B D hA hB hD (by omega) c5 g g2 C hC (by omega) hw) (zbe ?_ ?_ ?_ ?_)
        ·intros;rename_i h;simp only[za8,List.cons.injEq]at h;omega
        ·intros;rename_i h;simp only[za8,List.cons.injEq]at h;omega
        ·intro a' b' d' r' _ _ _ _ _ _ _ hw' h
         simp only[za8,List.cons.injEq]at h;have e:(((a':Int)-224)*64+(b'-128))*64+(d'-128)=C:=by omega
         rw[e,hw]at hw';cases hw'
        ·intros;rename_i h;simp only[za8,List.cons.injEq]at h;omega
       ·refine yes (n:=3) rfl (z4h w a b d r A B D hA hB hD (by omega) c5 g g2 C hC (by omega) hw) (by omega) (by omega) (by simp) hw ?_;rw[←hC,←hA,←hB,←hD,z9c (by omega) (by omega) (by omega) (by omega) (by omega) (by omega) (by omega)];rfl
     ·refine bad (zwh w a b d r A B D hA hB hD (by omega) c5 g g2) (zbe ?_ ?_ ?_ ?_)<;>intros<;>rename_i h<;>(simp only[za8,List.cons.injEq]at h;omega)
    ·refine bad (zwi w a b d r A B D hA hB hD (by omega) c5 g) (zbe ?_ ?_ ?_ ?_)<;>intros<;>rename_i h<;>(simp only[za8,List.cons.injEq]at h;omega)
  ·match r with
   |[]=>refine bad (zqe w a A hA (by omega) (by omega)) (zbe ?_ ?_ ?_ ?_)<;>intros<;>rename_i h<;>(simp only[za8,List.cons.injEq]at h;first|omega|(obtain⟨_,h⟩:=h;cases h))
   |[b]=>refine bad (zqd w a b A _ hA rfl (by omega) (by omega)) (zbe ?_ ?_ ?_ ?_)<;>intros<;>rename_i h<;>(simp only[za8,List.cons.injEq]at h;first|omega|(obtain⟨_,_,h⟩:=h;cases h))
   |[b,d]=>refine bad (zqc w a b d A _ _ hA rfl rfl (by omega) (by omega)) (zbe ?_ ?_ ?_ ?_)<;>intros<;>rename_i h<;>(simp only[za8,List.cons.injEq]at h;first|omega|(obtain⟨_,_,_,h⟩:=h;cases h))
   |
    b::d::f::r=>
    obtain⟨B,hB⟩:∃B:Int,(b.toNat:Int)=B:=⟨_,rfl⟩;obtain⟨D,hD⟩:∃B:Int,(d.toNat:Int)=B:=⟨_,rfl⟩;obtain⟨F,hF⟩:∃B:Int,(f.toNat:Int)=B:=⟨_,rfl⟩;by_cases g:128≤B∧B≤191
    ·by_cases g2:128≤D∧D≤191
     ·by_cases g3:128≤F∧F≤191
      ·obtain⟨C,hC⟩:∃C,((((A-240)*64+(B-128))*64+(D-128))*64+(F-128))=C:=⟨_,rfl⟩;by_cases l:C<65536
       ·refine bad (zy7 w a b d f r A B D F hA hB hD hF (by omega) (by omega) g g2 g3 C hC l) (zbe ?_ ?_ ?_ ?_)<;>intros<;>rename_i h<;>(simp only[za8,List.cons.injEq]at h;omega)
       ·cases hw:zb1 C
        ·refine bad (zwc w a b d f r A B D F hA hB hD hF (by omega) (by omega) g g2 g3 C hC (by omega) hw) (zbe ?_ ?_ ?_ ?_)
         ·intros;rename_i h;simp only[za8,List.cons.injEq]at h;omega
         ·intros;rename_i h;simp only[za8,List.cons.injEq]at h;omega
         ·intros;rename_i h;simp only[za8,List.cons.injEq]at h;omega
         ·intro a' b' d' e' r' _ _ _ _ _ _ _ _ _ hw' h
          simp only[za8,List.cons.injEq]at h;have e:((((a':Int)-240)*64+(b'-128))*64+(d'-128))*64+(e'-128)=C:=by omega
          rw[e,hw]at hw';cases hw'
        ·refine yes (n:=4) rfl (z4g w a b d f r A B D F hA hB hD hF (by omega) (by omega) g g2 g3 C hC (by omega) hw) (by omega) (by omega) (by simp) hw ?_;rw[←hC,←hA,←hB,←hD,←hF,zE4 (by omega) (by omega) (by omega) (by omega) (by omega) (by omega) (by omega) (by omega) (by omega)];rfl
      ·refine bad (zwd w a b d f r A B D F hA hB hD hF (by omega) (by omega) g g2 g3) (zbe ?_ ?_ ?_ ?_)<;>intros<;>rename_i h<;>(simp only[za8,List.cons.injEq]at h;omega)
     ·refine bad (zwe w a b d f r A B D F hA hB hD hF (by omega) (by omega) g g2) (zbe ?_ ?_ ?_ ?_)<;>intros<;>rename_i h<;>(simp only[za8,List.cons.injEq]at h;omega)
    ·refine bad (zwf w a b d f r A B D F hA hB hD hF (by omega) (by omega) g) (zbe ?_ ?_ ?_ ?_)<;>intros<;>rename_i h<;>(simp only[za8,List.cons.injEq]at h;omega)
end
section
open Go.RowKit
open Sp
def DecP(w:World)(t:List UInt8):Ending→World→Prop:=fun e w'=>Below w.heap.size w w'∧((∃v l,e=.returned (.tuple #[v,.int .i64 0])∧Dec (zaf t) l∧w'.ownsRow w.heap.size 3 1 v l.length (l.map (.int .i64)))∨(e=.returned (.tuple #[.slice none 0 0,.int .i64 7])∧∀l,¬Dec (zaf t) l))
theorem zC5(t:List UInt8)(k:Nat)(h:k≤t.length)(w:World):(Instr.slice 9 (.string ⟨t.toArray⟩) (some (.int .i64 (k:Nat))) none none).run Tryz.prog w=.ok (.string ⟨(t.drop k).toArray⟩) w:=by
 have hz:(⟨t.toArray⟩:ByteArray).size=t.length:=by show t.toArray.size=_;simp
 have e:(⟨t.toArray⟩:ByteArray).extract k t.length=⟨(t.drop k).toArray⟩:=by
  apply ByteArray.ext
  apply Array.ext'
  simp[ByteArray.data_extract,List.take_of_length_le]
 have hb:((k:Nat):Int)≤((t.length:Nat):Int):=by omega
 have hc:(0:Int)≤(k:Nat):=by omega
 simp[Instr.slice,run_underlying Tryz.underlying9,Instr.sliceBounds,run_sliceBound,hz,hb,e]
theorem zs9(a b:List UInt8):zaf (a++b)=zaf a++zaf b:=List.map_append ..
theorem Dec.len{s:List Nat}{l:List Int}(h:Dec s l):l.length≤s.length:=by
 rw[h.2];clear h;induction l with
 |nil=>exact Nat.zero_le _
 |
  cons c l ih=>
  have h1:encs (c::l)=encN c++encs l:=rfl;have h2:=(zik c).1;have h3:(encN c).length=(encC c).length:=List.length_map ..;rw[h1,List.length_append,List.length_cons];omega
theorem decode_any(w:World)(t:List UInt8)(ht:t.length≤17592186044414):Calls Tryz.prog 74 #[.string ⟨t.toArray⟩] w (DecP w t):=by
 go_enter Tryz.func74,Tryz.ntmps74
 go_wp2_with fail;go_loopw [0,4] (fun sv ov wr=>∃(t1 t2:List UInt8) (l1:List Int),t=t1++t2∧sv=.string ⟨t2.toArray⟩∧Hid (Dec (zaf t1) l1)∧Hid (wr.ownsRow w.heap.size 3 1 ov l1.length (l1.map (.int .i64)))∧Hid (Below w.heap.size w wr)) (fun sv _ _=>match sv with| .string s=>s.size|_=>0)
 case atStart=>exact⟨[],t,[],rfl,rfl,Dec.nil,zc1 w 3 1 rfl (Nat.le_refl _),bnew (za0 w) _⟩
 case round=>
  obtain⟨t1,t2,l1,ht12,rfl,HD,HO,HB⟩:=hrel;by_cases hne:t2=[]
  ·subst hne;have HE:Hid (Dec (zaf t) l1):=by rw[ht12,List.append_nil];exact HD.out
   go_wp2_with fail;go_ret2;exact⟨HB.out,.inl ⟨_,l1,by simp,HE.out,HO.out⟩⟩
  ·have hq:(t2==[])=false:=by cases t2 with
    |nil=>exact absurd rfl hne
    |cons a b=>rfl
   have HF:=Lib.hid (first_any wr t2 hne);have HNE:=Lib.hid hne;have hl1:l1.length≤17592186044414:=by
    have h1:=HD.out.len;have h2:(zaf t1).length=t1.length:=List.length_map ..;have h3:=congrArg List.length ht12;rw[List.length_append]at h3;omega
   have hS:=HB.out.size;clear hne;go_wp2_with fail;refine HF.out.mono ?_;rintro e w1 ⟨(⟨c,n,rfl,hn0,hn4,hnl,hwc,hby⟩|⟨rfl,hno⟩),rfl⟩
   ·have hn1:¬((n:Int)=0):=by omega
    have hn2:¬(n=0):=by omega
    have HRS:=Lib.hid (zC5 t2 n hnl);have HDN:Hid (Dec (zaf (t1++t2.take n)) (l1++[c])):=by
     show Dec _ _;rw[zs9,hby];exact HD.out.more (r:=[]) hwc
    have HTN:=Lib.hid (show t=(t1++t2.take n)++t2.drop n by rw[List.append_assoc,List.take_append_drop];exact ht12);have hrun:=fun W=>HRS.out W
    have hlt:(t2.drop n).length<t2.length:=by rw[List.length_drop];omega
    clear hby ht12 hwc;go_wp2_with (first
     |(at_builtin;refine zb8 w _ _ rfl _ _ _ rfl zf3 _ _ _ rfl HO.out (m:=1) rfl rfl rfl (by simp[Value.oneCell']) (by unfold maxLen;omega) (by omega) hS HB.out ?_;intro v1 w1 hown1 hb1 _ _))
    go_roundw;case rel=>exact⟨_,_,l1++[c],HTN.out,rfl,HDN,by rw[List.length_append,List.map_append];exact hown1,hb1⟩
    case measure=>
     show(t2.drop n).toArray.size<t2.toArray.size;simpa using hlt
   ·have HNO:Hid (∀l,¬Dec (zaf t) l):=fun l=>by
     rw[ht12,zs9];exact HD.out.bad (fun e=>HNE.out (List.map_eq_nil_iff.1 e)) hno l
    go_wp2_with fail;go_ret2;exact⟨HB.out,.inr ⟨by simp,HNO.out⟩⟩
end
end Go.Proofs.YtaociahafamncaaGreatDoor
