/- What the proof of TopDecisionTable uses, part Dec13. -/
import Derived.Test.YtjbciamhhfcdoaaGreatDoorDec12
set_option linter.unusedSimpArgs false
set_option linter.unusedVariables false
namespace Go.Proofs.YtjbciamhhfcdoaaGreatDoor
open Go.RowKit Hs
set_option maxRecDepth 20000
set_option maxHeartbeats 4000000
theorem qB (h:HostP) (w:World) (hw:ym h) (hn:h.name.length≤100000):Calls Tryz.prog 57 #[.agg (zc h).toArray] w fun e w'=>e= .returned (.bool (ta h))∧Below w.heap.size w w':=by
 obtain ⟨W0,hW0⟩:=KZ6 (w.alloc (.cells (zc h).toArray 60));have hbA:Below w.heap.size w W0:=by rw [hW0];exact (Below.refl _ w).alloc (Nat.le_refl _) _
 have hb0:BlkL W0 w.heap.size 60 (zc h):=by rw [hW0];exact BlkL.new w _ _
 have HW0:Hid (w.alloc (.cells (zc h).toArray 60)=W0):=KZ9 hW0.symm;have hsz:W0.heap.size=w.heap.size+1:=by rw [hW0];simp
 have HV:=KZ9 (pE h W0 hw hn);have HI:=KZ9 (xI hw.1);have HB0:=KZ9 hb0;clear hW0;go_enter Tryz.func57,Tryz.ntmps57
 go_upto_region 1 with fail
 rw [HW0.out];clear HW0;go_wp2_with (refine wpList_load_row rfl 60 (.tmp 1) rfl w.heap.size rfl 60 _ _ _ HB0.out Tryz.underlying60 rfl HI.out ?_)
 refine HV.out.mono ?_;rintro e w1 ⟨rfl,hb1⟩;have HALL:=KZ9 (hbA.trans (hb1.mono (by omega)));have hb2:=hb0.below (by omega) hb1;clear hb1 HB0 hb0 HV hbA;obtain ⟨ok,hok⟩:=KZ6 (zT h);rw [←hok];cases ok
 ·have hfin:=KZ9 (Wf hok.symm);clear hok;go_wp2;go_ret;rw [hfin.out];exact ⟨rfl,HALL.out⟩
 obtain ⟨kind,name,v4,v6⟩:=h;simp only at hn;have c0:=hb2.c 0 _ (wG _).1;have c1:=hb2.c 1 _ (wG _).2.1;have c2:=hb2.c 2 _ (wG _).2.2.1;simp only at c0 c1 c2;rcases tb hok.symm with rfl | rfl | rfl
 ·have hfin:=KZ9 (Tb hok.symm);have hcv:=kg ⟨#[108,111,99,97,108,104,111,115,116]⟩ (mk name) w1 (by decide) (by rw [zh];omega);rw [zj] at hcv;have HC:=KZ9 hcv;clear hok hb2 hcv;go_wp2_with fail
  refine HC.out.mono ?_;rintro e w2 ⟨rfl,hb3⟩;go_wp2;go_ret;rw [hfin.out];exact ⟨rfl,HALL.out.trans (hb3.mono (by have:=HALL.out.size;omega))⟩
 ·have hfin:=KZ9 (Ta hok.symm);have hv4:=hw.2.2;simp only at hv4;have e1:(v4:Int) / 16777216=((v4 / 16777216:Nat):Int):=by omega
  obtain ⟨b,hb⟩:=KZ6 (decide (v4 / 16777216=127));rw [←hb] at hfin;have e2:((v4:Int) / 16777216==127)=b:=by
   rw [hb,e1];by_cases h:v4 / 16777216=127
   ·rw [h];rfl
   rw [KZ8 h];simp;omega
  clear hok hb2 hb e1 hv4;go_wp2
  all_goals try omega
  go_ret;rw [hfin.out];exact ⟨rfl,HALL.out⟩
 have hfin:=KZ9 (U9 hok.symm);have HR:=KZ9 (hb2.range 3 (zg v6) (fun j v hj=>by rw [(wG _).2.2.2 j];exact hj));have HIA:=KZ9 (show (Tryz.prog.info? 58).map (·.size)=some (zg v6).length by rw [zC,yc,hw.1]);have hq:∀ W,(Op.equalIn 10000 58 (.agg (zg v6).toArray) (.agg #[.int .u16 0,.int .u16 0,.int .u16 0,.int .u16 0,.int .u16 0,.int .u16 0,.int .u16 0,.int .u16 1])).run Tryz.prog W= .ok (decide (v6=[0,0,0,0,0,0,0,1])) W:=jE v6 [0,0,0,0,0,0,0,1] hw.1 rfl;obtain ⟨b,hb⟩:=KZ6 (decide (v6=[0,0,0,0,0,0,0,1]));rw [←hb] at hfin hq;clear hok hb2 hb;go_wp2_with (refine wpList_load_mid rfl 58 (.tmp 16) rfl w.heap.size 3 rfl (zg v6) _ HR.out Tryz.underlying58 rfl HIA.out ?_)
 all_goals try omega
 go_ret;rw [hfin.out];exact ⟨rfl,HALL.out⟩
theorem pD (u:UrlP) (w:World) (hw:ym u.host) (hb:tS u):Calls Tryz.prog 23 #[.agg (za u).toArray] w fun e w'=>e= .returned (.bool (yv u))∧Below w.heap.size w w':=by
 obtain ⟨W0,hW0⟩:=KZ6 (w.alloc (.cells (za u).toArray 62));have hbA:Below w.heap.size w W0:=by rw [hW0];exact (Below.refl _ w).alloc (Nat.le_refl _) _
 have hb0:BlkL W0 w.heap.size 62 (za u):=by rw [hW0];exact BlkL.new w _ _
 have HW0:Hid (w.alloc (.cells (za u).toArray 62)=W0):=KZ9 hW0.symm;have hsz:W0.heap.size=w.heap.size+1:=by rw [hW0];simp
 have HV:=KZ9 (Zs u W0 hw hb);have HI0:=KZ9 (zV hw.1);have HB0:=KZ9 hb0;have HBA:=KZ9 hbA;have hn:=hb.2.2.1;clear hW0 hbA hb0 hb;go_enter Tryz.func23,Tryz.ntmps23
 go_upto_region 1 with fail
 rw [HW0.out];clear HW0;go_wp2_with (refine wpList_load_row rfl 62 (.tmp 1) rfl w.heap.size rfl 62 _ _ _ HB0.out Tryz.underlying62 rfl HI0.out ?_)
 refine HV.out.mono ?_;rintro e w1 ⟨rfl,hb1⟩;have hb2:=HB0.out.below (by omega) hb1;have HA1:=KZ9 (HBA.out.trans (hb1.mono (by omega)));clear hb1 HV HB0 HBA;obtain ⟨ok,hok⟩:=KZ6 (yR u);rw [←hok];cases ok
 ·have hfin:=KZ9 (Zi hok.symm);clear hok;go_wp2;go_ret;rw [hfin.out];exact ⟨rfl,HA1.out⟩
 have c0:=hb2.c 0 _ (pr u).1;have e1:((mk u.scheme).toList==([104,116,116,112,115]:Bs))=decide (u.scheme=zG):=by rw [toList_mk'];exact yX _ _
 have e2:((mk u.scheme).toList==([119,115,115]:Bs))=decide (u.scheme=rK):=by rw [toList_mk'];exact yX _ _
 have e3:((mk u.scheme).toList==([102,105,108,101]:Bs))=decide (u.scheme=gM):=by rw [toList_mk'];exact yX _ _
 have e4:((mk u.scheme).toList==([97,98,111,117,116]:Bs))=decide (u.scheme=sC):=by rw [toList_mk'];exact yX _ _
 by_cases h1:u.scheme=zG
 ·have hfin:=KZ9 (vE hok.symm (.inl h1));rw [KZ7 h1] at e1;clear hok h1 e2 e3 e4;go_wp2;go_ret;rw [hfin.out];exact ⟨rfl,HA1.out⟩
 rw [KZ8 h1] at e1;by_cases h2:u.scheme=rK
 ·have hfin:=KZ9 (vE hok.symm (.inr (.inl h2)));rw [KZ7 h2] at e2;clear hok h1 h2 e3 e4;go_wp2;go_ret;rw [hfin.out];exact ⟨rfl,HA1.out⟩
 rw [KZ8 h2] at e2;by_cases h3:u.scheme=gM
 ·have hfin:=KZ9 (vE hok.symm (.inr (.inr h3)));rw [KZ7 h3] at e3;clear hok h1 h2 h3 e4;go_wp2;go_ret;rw [hfin.out];exact ⟨rfl,HA1.out⟩
 rw [KZ8 h3] at e3;have e5:((mk u.scheme).toList==([104,116,116,112]:Bs))=decide (u.scheme=yQ):=by rw [toList_mk'];exact yX _ _
 have e6:((mk u.scheme).toList==([119,115]:Bs))=decide (u.scheme=bWs):=by rw [toList_mk'];exact yX _ _
 by_cases h5:u.scheme=yQ
 ·have h4:u.scheme≠sC:=by rw [h5];decide
  have hpos:decide (0<zv u.scheme)=true:=by rw [h5];decide
  rw [KZ7 h5] at e5;have hfin:=KZ9 ((uW hok.symm (by rintro (h | h | h)<;>contradiction) h4).trans (by rw [hpos]:_=(true&&ta u.host)));have HLB:=KZ9 (qB u.host w1 hw (by omega));clear hok h1 h2 h3 h4 hpos h5 e4 e6;obtain ⟨sc,us,⟨kd,nm,va,v6⟩,pt,rs⟩:=u;obtain ⟨a,b,c,d,e,f,g,i,rfl⟩:=si hw.1;have c2:=hb2.c 2 _ rfl;have c3:=hb2.c 3 _ rfl;have c4:=hb2.c 4 _ rfl;have c5:=hb2.c 5 _ rfl;have c6:=hb2.c 6 _ rfl;have c7:=hb2.c 7 _ rfl;have c8:=hb2.c 8 _ rfl;have c9:=hb2.c 9 _ rfl;have c10:=hb2.c 10 _ rfl;have c11:=hb2.c 11 _ rfl;have c12:=hb2.c 12 _ rfl;go_wp2_with fail
  all_goals try omega
  refine HLB.out.mono ?_;rintro e w2 ⟨rfl,hb3⟩;go_wp2
  all_goals try omega
  go_ret;rw [hfin.out];exact ⟨by simp,HA1.out.trans (hb3.mono (by have:=HA1.out.size;omega))⟩
 rw [KZ8 h5] at e5;by_cases h6:u.scheme=bWs
 ·have h4:u.scheme≠sC:=by rw [h6];decide
  have hpos:decide (0<zv u.scheme)=true:=by rw [h6];decide
  rw [KZ7 h6] at e6;have hfin:=KZ9 ((uW hok.symm (by rintro (h | h | h)<;>contradiction) h4).trans (by rw [hpos]:_=(true&&ta u.host)));have HLB:=KZ9 (qB u.host w1 hw (by omega));clear hok h1 h2 h3 h4 hpos h5 h6 e4;obtain ⟨sc,us,⟨kd,nm,va,v6⟩,pt,rs⟩:=u;obtain ⟨a,b,c,d,e,f,g,i,rfl⟩:=si hw.1;have c2:=hb2.c 2 _ rfl;have c3:=hb2.c 3 _ rfl;have c4:=hb2.c 4 _ rfl;have c5:=hb2.c 5 _ rfl;have c6:=hb2.c 6 _ rfl;have c7:=hb2.c 7 _ rfl;have c8:=hb2.c 8 _ rfl;have c9:=hb2.c 9 _ rfl;have c10:=hb2.c 10 _ rfl;have c11:=hb2.c 11 _ rfl;have c12:=hb2.c 12 _ rfl;go_wp2_with fail
  all_goals try omega
  refine HLB.out.mono ?_;rintro e w2 ⟨rfl,hb3⟩;go_wp2
  all_goals try omega
  go_ret;rw [hfin.out];exact ⟨by simp,HA1.out.trans (hb3.mono (by have:=HA1.out.size;omega))⟩
 rw [KZ8 h6] at e6;by_cases h4:u.scheme=sC
 ·have hfin:=KZ9 (qt hok.symm h4);rw [KZ7 h4] at e4;have c14:=hb2.c 14 _ (vP u hw.1).2.1;have q1:((mk u.rest).toList==([98,108,97,110,107]:Bs))=decide (u.rest=ro):=by rw [toList_mk'];exact yX _ _
  have q2:((mk u.rest).toList==([115,114,99,100,111,99]:Bs))=decide (u.rest=th):=by rw [toList_mk'];exact yX _ _
  obtain ⟨r1,hr1⟩:=KZ6 (decide (u.rest=ro));obtain ⟨r2,hr2⟩:=KZ6 (decide (u.rest=th));have hor:decide (u.rest=ro∨u.rest=th)=(r1||r2):=by rw [hr1,hr2,Bool.decide_or]
  rw [hor] at hfin;rw [←hr1] at q1;rw [←hr2] at q2;clear hok h1 h2 h3 h4 h5 h6 hr1 hr2 hor;cases r1
  all_goals
   go_wp2
   all_goals try omega
   go_ret;rw [hfin.out];exact ⟨by first | rfl | simp,HA1.out⟩
 have hneg:decide (0<zv u.scheme)=false:=by
  rcases yr u.scheme with ⟨_,k | k⟩ | ⟨_,k | k⟩ | ⟨k,_⟩
  ·exact absurd k h5
  ·exact absurd k h6
  ·exact absurd k h1
  ·exact absurd k h2
  rw [k];decide
 have hfin:=KZ9 ((uW hok.symm (by rintro (h | h | h)<;>contradiction) h4).trans (by rw [hneg];rfl:_=false));rw [KZ8 h4] at e4;clear hok h1 h2 h3 h4 h5 h6 hneg;go_wp2
 all_goals try omega
 go_ret;rw [hfin.out];exact ⟨rfl,HA1.out⟩
end Go.Proofs.YtjbciamhhfcdoaaGreatDoor
namespace Hs
open Go
theorem Z8:∀ a b:Bs,(Op.bytesLess a b=true∧Lib.compareBytes a b= -1)∨(Op.bytesLess a b=false∧(a==b)=true∧Lib.compareBytes a b=0)∨(Op.bytesLess a b=false∧(a==b)=false∧Lib.compareBytes a b=1)
 | [],[]=> .inr (.inl ⟨rfl,rfl,rfl⟩)
 | [],_::_=> .inl ⟨rfl,rfl⟩
 | _::_,[]=> .inr (.inr ⟨rfl,rfl,rfl⟩)
 | a::x,b::y=>by
  have ih:=Z8 x y;have hl:Op.bytesLess (a::x) (b::y)=(decide (a<b)||(a==b&&Op.bytesLess x y)):=rfl;rw [hl,Lib.compareBytes];by_cases h1:a<b
  ·left;rw [if_pos h1,KZ7 h1];exact ⟨rfl,rfl⟩
  rw [if_neg h1,KZ8 h1];by_cases h2:b<a
  ·have hne:a≠b:=fun e=>by subst e;exact absurd h2 (UInt8.lt_irrefl _)
   right;right;rw [if_pos h2];have hb:(a==b)=false:=by simpa using hne
   refine ⟨by rw [hb];rfl,?_,rfl⟩;show (a==b&&x==y)=false;rw [hb];rfl
  have hab:a=b:=UInt8.le_antisymm (UInt8.not_lt.1 h2) (UInt8.not_lt.1 h1);subst hab;rw [if_neg h2];have hc:((a::x)==(a::y))=(x==y):=by show (a==a&&x==y)=_;simp
  rw [hc]
  simpa using ih
end Hs
namespace Go.Proofs.YtjbciamhhfcdoaaGreatDoor
open Go.RowKit Hs
theorem Wi (s:ByteArray) (w:World):Calls Tryz.prog 120 #[.string s] w fun e w'=>e= .returned (.bool false)∧w=w':=by
 go_enter Tryz.func120,Tryz.ntmps120
 go_wp2;go_ret;exact ⟨by simp,rfl⟩
theorem RL (a b:ByteArray) (w:World):Calls Tryz.prog 77 #[.string a,.string b] w fun e w'=>e= .returned (.int .i64 (Lib.compareBytes (un a) (un b)))∧w=w':=by
 have HA:=KZ9 (Wi a w);have HB:=KZ9 (Wi b w);have hc:=Z8 (un a) (un b);obtain ⟨r,hr⟩:=KZ6 (Lib.compareBytes (un a) (un b));rw [←hr] at hc ⊢;rw [←zl,←zl] at hc;clear hr;rcases hc with ⟨h1,rfl⟩ | ⟨h1,h2,rfl⟩ | ⟨h1,h2,rfl⟩
 all_goals
  go_enter Tryz.func77,Tryz.ntmps77
  go_wp2_with fail
  refine HA.out.mono ?_;rintro e w1 ⟨rfl,rfl⟩;go_wp2_with fail
  refine HB.out.mono ?_;rintro e w1 ⟨rfl,rfl⟩;go_wp2;go_ret;exact ⟨rfl,rfl⟩
end Go.Proofs.YtjbciamhhfcdoaaGreatDoor
namespace Hs
open Go
theorem Pr {a b:Bs} (h:Lib.compareBytes (yy a) (yy b)≠0):yF a b=Lib.compareBytes (yy a) (yy b):=by rw [ur,if_pos h]
theorem Rw {a b:Bs} (h:Lib.compareBytes (yy a) (yy b)=0) (h2:zo 46 a<0∨zo 46 b<0):yF a b=Lib.compareInt (min (zo 46 a) 0) (min (zo 46 b) 0):=by
 rw [ur,if_neg (by simp [h]),if_pos h2];rfl
theorem T9 {a b:Bs} (h:Lib.compareBytes (yy a) (yy b)=0) (h2:¬ (zo 46 a<0∨zo 46 b<0)):yF a b=yF (wj a) (wj b):=by
 rw [ur,if_neg (by simp [h]),if_neg h2]
end Hs
namespace Go.Proofs.YtjbciamhhfcdoaaGreatDoor
open Go.RowKit Hs
def Drn (w w':World):Prop:=∃ m,w'=w.drewN m
theorem Qi {w w':World} (h:Drn w w') (n:Nat):Drn w (w'.drewN n):=by
 obtain ⟨m,rfl⟩:=h;exact ⟨m+n,by first | exact World.drewN_drewN | exact World.drewN_drewN _ _ _⟩
set_option maxRecDepth 20000
set_option maxHeartbeats 4000000
theorem tW (a b:ByteArray) (w:World) (ha:a.size≤100000) (hb:b.size≤100000):Calls Tryz.prog 38 #[.string a,.string b] w fun e w'=>e= .returned (.int .i64 (yF (un a) (un b)))∧Drn w w':=by
 obtain ⟨R,hR⟩:=KZ6 (yF (un a) (un b));rw [←hR];have HR:=KZ9 hR;clear hR;go_enter Tryz.func38,Tryz.ntmps38
 go_wp2;go_step3;go_wp2;go_step3;go_wp2;go_loopw [0,1] (fun av bv wr=>∃ x y:Bs,av= .string (mk x)∧bv= .string (mk y)∧x.length≤100000∧y.length≤100000∧Hid (R=yF x y)∧Drn w wr) (fun av _ _=>px av)
 case atStart=>exact ⟨un a,un b,by rw [vd],by rw [vd],by rw [zb];exact ha,by rw [zb];exact hb,HR,⟨0,rfl⟩⟩
 case round =>
  obtain ⟨x,y,rfl,rfl,hx,hy,hst,hnx⟩:=hrel;have hsx:(mk x).size=x.length:=zh x;have hsy:(mk y).size=y.length:=zh y;have hlx:=fun W=>sf (mk x) 46 W (by omega);have hly:=fun W=>sf (mk y) 46 W (by omega);simp only [zj] at hlx hly;have bx:=zW 46 x;have hby:=zW 46 y;have ex:(mk x).extract (zo 46 x+1).toNat x.length=mk (yy x):=by
   have:=wN (mk x) (zo 46 x+1).toNat;rw [hsx,zj] at this;exact this
  have ey:(mk y).extract (zo 46 y+1).toNat y.length=mk (yy y):=by
   have:=wN (mk y) (zo 46 y+1).toNat;rw [hsy,zj] at this;exact this
  have fx:(mk x).extract 0 (zo 46 x).toNat=mk (wj x):=by rw [uf,zj];rfl
  have fy:(mk y).extract 0 (zo 46 y).toNat=mk (wj y):=by rw [uf,zj];rfl
  have hcm:=fun W=>RL (mk (yy x)) (mk (yy y)) W;simp only [zj] at hcm;have hne:=@Pr x y;have hend:=@Rw x y;have hnext:=@T9 x y;have hhx:=ux x;have hhy:=ux y;obtain ⟨p,hp⟩:=KZ6 (zo 46 x);obtain ⟨q,hq⟩:=KZ6 (zo 46 y);obtain ⟨c,hc⟩:=KZ6 (Lib.compareBytes (yy x) (yy y));simp only [←hp,←hq,←hc] at *;have HLX:=KZ9 hlx;have HLY:=KZ9 hly;have HCM:=KZ9 hcm;have HNE:=KZ9 hne;have HEND:=KZ9 hend;have HNEXT:=KZ9 hnext;have hI1:(0:Int)≤p+1:=by omega
  have hI2:p+1≤(x.length:Int):=by omega
  have hI3:(0:Int)≤q+1:=by omega
  have hI4:q+1≤(y.length:Int):=by omega
  have hw1:IntKind.i64.wrap (p+1)=p+1:=by rw [IntKind.wrap_i64];omega
  have hw2:IntKind.i64.wrap (q+1)=q+1:=by rw [IntKind.wrap_i64];omega
  clear hlx hly hcm hne hend hnext hp hq hc;go_wp2_with fail
  refine (HLX.out _).mono ?_;rintro e w1 ⟨rfl,rfl⟩;go_wp2_with fail
  refine (HLY.out _).mono ?_;rintro e w1 ⟨rfl,rfl⟩;go_upto_region 3 with fail
  all_goals try omega
  refine wp_region_quiet_lit (by kernel_rfl) (by kernel_rfl) ?_;repeat (go_big_quiet_step (fail))
  go_big_quiet_want
  go_big_quiet_op
  apply Exists.intro;refine ⟨fun _=> ?_,?_⟩
  ·exact Calls.quiet_of_same ((HCM.out _).mono (fun _ _ h=>⟨h.1,h.2.symm⟩))
  go_big_quiet_on
  repeat (go_big_quiet_step (fail))
  refine wpQuiet_nil ?_;intro _ hw';obtain ⟨nq,hw''⟩:=hw';subst hw'';have hnx2:=Qi hnx nq;generalize wr.drewN nq=wq at *;by_cases hc0:c=0
  ·have g1:(c != 0)=false:=by simpa using hc0
   by_cases hlt:p<0∨q<0
   ·have hfin:=KZ9 (hst.out.trans (HEND.out hc0 hlt));have hci:=fun W=>Tryz.cmp_Compare_int (min p 0) (min q 0) W;have HCI:=KZ9 hci;have hor:p<0∨(¬ p<0∧q<0):=by omega
    clear HEND HNEXT HNE hc0 hst hnx hci hlt;obtain ⟨mp,hmp⟩:=KZ6 (min p 0);obtain ⟨mq,hmq⟩:=KZ6 (min q 0);rw [←hmp,←hmq] at hfin;simp only [←hmp,←hmq] at HCI;have hmp2:=hmp.symm;have hmq2:=hmq.symm;clear hmp hmq;rcases hor with h | ⟨h,h2⟩
    all_goals
     go_wp2_with fail
     all_goals try omega
     refine (HCI.out _).mono ?_;rintro e w9 ⟨rfl,rfl⟩;go_wp2
     all_goals try omega
     go_goals
     (try rw [Exit.noGoto_ret])
     go_ret;rw [hfin.out];exact ⟨rfl,hnx2⟩
   have hfin:=KZ9 (hst.out.trans (HNEXT.out hc0 hlt));have g2:decide (p<(0:Int))=false:=KZ8 (by omega);have g3:decide (q<(0:Int))=false:=KZ8 (by omega);have hp0:0≤p:=by omega
   have hq0:0≤q:=by omega
   have hp1:p≤(x.length:Int):=by omega
   have hq1:q≤(y.length:Int):=by omega
   have hh1:=hhx hp0;have hh2:=hhy hq0;clear HEND HNEXT HNE hc0 hst hnx hlt hhx hhy;go_upto_region 7 with fail
   all_goals try omega
   refine wp_region_quiet_lit (by kernel_rfl) (by kernel_rfl) ?_;repeat (go_big_quiet_step (fail))
   refine wpQuiet_nil ?_;intro _ hw';obtain ⟨nq2,hw''⟩:=hw';subst hw'';have hnx3:=Qi hnx2 nq2;go_wp2
   all_goals try omega
   go_roundw
   case rel=>exact ⟨wj x,wj y,by first | rfl | rw [fx],by first | rfl | rw [fy],by omega,by omega,hfin,hnx3⟩
   case measure=>simp [px];omega
  have g1:(c != 0)=true:=by simpa using hc0
  have hfin:=KZ9 (hst.out.trans (HNE.out hc0));clear HEND HNEXT HNE hc0 hst hnx;go_wp2
  all_goals try omega
  (try rw [Exit.noGoto_ret])
  go_ret;rw [hfin.out];exact ⟨rfl,hnx2⟩
theorem jc (a b:ByteArray) (w:World) (ha:a.size≤100000) (hb:b.size≤100000):Calls Tryz.prog 38 #[.string a,.string b] w fun e w'=>e= .returned (.int .i64 (yF (un a) (un b)))∧Below w.heap.size w w':=by
 refine (tW a b w ha hb).mono ?_;rintro e w' ⟨rfl,m,rfl⟩;exact ⟨rfl,below_drewN (Below.refl _ _) m⟩
def yi (p:PinP):List Value:=[.string (mk p.host),.bool p.sub,.int .i64 p.expiry]
theorem sl:(Tryz.prog.info? 23).map (·.size)=some 3:=by kernel_rfl
theorem T6 (p:PinP) (w:World) (hB:Base w) (hn:p.host.length≤100000):Calls Tryz.prog 30 #[.agg (yi p).toArray] w fun e w'=>e= .returned (.bool (tE p))∧Below w.heap.size w w':=by
 obtain ⟨W0,hW0⟩:=KZ6 (w.alloc (.cells (yi p).toArray 23));have hbA:Below w.heap.size w W0:=by rw [hW0];exact (Below.refl _ w).alloc (Nat.le_refl _) _
 have hb0:BlkL W0 w.heap.size 23 (yi p):=by rw [hW0];exact BlkL.new w _ _
 have HW0:Hid (w.alloc (.cells (yi p).toArray 23)=W0):=KZ9 hW0.symm;have hsz:W0.heap.size=w.heap.size+1:=by rw [hW0];simp
 have hv:=ve (mk p.host) W0 (hB.below hbA) (by rw [zh];exact hn);rw [zj] at hv;have hdef:tE p=(zJ p.host&&(decide (0≤p.expiry)&&decide (p.expiry≤1099511627776))):=by unfold tE;rw [Bool.decide_and]
 obtain ⟨a,ha⟩:=KZ6 (zJ p.host);obtain ⟨b,hb⟩:=KZ6 (decide (0≤p.expiry));obtain ⟨c,hc⟩:=KZ6 (decide (p.expiry≤1099511627776));rw [←ha,←hb,←hc] at hdef;rw [←ha] at hv;have hb':=hb.symm;have hc':=hc.symm;have HV:=KZ9 hv;have HD:=KZ9 hdef;have HC:=KZ9 hc';have HBA:=KZ9 hbA;have c0:=hb0.c 0 _ rfl;have HB0:=KZ9 hb0;clear hW0 hbA hv hdef ha hb hc hc' hb0;go_enter Tryz.func30,Tryz.ntmps30
 go_upto_region 1 with fail
 rw [HW0.out];clear HW0;go_wp2_with fail
 refine HV.out.mono ?_;rintro e w1 ⟨rfl,hb1⟩;have HA1:=KZ9 (HBA.out.trans (hb1.mono (by omega)));have c2:=(HB0.out.below (by omega) hb1).c 2 _ rfl;clear hb1 HV c0;cases a
 ·clear HC hb';go_wp2
  all_goals try omega
  go_ret;rw [HD.out];exact ⟨rfl,HA1.out⟩
 cases b
 ·clear HC;go_wp2
  all_goals try omega
  go_ret;rw [HD.out];exact ⟨rfl,HA1.out⟩
 have hc':=HC.out;go_wp2
 all_goals try omega
 go_ret;rw [HD.out];exact ⟨by simp,HA1.out⟩
theorem Rq (p:PinP) (x:Bs) (w:World) (hn:p.host.length≤100000) (hx:x.length≤100000):Calls Tryz.prog 67 #[.agg #[.string (mk p.host),.bool p.sub,.int .i64 p.expiry],.string (mk x)] w fun e w'=>e= .returned (.int .i64 (yF p.host x))∧Below w.heap.size w w':=by
 obtain ⟨W0,hW0⟩:=KZ6 (w.alloc (.cells #[.string (mk p.host),.bool p.sub,.int .i64 p.expiry] 23));have hbA:Below w.heap.size w W0:=by rw [hW0];exact (Below.refl _ w).alloc (Nat.le_refl _) _
 have hb0:BlkL W0 w.heap.size 23 (yi p):=by rw [hW0];exact BlkL.new w _ _
 have HW0:Hid (w.alloc (.cells #[.string (mk p.host),.bool p.sub,.int .i64 p.expiry] 23)=W0):=KZ9 hW0.symm;have hsz:W0.heap.size=w.heap.size+1:=by rw [hW0];simp
 have hc:=jc (mk p.host) (mk x) W0 (by rw [zh];exact hn) (by rw [zh];exact hx);rw [zj,zj] at hc;have HC:=KZ9 hc;have HBA:=KZ9 hbA;have c0:=hb0.c 0 _ rfl;clear hW0 hbA hb0 hc;go_enter Tryz.func67,Tryz.ntmps67
 go_upto_region 1 with fail
 rw [HW0.out];clear HW0;go_wp2_with fail
 refine HC.out.mono ?_;rintro e w1 ⟨rfl,hb1⟩;go_wp2;go_ret;exact ⟨rfl,HBA.out.trans (hb1.mono (by omega))⟩
theorem kE (p:PinP):∀ v∈yi p,v.oneCell'=true:=by
 intro v hv;simp [yi] at hv;rcases hv with rfl | rfl | rfl<;>rfl
def Tab1 (w:World) (t g:Nat) (p:PinP):Prop:=∃ cap:Nat,1≤cap∧cap≤maxLen∧BlkL w t 78 [.slice (some ⟨g,0,none⟩) 1 cap,.int .i64 1]∧(∀ j v,(yi p)[j]? =some v→w.cell? ⟨g,j,none⟩=some v)∧g<w.heap.size∧t<w.heap.size
theorem XI (x:Bs) (w:World):Calls Tryz.prog 31 #[.pointer none,.string (mk x)] w fun e w'=>e= .returned (.tuple #[.int .i64 0,.bool false])∧w=w':=by
 go_enter Tryz.func31,Tryz.ntmps31
 go_wp2;go_ret2;exact ⟨rfl,rfl⟩
theorem RT:(Tryz.prog.info? 23).map (fun i=>(i.zero,i.size,i.bytes))=some (some (.agg #[.string ⟨#[]⟩,.bool false,.int .i64 0]),3,32):=by kernel_rfl
theorem Tab1.below {w w':World} {t g b:Nat} {p:PinP} (h:Tab1 w t g p) (hb:Below b w w') (ht:t<b) (hg:g<b):Tab1 w' t g p:=by
 obtain ⟨cap,h1,h2,h3,h4,h5,h6⟩:=h;have hs:=hb.size;exact ⟨cap,h1,h2,h3.below ht hb,fun j v hj=>(hb.cell (p:=⟨g,j,none⟩) hg).trans (h4 j v hj),by omega,by omega⟩
theorem TR (a b:Int) (w:World):Calls Tryz.prog 116 #[.int .i64 a,.int .i64 b] w fun e w'=>e= .returned (.bool (decide (a≤b)))∧w=w':=by
 go_enter Tryz.func116,Tryz.ntmps116
 go_wp2;go_ret;exact ⟨rfl,rfl⟩
def zA (e:EntP):List Value:=[.string (mk e.host),.bool e.sub]
def zm (c:CovP):List Value:=[.int .i64 (c.source:Int),.string (mk c.name),.bool c.exact]
theorem uj:(Tryz.prog.info? 87).map (·.size)=some 2:=by kernel_rfl
theorem zS:(Tryz.prog.info? 67).map (·.size)=some 3:=by kernel_rfl
theorem rg (p:EntP):∀ v∈zA p,v.oneCell'=true:=by
 intro v hv;simp [zA] at hv;rcases hv with rfl | rfl<;>rfl
theorem vD (p:CovP):∀ v∈zm p,v.oneCell'=true:=by
 intro v hv;simp [zm] at hv;rcases hv with rfl | rfl | rfl<;>rfl
theorem VQ (x:Bs) (w:World):Calls Tryz.prog 117 #[.pointer none,.string (mk x)] w fun e w'=>e= .returned (.tuple #[.agg #[.string ⟨#[]⟩,.bool false],.bool false])∧Below w.heap.size w w':=by
 obtain ⟨W0,hW0⟩:=KZ6 (w.alloc (.cells #[.string ⟨#[]⟩,.bool false] 87));have hbA:Below w.heap.size w W0:=by rw [hW0];exact (Below.refl _ w).alloc (Nat.le_refl _) _
 have hb0:BlkL W0 w.heap.size 87 (zA ⟨[],false⟩):=by rw [hW0];exact BlkL.new w _ _
 have HW0:=KZ9 hW0.symm;have HB0:=KZ9 hb0;have HBA:=KZ9 hbA;clear hW0 hbA hb0;go_enter Tryz.func117,Tryz.ntmps117
 go_upto_region 1 with fail
 rw [HW0.out];clear HW0;go_wp2_with (refine wpList_store_row rfl 87 (.tmp 4) (.tmp 10) rfl w.heap.size (zA ⟨[],false⟩).toArray rfl rfl 87 _ HB0.out uj rfl (ze (rg _)) ?_)
 all_goals try omega
 refine bodyPost_ret (zf rfl _ _ w.heap.size 87 _ _ rfl (HB0.out.setRow (zA ⟨[],false⟩)) Tryz.underlying87 rfl uj) rfl ?_;exact ⟨rfl,below_setRow HBA.out (Nat.le_refl _) _⟩
def TabV (w:World) (v:Value) (T:List PinP):Prop:=(v= .pointer none∧T=[])∨(∃ t g p,v= .pointer (some ⟨t,0,none⟩)∧T=[p]∧p.host.length≤100000∧Tab1 w t g p)
theorem TabV.below {w w':World} {v:Value} {T:List PinP} (h:TabV w v T) (hb:Below w.heap.size w w'):TabV w' v T:=by
 rcases h with h | ⟨t,g,p,h1,h2,h3,h4⟩
 ·exact .inl h
 have h5:=h4;obtain ⟨_,_,_,_,_,hg,ht⟩:=h5;exact .inr ⟨t,g,p,h1,h2,h3,h4.below hb ht hg⟩
def go (T:List PinP) (x:Bs):PinP × Bool:=match T.find? (fun p=>decide (p.host=x)) with
 | some p=>(p,true)
 | none=>(⟨[],false,0⟩,false)
end Go.Proofs.YtjbciamhhfcdoaaGreatDoor
namespace Go.Proofs.YtjbciamhhfcdoaaGreatDoor
open Go.RowKit Go.Shelf Hs
attribute [local go_sem] Oper.semAt_some
set_option maxRecDepth 100000
set_option maxHeartbeats 2000000
theorem Vt (n ct n₀:Nat) (s:ByteArray) (w:World) (hn:1≤n) (bt:Boxed w ct 9 (.string s)) (hct:n₀≤ct) (hBK:∀ W',Keeps (fun k=>k<n₀) w W'→Base W') (hn₀:n₀≤w.heap.size) (hs:s.size≤100000) :
  Seq Fence.wide n Tryz.prog 118 #[.pointer (some ⟨ct,0,none⟩)] (fun x:Bs=>#[.string (mk x)]) (fun k=>k=ct) n₀ (fun xs=>xs=Xp (un s)) (fun pre=>pre <+: Xp (un s)) w:=fun l J Jx W hW hJ hJx hY h0=>by
 have Bt0:Boxed W ct 9 (.string s):=(hW.block ct bt.lt).trans bt;have hKW:Keeps (fun k=>k<n₀) w W:=Keeps.of_below hW;have BW:=hBK W hKW;have hv:=ve s W BW hs;obtain ⟨nv,hnv⟩:=KZ6 (zJ (un s));rw [←hnv] at hv;have HV:=KZ9 hv;have HNV:=KZ9 hnv;have et0:=Bt0.cell;clear hv hnv;refine callsIn_of_wp Tryz.func118 rfl trivial ?_ rfl;simp only [Tryz.ntmps118,List.size_toArray,List.length_cons,List.length_nil,Nat.reduceAdd,Nat.reduceSub,Array.replicate_succ,Array.replicate_zero,List.push_toArray,List.append_toArray,List.nil_append,List.cons_append]
 gi_wp2
 refine ⟨trivial,?_⟩;refine (callsIn_wide.2 HV.out).mono ?_;rintro e w1 ⟨rfl,hb1⟩;have hg1:=yt hb1;have J1:=hJ.turn _ _ _ _ _ h0 hg1 (fun r e=>by cases e);have Bt1:=Bt0.kept hg1 (by simp);have K1:Keeps (fun k=>k<n₀) w w1:=hKW.trans (Keeps.of_below hb1);clear hb1 hg1 et0 HV BW hKW;cases nv
 ·have hfin:Xp (un s)=[]:=by unfold Xp;rw [←HNV.out];rfl
  gi_wp2
  refine bodyPost_ret (results_none rfl _ _ _) rfl ?_;exact ⟨⟨_,rfl⟩,.inl ⟨[],_,hfin.symm,J1⟩⟩
 have hsup:Xp (un s)=yl (un s):=by unfold Xp;rw [←HNV.out];rfl
 rw [hsup] at hY;have HSUP:=KZ9 hsup;clear hsup HNV
 gi_wp2
 gi_loopw [] (fun wr=>∃ (pre:List Bs) (t:ByteArray) (G:Nat→Prop),Hid (pre++yl (un t)=yl (un s))∧t.size≤s.size∧Boxed wr ct 9 (.string t)∧J pre G wr∧G ct∧Hid (Keeps (fun k=>k<n₀) w wr)) (fun wr=>jD ct wr)
 case atStart=>exact ⟨[],s,_,rfl,Nat.le_refl _,Bt1,J1,rfl,K1⟩
 case round =>
  obtain ⟨pre,t,G,hpre,hts,hbt,hJs,hGt,hkk⟩:=hrel;have et:=hbt.cell;have hmeas:=sB hbt;have hcut:=Wk t 46 wr (hBK wr hkk.out) (by omega);rcases Qs (un t) 46 with ⟨a,r,e,hna⟩ | hno
  ·rw [e,PR 46 a r (fun b hb e=>hna (e▸hb))] at hcut;have HCUT:=KZ9 hcut;have hal:a.length+1+r.length=t.size:=by have:=congrArg List.length e;rw [zb] at this;simp at this;omega
   have hnext:Hid ((pre++[r])++yl r=yl (un s)):=by rw [←hpre.out,e,jO r a (fun x hx e=>hna (e▸hx))];simp [Hid]
   clear hcut hpre e hna
   gi_wp2
   refine ⟨trivial,?_⟩;refine (callsIn_wide.2 HCUT.out).mono ?_;rintro e w2 ⟨rfl,hb2⟩;have hg2:=yt hb2;have J2:=hJ.turn _ _ _ _ _ hJs hg2 (fun r e=>by cases e);have B2:=hbt.kept hg2 (by simp);have K2:=KZ9 (hkk.out.trans (Keeps.of_below hb2));obtain ⟨fn,tmps,assign,body,hy,hR⟩:=hY pre r G w2 J2 ⟨_,hnext.out⟩;clear hb2 hg2 et HCUT hkk
   gi_wp2
   refine hR.mono ?_;rintro e W3 (⟨rfl,hJ3,hk3⟩ | ⟨rfl,hJx3,hk3⟩)
   ·have b3:Boxed W3 ct 9 (.string t):=(hk3.block ct B2.lt (.inl hGt)).trans B2;have K3:Keeps (fun k=>k<n₀) w W3:=K2.out.trans (hk3.mono fun k h=> .inr h);have e3:=b3.cell;have f3:=b3.frozen
    gi_wp2
    go_roundw
    case rel=>exact ⟨_,mk r,G,by rw [zj];exact hnext,by rw [zh];omega,b3.set _,hJ.turn _ _ _ _ _ hJ3 (xx _ ct 0 _) (fun r e=>by cases e;exact hGt),hGt,KZ9 (K3.trans (Keeps.setCell _ ct 0 (by omega) _))⟩
    case measure=>rw [sB (b3.set _),hmeas,zh];omega
   gi_wp2
   refine bodyPost_ret (results_none rfl _ _ _) rfl ?_;exact ⟨⟨_,rfl⟩,.inr ⟨_,G,by rw [HSUP.out];exact ⟨_,hnext.out⟩,hJx3⟩⟩
  rw [PQ 46 _ (fun b hb e=>hno (e▸hb))] at hcut;have HCUT:=KZ9 hcut;have hnext:Hid (pre=yl (un s)):=by rw [←hpre.out,p6 _ (fun x hx e=>hno (e▸hx))];simp [Hid]
  clear hcut hpre hno
  gi_wp2
  refine ⟨trivial,?_⟩;refine (callsIn_wide.2 HCUT.out).mono ?_;rintro e w2 ⟨rfl,hb2⟩;have hg2:=yt hb2;have J2:=hJ.turn _ _ _ _ _ hJs hg2 (fun r e=>by cases e);clear hb2 hg2 et HCUT hkk
  gi_wp2
  refine ⟨(fun _ h=>by cases h),?_⟩
  gi_wp2
  refine bodyPost_ret (results_none rfl _ _ _) rfl ?_;exact ⟨⟨_,rfl⟩,.inl ⟨_,G,by rw [HSUP.out];exact hnext.out,J2⟩⟩
end Go.Proofs.YtjbciamhhfcdoaaGreatDoor
namespace Hs
open Go
theorem rk (now:Int) (T:List PinP) (L:List EntP):∀ (pre r:List Bs),(∀ s∈pre,covAt now T L s false=none)→wH now T L (pre++r)=wH now T L r
 | [],r,_=>rfl
 | s::p,r,h=>by
  rw [List.cons_append,wH,h s (List.mem_cons_self ..)];exact rk now T L p r (fun x hx=>h x (List.mem_cons_of_mem _ hx))
theorem Ux (now:Int) (T:List PinP) (L:List EntP) (pre:List Bs) (x:Bs) (r:List Bs) (c:CovP) (h:∀ s∈pre,covAt now T L s false=none) (hx:covAt now T L x false=some c):wH now T L (pre++x::r)=c:=by
 rw [rk now T L pre _ h,wH,hx]
theorem Ts {now:Int} {T:List PinP} {L:List EntP} {h:HostP} (hk:¬ (h.kind=1∧zT h=true)):uT now T L h=cov0:=if_neg hk
theorem Qz {now:Int} {T:List PinP} {L:List EntP} {h:HostP} (hk:h.kind=1∧zT h=true) {c:CovP} (hc:covAt now T L h.name true=some c):uT now T L h=c:=by
 unfold uT;rw [if_pos hk,hc]
theorem Qy {now:Int} {T:List PinP} {L:List EntP} {h:HostP} (hk:h.kind=1∧zT h=true) (hc:covAt now T L h.name true=none):uT now T L h=wH now T L (yl h.name):=by
 unfold uT;rw [if_pos hk,hc]
end Hs
namespace Go.Proofs.YtjbciamhhfcdoaaGreatDoor
open Go.RowKit Go.Shelf Hs
attribute [local go_sem] Oper.semAt_some
def CInv (w:World) (z y:Nat) (now:Int) (q:Option Addr) (T:List PinP) (pre:List Bs) (G:Nat→Prop) (W:World):Prop :=
 (∀ s∈pre,covAt now T [] s false=none)∧BlkL W z 3 [.int .i64 now]∧BlkL W (z+1) 27 [.pointer q]∧BlkL W (z+2) 51 [.pointer none]∧BlkL W (z+4) 67 (zm cov0)∧BlkL W (z+5) 67 (zm cov0)∧W.heap[y+1]? =some (.deferred (some []))∧Below z w W∧(∀ k,G k→z+5<k∧k≠y+1)
def COut (w:World) (z y:Nat) (now:Int) (T:List PinP) (S:List Bs) (c:Code) (pre:List Bs) (G:Nat→Prop) (W:World):Prop :=
 c= .exit 0∧BlkL W (z+4) 67 (zm cov0)∧BlkL W (z+5) 67 (zm (wH now T [] S))∧W.heap[y+1]? =some (.deferred (some []))∧Below z w W∧(∀ k,G k→z+5<k∧k≠y+1)
theorem CInv.turn {w:World} {z y:Nat} {now:Int} {q:Option Addr} {T:List PinP} {pre:List Bs} {G:Nat→Prop} {A B:World} {row:Option Nat} (h:CInv w z y now q T pre G A) (hz:z≤w.heap.size) (hy:z+5<y) (hg:A.grownBy B row) (hr:∀ r,row=some r→G r∨r=y+2):CInv w z y now q T pre G B:=by
 obtain ⟨h1,b0,b1,b2,b4,b5,h3,h4,h5⟩:=h;have hlow:∀ r,row=some r→z+5<r∧r≠y+1:=fun r e=>(hr r e).elim (h5 r) (fun h=>by omega);have ne:∀ k,k≤z+5→some k≠row:=fun k hk e=>by have:=hlow _ e.symm;omega
 exact ⟨h1,b0.grown hg (ne _ (by omega)),b1.grown hg (ne _ (by omega)),b2.grown hg (ne _ (by omega)),b4.grown hg (ne _ (by omega)),b5.grown hg (ne _ (by omega)),(hg.block _ (Array.getElem?_eq_some_iff.1 h3).1 (fun e=>(hlow _ e.symm).2 rfl)).trans h3,h4.grown hg (by have:=h4.size;omega) (fun j hj=>by have:=hlow j hj;omega),h5⟩
theorem CInv.lay {w:World} {z y:Nat} {now:Int} {q:Option Addr} {T:List PinP} {pre:List Bs} {G:Nat→Prop} {A B:World} (h:CInv w z y now q T pre G A) (hz:z≤w.heap.size) (hy:z+5<y) (hg:A.grownBy B none):CInv w z y now q T pre (fun k=>G k∨(A.heap.size≤k∧k<B.heap.size)) B:=by
 obtain ⟨h1,b0,b1,b2,b4,b5,h3,h4,h5⟩:=h;have hlt:=(Array.getElem?_eq_some_iff.1 h3).1;exact ⟨h1,b0.grown hg (by simp),b1.grown hg (by simp),b2.grown hg (by simp),b4.grown hg (by simp),b5.grown hg (by simp),(hg.block _ hlt (by simp)).trans h3,h4.grown hg (by have:=h4.size;omega) (fun j hj=>by cases hj),fun k hk=>hk.elim (h5 k) (fun h=>⟨by have:=b5.lt;omega,by omega⟩)⟩
theorem COut.turn {w:World} {z y:Nat} {now:Int} {T:List PinP} {S:List Bs} {c:Code} {pre:List Bs} {G:Nat→Prop} {A B:World} {row:Option Nat} (h:COut w z y now T S c pre G A) (hz:z≤w.heap.size) (hy:z+5<y) (hg:A.grownBy B row) (hr:∀ r,row=some r→G r∨r=y+2):COut w z y now T S c pre G B:=by
 obtain ⟨h1,b4,b5,h3,h4,h5⟩:=h;have hlow:∀ r,row=some r→z+5<r∧r≠y+1:=fun r e=>(hr r e).elim (h5 r) (fun h=>by omega);have ne:∀ k,k≤z+5→some k≠row:=fun k hk e=>by have:=hlow _ e.symm;omega
 exact ⟨h1,b4.grown hg (ne _ (by omega)),b5.grown hg (ne _ (by omega)),(hg.block _ (Array.getElem?_eq_some_iff.1 h3).1 (fun e=>(hlow _ e.symm).2 rfl)).trans h3,h4.grown hg (by have:=h4.size;omega) (fun j hj=>by have:=hlow j hj;omega),h5⟩
theorem COut.lay {w:World} {z y:Nat} {now:Int} {T:List PinP} {S:List Bs} {c:Code} {pre:List Bs} {G:Nat→Prop} {A B:World} (h:COut w z y now T S c pre G A) (hz:z≤w.heap.size) (hy:z+5<y) (hg:A.grownBy B none):COut w z y now T S c pre (fun k=>G k∨(A.heap.size≤k∧k<B.heap.size)) B:=by
 obtain ⟨h1,b4,b5,h3,h4,h5⟩:=h;have hlt:=(Array.getElem?_eq_some_iff.1 h3).1;exact ⟨h1,b4.grown hg (by simp),b5.grown hg (by simp),(hg.block _ hlt (by simp)).trans h3,h4.grown hg (by have:=h4.size;omega) (fun j hj=>by cases hj),fun k hk=>hk.elim (h5 k) (fun h=>⟨by have:=b5.lt;omega,by omega⟩)⟩
theorem yj {W:World} {g:Nat} {T:TypeId} {l:List Value} (h:BlkL W g T l) (hl:l.length=3) (a b c:Value):BlkL (((W.setCell ⟨g,0,none⟩ a).setCell ⟨g,1,none⟩ b).setCell ⟨g,2,none⟩ c) g T [a,b,c]:=by
 have h2:=((h.set 0 (by omega) a).set 1 (by simp;omega) b).set 2 (by simp;omega) c
 match l,hl with
 | [x,y,z],_=>exact h2
theorem zO {B:Nat} {w W:World} (h:Below B w W) {g:Nat} (hg:B≤g) (a b c:Value):Below B w (((W.setCell ⟨g,0,none⟩ a).setCell ⟨g,1,none⟩ b).setCell ⟨g,2,none⟩ c) :=
 ((h.trans (zB _ g 0 a hg)).trans (zB _ g 1 b hg)).trans (zB _ g 2 c hg)
theorem sS {W:World} {k:Nat} {o:Obj} (h:W.heap[k]? =some o) {g:Nat} (hg:k≠g) (a b c:Value):(((W.setCell ⟨g,0,none⟩ a).setCell ⟨g,1,none⟩ b).setCell ⟨g,2,none⟩ c).heap[k]? =some o :=
 (Below.heap_setCell _ _ _ k hg).trans ((Below.heap_setCell _ _ _ k hg).trans ((Below.heap_setCell _ _ _ k hg).trans h))
end Go.Proofs.YtjbciamhhfcdoaaGreatDoor
namespace Go.Proofs.YtjbciamhhfcdoaaGreatDoor
open Go.RowKit Go.Maps Hs
theorem RP (s:Bs) (hs:s.length≤maxLen):keyOf Tryz.prog 9 (.string (mk s))=some (.string s):=by rw [WideMaps.keyOf_string_mk Tryz.underlying9 (by rw [zh];exact hs)];exact congrArg some (congrArg Lit.string (zj s))
theorem RQ:keyOf Tryz.prog 9 (.string ⟨#[104,116,116,112]⟩)=some (.string yQ):=RP yQ (by simp [yQ,maxLen])
theorem Jk:keyOf Tryz.prog 9 (.string ⟨#[119,115]⟩)=some (.string bWs):=RP bWs (by simp [bWs,maxLen])
theorem uU {P:Program} (w:World) {ops:Array Oper} {rest:List Oper} {o:Oper} {a:Act} {Q:Exit→Act→World→Prop}
  (hg:o.guard=none) (m x v:Operand) (t:TypeId) (hop:o.op=Op.insert t m x v)
  (k e:TypeId) (K:Keyed P k) (ht:P.underlying t=some (.map k e)) (R:Value→Option (DataW Unit × List MemPlace)) (b n:Nat) (D:DataW Unit)
  (hm:a.eval m= .map (some b)) (hown:w.ownsMap P k R b n D) (hn:n<maxLen) (key val:Value) (kl:Lit) (hx:a.eval x=key) (hv:a.eval v=val) (hkey:keyOf P k key=some kl)
  (d:DataW Unit) (ps:List MemPlace) (hval:R val=some (d,ps))
  (hK:∀ w',w'.ownsMap P k R b (n+1) (D.put kl d)→w.grownBy w' (some b)→wpList P ops Q rest (a.put o.dst undef) w') :
  wpList P ops Q (o::rest) a w:=by
 refine wpList_plain hg fun K' hK'=> ?_;obtain ⟨w',hrun,r1,r2⟩:=hown.update K ht hn hkey hval;unfold Oper.wp;simp [execOp,hop,hm,hx,hv,hrun,Result.andThen];exact hK' _ _ (hK w' r1 r2)
set_option maxRecDepth 20000
set_option maxHeartbeats 4000000
theorem TH (u:UrlP) (w:World) (hw:ym u.host):Calls Tryz.prog 113 #[.agg (za u).toArray] w fun e w'=>e= .returned (.agg (za (yd u)).toArray)∧Below w.heap.size w w':=by
 obtain ⟨W0,hW0⟩:=KZ6 ((w.alloc (.cells (za u).toArray 62)).alloc (.cells (za zu).toArray 62));have hbA:Below w.heap.size w W0:=by rw [hW0];exact ((Below.refl _ w).alloc (Nat.le_refl _) _).alloc (by simp) _
 have hb0:BlkL W0 w.heap.size 62 (za u):=by rw [hW0];exact (BlkL.new w _ _).alloc _
 have hr0:BlkL W0 (w.heap.size+1) 62 (za zu):=by
  rw [hW0];have:=BlkL.new (w.alloc (.cells (za u).toArray 62)) 62 (za zu)
  simpa using this
 have HW0:Hid ((w.alloc (.cells (za u).toArray 62)).alloc (.cells #[.string ⟨#[]⟩,.string ⟨#[]⟩,.int .i64 0,.string ⟨#[]⟩,.int .u32 0,.int .u16 0,.int .u16 0,.int .u16 0,.int .u16 0,.int .u16 0,.int .u16 0,.int .u16 0,.int .u16 0,.int .i64 0,.string ⟨#[]⟩] 62)=W0):=KZ9 hW0.symm;have hsz:W0.heap.size=w.heap.size+2:=by rw [hW0];simp
 have HI0:=KZ9 (zV hw.1);have HSZ0:=KZ9 (show (za zu).toArray.size=(za u).toArray.size by rw [List.size_toArray,List.size_toArray,xo hw.1];rfl);have HIN:=KZ9 (jL u W0);have HBA:=KZ9 hbA;have HB0:=KZ9 hb0;have HR0:=KZ9 hr0;have hmm:=@run_makeMap Tryz.prog;clear hW0 hbA hb0 hr0;have hn1:=@Xl u;have hn2:=@Yj u;by_cases h80:zv u.scheme=80
 ·have hup:=hn2 h80;have hin:=HIN.out;rw [KZ7 h80] at hin;have HIN2:=KZ9 hin;have hsch:u.scheme=yQ∨u.scheme=bWs:=by
   have:=yr u.scheme;rcases this with ⟨_,h⟩ | ⟨h,_⟩ | ⟨h,_⟩
   ·exact h
   ·omega
   omega
  have HSCH:=KZ9 hsch;have HUP:=KZ9 hup;clear hin HIN hn1 hn2 h80 hup hsch;go_enter Tryz.func113,Tryz.ntmps113
  go_upto_region 1 with fail
  rw [HW0.out];clear HW0;go_wp2_with (refine wpList_load_row rfl 62 (.tmp 1) rfl w.heap.size rfl 62 _ _ _ HB0.out Tryz.underlying62 rfl HI0.out ?_)
  refine HIN2.out.mono ?_;rintro e w1 ⟨rfl,hb1⟩;have hs1:=hb1.size;have HB1:=KZ9 (HB0.out.below (by omega) hb1);have HR1:=KZ9 (HR0.out.below (by omega) hb1);have HA1:=KZ9 (HBA.out.trans (hb1.mono (by omega)));clear hb1 HIN2 HB0 HR0 HBA;go_upto_region 4 with (first
   | (refine uU _ rfl _ _ _ 193 rfl 9 9 qz Tryz.underlying193 qA w1.heap.size 0 (.map []) rfl (World.ownsMap_made w1 _ _ _) (by decide) _ _ (.string yQ) rfl rfl RQ (.lit (.string zG)) [] rfl ?_;intro w2 hown2 hgrow2)
   | (refine uU _ rfl _ _ _ 193 rfl 9 9 qz Tryz.underlying193 qA w1.heap.size 1 mapU1 rfl hown2 (by decide) _ _ (.string bWs) rfl rfl Jk (.lit (.string rK)) [] rfl ?_;intro w3 hown3 hgrow3;have c3:=(((HB1.out.alloc (.map #[] 0)).grown hgrow2 (by simp;omega)).grown hgrow3 (by simp;omega)).c 0 _ (pr u).1;have f3:=(((HB1.out.alloc (.map #[] 0)).grown hgrow2 (by simp;omega)).grown hgrow3 (by simp;omega)).f 0)
   | (refine po rfl _ _ rfl w1.heap.size 2 rfl hown3 u.scheme rfl HSCH.out ?_))
  all_goals try omega
  have hb3:=((HB1.out.alloc (.map #[] 0)).grown hgrow2 (by simp;omega)).grown hgrow3 (by simp;omega);have hr3:=((HR1.out.alloc (.map #[] 0)).grown hgrow2 (by simp;omega)).grown hgrow3 (by simp;omega);have hsa:w1.heap.size+1≤w2.heap.size:=by have:=hgrow2.size;simpa using this
  have hA3:=((HA1.out.alloc (by omega) (.map #[] 0)).grown hgrow2 (by simp;omega) (fun k hk=>by cases hk;omega)).grown hgrow3 (by omega) (fun k hk=>by cases hk;omega);have hb5:=hb3.set 0 (by rw [xo hw.1];omega) (.string (mk (yp u.scheme)));have hr5:=hr3.other (p:=w.heap.size) (by omega) 0 (.string (mk (yp u.scheme)));have hA5:=hA3.trans (yV w3 w.heap.size 0 (.string (mk (yp u.scheme))) (Nat.le_refl _));have e5:(za u).set 0 (.string (mk (yp u.scheme)))=za { u with scheme:=yp u.scheme }:=rfl;rw [e5] at hb5;have hs5:(w3.setCell ⟨w.heap.size,0,none⟩ (.string (mk (yp u.scheme)))).heap.size=w3.heap.size:=by simp
  have hs3:w.heap.size+2≤w3.heap.size:=by have:=hgrow3.size;omega
  generalize w3.setCell ⟨w.heap.size,0,none⟩ (.string (mk (yp u.scheme)))=W5 at *;obtain ⟨us,hus⟩:=KZ6 (yp u.scheme);have hup2:=HUP.out;rw [←hus] at hup2;simp only [←hus] at hb5 ⊢;have hd:=fun W=>rq (mk us) W;simp only [zj] at hd;obtain ⟨D,hD⟩:=KZ6 (zv us);simp only [←hD] at hd hup2;have HD:=KZ9 hd;have HUP2:=KZ9 hup2;have d0:=hb5.c 0 _ rfl;have g2:=vP { u with scheme:=us } hw.1;have d13:=hb5.c 13 _ g2.1;have f13:=hb5.f 13;simp only at d13;have HB5:=KZ9 hb5;have HR5:=KZ9 hr5;have HA5:=KZ9 hA5;clear hb3 hr3 hA3 hb5 hr5 hA5 hd hD hus hup2 HUP hgrow2 hgrow3 hown2 hown3 c3 f3 e5 hs5 hsa HB1 HR1 HA1 hmm g2 HSCH;refine wp_region_quiet_lit (by kernel_rfl) (by kernel_rfl) ?_;repeat (go_big_quiet_step (fail))
  go_big_quiet_want
  go_big_quiet_op
  apply Exists.intro;refine ⟨fun _=> ?_,?_⟩
  ·exact Calls.quiet_of_same ((HD.out _).mono (fun _ _ h=>⟨h.1,h.2.symm⟩))
  go_big_quiet_on
  repeat (go_big_quiet_step (fail))
  refine wpQuiet_nil ?_;intro _ hw';obtain ⟨nq,hw''⟩:=hw';subst hw'';have hb6:=HB5.out.drewN nq;have hr6:=HR5.out.drewN nq;have hA6:=below_drewN HA5.out nq;generalize W5.drewN nq=W6 at *;have f13:=hb6.f 13;have d13:=hb6.c 13 _ (vP { u with scheme:=us } hw.1).1;by_cases hpd:u.port=D
  ·have g5:(u.port==D)=true:=by simpa using hpd
   have hup3:=HUP2.out;rw [if_pos hpd] at hup3;have hb7:=hb6.set 13 (by rw [xo (u:={ u with scheme:=us }) hw.1];omega) (.int .i64 (-1));have e7:(za { u with scheme:=us }).set 13 (.int .i64 (-1))=za ⟨us,u.user,u.host,-1,u.rest⟩:=by
    have h11:=xR hw.1;have e6:za { u with scheme:=us }=([.string (mk us),.string (mk u.user)]++zc u.host)++[.int .i64 u.port,.string (mk u.rest)]:=by simp [za]
    rw [e6,List.set_append_right _ _ (by simp [h11])];simp [h11,za]
   rw [e7] at hb7;have HB7:=KZ9 hb7;have HR7:=KZ9 (hr6.other (p:=w.heap.size) (by omega) 13 (.int .i64 (-1)));have HA7:=KZ9 (hA6.trans (yV W6 w.heap.size 13 (.int .i64 (-1)) (Nat.le_refl _)));have HI7:=KZ9 (zV (u:=⟨us,u.user,u.host,-1,u.rest⟩) hw.1);have HS7:=KZ9 (show (za zu).toArray.size=(za ⟨us,u.user,u.host,-1,u.rest⟩).toArray.size by rw [List.size_toArray,List.size_toArray,xo (u:=⟨us,u.user,u.host,-1,u.rest⟩) hw.1];rfl);have HUP3:=KZ9 hup3;clear hup3 hb7 e7 hpd HUP2 hb6 hr6 hA6;go_wp2_with (first
    | refine wpList_load_row rfl 62 (.tmp 1) rfl w.heap.size rfl 62 _ _ _ HB7.out Tryz.underlying62 rfl HI7.out ?_
    | refine wpList_store_row rfl 62 (.tmp 2) (.tmp 20) rfl (w.heap.size+1) (za ⟨us,u.user,u.host,-1,u.rest⟩).toArray rfl rfl 62 _ HR7.out HI7.out HS7.out (ze (yk _)) ?_)
   all_goals try omega
   refine bodyPost_ret (results_cell_row rfl _ _ (w.heap.size+1) 62 _ _ _ rfl (HR7.out.setRow (za ⟨us,u.user,u.host,-1,u.rest⟩)) Tryz.underlying62 rfl HI7.out) rfl ?_;rw [HUP3.out];exact ⟨rfl,below_setRow HA7.out (by omega) _⟩
  have g5:(u.port==D)=false:=by simpa using hpd
  have hup3:=HUP2.out;rw [if_neg hpd] at hup3;have HB7:Hid (BlkL W6 w.heap.size 62 (za ⟨us,u.user,u.host,u.port,u.rest⟩)):=KZ9 hb6;have HR7:=KZ9 hr6;have HA7:=KZ9 hA6;have HI7:=KZ9 (zV (u:=⟨us,u.user,u.host,u.port,u.rest⟩) hw.1);have HS7:=KZ9 (show (za zu).toArray.size=(za ⟨us,u.user,u.host,u.port,u.rest⟩).toArray.size by rw [List.size_toArray,List.size_toArray,xo (u:=⟨us,u.user,u.host,u.port,u.rest⟩) hw.1];rfl);have HUP3:=KZ9 hup3;clear hup3 hpd HUP2 hb6 hr6 hA6;go_wp2_with (first
   | refine wpList_load_row rfl 62 (.tmp 1) rfl w.heap.size rfl 62 _ _ _ HB7.out Tryz.underlying62 rfl HI7.out ?_
   | refine wpList_store_row rfl 62 (.tmp 2) (.tmp 20) rfl (w.heap.size+1) (za ⟨us,u.user,u.host,u.port,u.rest⟩).toArray rfl rfl 62 _ HR7.out HI7.out HS7.out (ze (yk _)) ?_)
  all_goals try omega
  refine bodyPost_ret (results_cell_row rfl _ _ (w.heap.size+1) 62 _ _ _ rfl (HR7.out.setRow (za ⟨us,u.user,u.host,u.port,u.rest⟩)) Tryz.underlying62 rfl HI7.out) rfl ?_;rw [HUP3.out];exact ⟨rfl,below_setRow HA7.out (by omega) _⟩
 have hup:=hn1 h80;have hin:=HIN.out;rw [KZ8 h80] at hin;have HIN2:=KZ9 hin;have HUP:=KZ9 hup;clear hin HIN hn1 hn2 h80 hup hmm;go_enter Tryz.func113,Tryz.ntmps113
 go_upto_region 1 with fail
 rw [HW0.out];clear HW0;go_wp2_with (refine wpList_load_row rfl 62 (.tmp 1) rfl w.heap.size rfl 62 _ _ _ HB0.out Tryz.underlying62 rfl HI0.out ?_)
 refine HIN2.out.mono ?_;rintro e w1 ⟨rfl,hb1⟩;have HB1:=KZ9 (HB0.out.below (by omega) hb1);have HR1:=KZ9 (HR0.out.below (by omega) hb1);have HA1:=KZ9 (HBA.out.trans (hb1.mono (by omega)));clear hb1 HIN2 HB0 HR0 HBA;go_wp2_with (first
  | refine wpList_load_row rfl 62 (.tmp 1) rfl w.heap.size rfl 62 _ _ _ HB1.out Tryz.underlying62 rfl HI0.out ?_
  | refine wpList_store_row rfl 62 (.tmp 2) (.tmp 6) rfl (w.heap.size+1) (za u).toArray rfl rfl 62 _ HR1.out HI0.out HSZ0.out (ze (yk u)) ?_)
 all_goals try omega
 refine bodyPost_ret (results_cell_row rfl _ _ (w.heap.size+1) 62 _ _ _ rfl (HR1.out.setRow (za u)) Tryz.underlying62 rfl HI0.out) rfl ?_;rw [HUP.out];exact ⟨rfl,below_setRow HA1.out (by omega) _⟩
end Go.Proofs.YtjbciamhhfcdoaaGreatDoor
namespace Go.Proofs.YtjbciamhhfcdoaaGreatDoor
open Go.RowKit Hs
theorem qr (d:Int) (w:World):Calls Tryz.prog 72 #[.int .i64 d] w fun e w'=>e= .returned (.bool (xO d))∧w=w':=by
 go_enter Tryz.func72,Tryz.ntmps72
 go_wp2
 all_goals
  go_ret;refine ⟨uD ?_,rfl⟩;first | (refine QK ?_;omega) | (refine Uz ?_;omega) | (refine Jv ?_;omega) | (refine UD ?_;omega) | (refine Uy ?_;omega)
set_option maxHeartbeats 800000
theorem Za (d:Int) (b:Bool) (w:World):Calls Tryz.prog 114 #[.int .i64 d,.bool b] w fun e w'=>e= .returned (.int .i64 (sE d b))∧w=w':=by
 cases hv:xO d
 ·have hr:=KZ9 (of_decide_eq_false hv);cases b
  all_goals
   go_enter Tryz.func114,Tryz.ntmps114
   go_wp2_with (go_at_call 72;refine (qr _ _).mono ?_;rintro e w' ⟨rfl,rfl⟩)
   all_goals
    go_ret;refine ⟨Yu ?_,rfl⟩;have hr':=hr.out
    (try simp only [beq_iff_eq,beq_eq_false_iff_ne,ne_eq] at *)
    first | (refine Z7 _ _ ?_;omega) | (refine Va _ _ ?_;omega)
 have hr:=KZ9 (of_decide_eq_true hv);cases b
 all_goals
  go_enter Tryz.func114,Tryz.ntmps114
  go_wp2_with (go_at_call 72;refine (qr _ _).mono ?_;rintro e w' ⟨rfl,rfl⟩)
  all_goals
   go_ret;refine ⟨Yu ?_,rfl⟩;have hr':=hr.out
   (try simp only [beq_iff_eq,beq_eq_false_iff_ne,ne_eq] at *)
   first | (refine Z7 _ _ ?_;omega) | (refine Va _ _ ?_;omega)
end Go.Proofs.YtjbciamhhfcdoaaGreatDoor
namespace Hs
open Go
end Hs
namespace Go.Proofs.YtjbciamhhfcdoaaGreatDoor
open Go.RowKit Hs
def zZ (c:CtxP) (hv:Value):List Value:=[.bool c.secure,.bool c.prohibits,.bool c.upgrade,.bool c.blockAll,hv]
def zP (d:DecP):List Value:=[.int .i64 (d.action:Int),.int .i64 (d.reason:Int),.string (mk d.url)]
theorem yE:(Tryz.prog.info? 34).map (·.size)=some 3:=by kernel_rfl
theorem wS:(Tryz.prog.info? 41).map (·.size)=some 5:=by kernel_rfl
set_option maxRecDepth 20000
set_option maxHeartbeats 8000000
theorem P5 (c:CtxP) (hv:Value) (h:HostP) (w:World) (hB:Base6 w) (hS:Strs w hv c.hosts) (hw:ym h) (hn:h.name.length≤20000):Calls Tryz.prog 25 #[.agg (zZ c hv).toArray,.agg (zc h).toArray] w fun e w'=>e= .returned (.bool (YK c h))∧Below w.heap.size w w':=by
 obtain ⟨z,hz⟩:=KZ6 w.heap.size;obtain ⟨W0,hW0⟩:=KZ6 ((w.alloc (.cells (zZ c hv).toArray 41)).alloc (.cells (zc h).toArray 60));have hbA:Below z w W0:=by rw [hW0,hz];exact ((Below.refl _ w).alloc (Nat.le_refl _) _).alloc (by simp) _
 have b0:BlkL W0 z 41 (zZ c hv):=by rw [hW0,hz];exact (BlkL.new w _ _).alloc _
 have b1:BlkL W0 (z+1) 60 (zc h):=by
  rw [hW0,hz];have:=BlkL.new (w.alloc (.cells (zZ c hv).toArray 41)) 60 (zc h);simp only [World.size_alloc] at this;exact this
 have HW0:=KZ9 hW0.symm;have hsz:W0.heap.size=z+2:=by rw [hW0,hz];simp
 have hB0:Base6 W0:=hB.below (hz▸hbA);have hS0:Strs W0 hv c.hosts:=hS.below (hz▸hbA);have HV:=KZ9 (fun (W1:World) (h1:Below W0.heap.size W0 W1)=>jB h W1 (hB0.below h1).1 hw (by omega));have HF:=KZ9 (fun (W1:World) (h1:Below W0.heap.size W0 W1)=>gh h W1 (hB0.below h1) hw (by omega));have HC:=KZ9 (fun (W1:World) (h1:Below W0.heap.size W0 W1)=>tz hv c.hosts (mk (yf h)) W1 (hS0.below h1));have hdef:YK c h=(zT h&&decide (yf h∈c.hosts)):=rfl;simp only [zj] at HC;obtain ⟨ok,hok⟩:=KZ6 (zT h);obtain ⟨cn,hcn⟩:=KZ6 (decide (yf h∈c.hosts));obtain ⟨tx,htx⟩:=KZ6 (mk (yf h));rw [←hok,←hcn] at hdef;simp only [←hok] at HV;simp only [←hcn,←htx] at HC;simp only [←htx] at HF;have HD:=KZ9 hdef;have HBA:=KZ9 hbA;have HZ:=KZ9 hz;have HI:=KZ9 (xI hw.1);have HB1:=KZ9 b1;have hz':=Nat.le_of_eq hz
 clear hW0 hbA hB hB0 hS hS0 hok hcn htx hdef hz;go_enter Tryz.func25,Tryz.ntmps25
 go_upto_region 1 with fail
 rw [HW0.out,←HZ.out];clear HW0;obtain ⟨kd,nm,va,v6⟩:=h;obtain ⟨a0,a1,a2,a3,a4,a5,a6,a7,rfl⟩:=si hw.1;clear HB1 HI;obtain ⟨q0,q1,q2,q3,q4,q5,q6,q7,q8,q9,q10⟩:=BlkL.fs11 (fun x:yg W0=>(b1.below (by omega) x.2));have r4:=fun x:yg W0=>(b0.below (by omega) x.2).c 4 _ rfl;have F1:=KZ9 (fun x:yg W0=>HV.out x.1 x.2);have F2:=KZ9 (fun x:yg W0=>HF.out x.1 x.2);have F3:=KZ9 (fun x:yg W0=>HC.out x.1 x.2);clear b0 b1 HV HF HC;cases ok
 ·refine zM W0 (by kernel_rfl) (by kernel_rfl) (Below.refl _ _) ?_;repeat (go_big_quiet_step (fail))
  go_big_quiet_step (exact Calls.later (F1.out _))
  repeat (go_big_quiet_step (fail))
  refine wpQuiet_nil ?_;intro w5 hw';obtain ⟨⟨w6,hb6⟩,hw6⟩:=hw';have HB5:Hid (Below W0.heap.size W0 w5):=KZ9 (hw6▸hb6);clear hw6 hb6 q0 q1 q2 q3 q4 q5 q6 q7 q8 q9 q10 r4 F1 F2 F3;go_wp2;go_ret;rw [HD.out];exact ⟨rfl,HZ.out▸HBA.out.trans (HB5.out.mono (by omega))⟩
 refine zM W0 (by kernel_rfl) (by kernel_rfl) (Below.refl _ _) ?_;repeat (go_big_quiet_step (fail))
 go_big_quiet_step (exact Calls.later (F1.out _))
 repeat (go_big_quiet_step (fail))
 go_big_quiet_step (exact Calls.later (F2.out _))
 repeat (go_big_quiet_step (fail))
 go_big_quiet_step (exact Calls.later ((F3.out _).mono (fun _ _ h=>⟨h.1,by rw [←h.2];exact Below.refl _ _⟩)))
 repeat (go_big_quiet_step (fail))
 refine wpQuiet_nil ?_;intro w5 hw';obtain ⟨⟨w6,hb6⟩,hw6⟩:=hw';have HB5:Hid (Below W0.heap.size W0 w5):=KZ9 (hw6▸hb6);clear hw6 hb6 q0 q1 q2 q3 q4 q5 q6 q7 q8 q9 q10 r4 F1 F2 F3;go_wp2;go_ret;rw [HD.out];exact ⟨rfl,HZ.out▸HBA.out.trans (HB5.out.mono (by omega))⟩
end Go.Proofs.YtjbciamhhfcdoaaGreatDoor
namespace Hs
open Go
theorem Q7 (u:UrlP) (d:Int) (img:Bool) (c:CtxP) (v:CovP) (ins sb tr dat doc cat kd nv:Bool) (h8:nv=YK c u.host) (h1:ins=decide (zv u.scheme=80)) (h2:sb=((v.source:Int) != 0)) (h3:tr=yv u) (h4:dat=decide (u.scheme=Tw)) (h5:doc=(d==4)) (h6:cat=(sE d img==2)) (h7:kd=((u.host.kind:Int)==1)) :
  xK u d img c v=if (ins&&sb)=true then ⟨2,2,yW (yd u)⟩ else if (tr||dat)=true then ⟨1,1,yW u⟩ else if (ins&&(c.upgrade&&(!doc||nv)))=true then ⟨2,3,yW (yd u)⟩ else if (doc|| !c.prohibits)=true then ⟨1,6,yW u⟩ else if (ins&&(cat&&(kd&& !c.blockAll)))=true then ⟨2,4,yW (yd u)⟩ else ⟨3,5,[]⟩:=by
 have k1:((u.host.kind:Int)==1)=decide (u.host.kind=1):=by rw [Bool.eq_iff_iff];simp;omega
 have k2:((v.source:Int) != 0)=decide (v.source≠0):=by rw [Bool.eq_iff_iff];simp
 unfold xK;subst h1 h2 h3 h4 h5 h6 h7 h8;rw [k1,k2];simp
end Hs
namespace Go.Proofs.YtjbciamhhfcdoaaGreatDoor
open Go.RowKit Hs
set_option maxRecDepth 20000
set_option maxHeartbeats 8000000
theorem Pw (u:UrlP) (d:Int) (img:Bool) (c:CtxP) (hv:Value) (v:CovP) (w:World) (hB:Base6 w) (hw:ym u.host) (hb:tS u) (hT:okT (xd u)) (hw':ym (yd u).host) (hb':tS (yd u)) (hT':okT (xd (yd u))) (hS:Strs w hv c.hosts) :
  Calls Tryz.prog 73 #[.agg (za u).toArray,.int .i64 d,.bool img,.agg (zZ c hv).toArray,.agg (zm v).toArray] w fun e w'=>e= .returned (.agg (zP (xK u d img c v)).toArray)∧Below w.heap.size w w':=by
 obtain ⟨z,hz⟩:=KZ6 w.heap.size;obtain ⟨W0,hW0⟩:=KZ6 ((((w.alloc (.cells (za u).toArray 62)).alloc (.cells (zZ c hv).toArray 41)).alloc (.cells (zm v).toArray 67)).alloc (.cells #[.int .i64 0,.int .i64 0,.string ⟨#[]⟩] 34));have hbA:Below z w W0:=by rw [hW0,hz];exact ((((Below.refl _ w).alloc (Nat.le_refl _) _).alloc (by simp) _).alloc (by simp;omega) _).alloc (by simp;omega) _
 have b0:BlkL W0 z 62 (za u):=by rw [hW0,hz];exact (((BlkL.new w _ _).alloc _).alloc _).alloc _
 have b1:BlkL W0 (z+1) 41 (zZ c hv):=by
  rw [hW0,hz];have:=((BlkL.new (w.alloc (.cells (za u).toArray 62)) 41 (zZ c hv)).alloc (.cells (zm v).toArray 67)).alloc (.cells #[.int .i64 0,.int .i64 0,.string ⟨#[]⟩] 34);simp only [World.size_alloc] at this;exact this
 have b2:BlkL W0 (z+2) 67 (zm v):=by
  rw [hW0,hz];have:=(BlkL.new ((w.alloc (.cells (za u).toArray 62)).alloc (.cells (zZ c hv).toArray 41)) 67 (zm v)).alloc (.cells #[.int .i64 0,.int .i64 0,.string ⟨#[]⟩] 34);simp only [World.size_alloc] at this;exact this
 have b3:BlkL W0 (z+3) 34 (zP ⟨0,0,[]⟩):=by
  rw [hW0,hz];have:=BlkL.new (((w.alloc (.cells (za u).toArray 62)).alloc (.cells (zZ c hv).toArray 41)).alloc (.cells (zm v).toArray 67)) 34 (zP ⟨0,0,[]⟩);simp only [World.size_alloc] at this;exact this
 have HW0:=KZ9 hW0.symm;have hsz:W0.heap.size=z+4:=by rw [hW0,hz];simp
 have HI0:=KZ9 (zV hw.1);have HW8:=KZ9 hw;have HB0:=KZ9 b0;have HBA:=KZ9 hbA;have HBB:=KZ9 hB;have HZ:=KZ9 hz;have hz':=Nat.le_of_eq hz;have HIN:=KZ9 (jL u W0);have hB0:Base6 W0:=hB.below (hz▸hbA);have FM:=KZ9 (fun (W1:World) (h1:Below W0.heap.size W0 W1)=>Xm u W1 (hB0.below h1) hw hb hT);have UP:=KZ9 (fun (W1:World)=>TH u W1 hw);have FM2:=KZ9 (fun (W1:World) (h1:Below W0.heap.size W0 W1)=>Xm (yd u) W1 (hB0.below h1) hw' hb' hT');have OT:=KZ9 (fun (W1:World) (h1:Below W0.heap.size W0 W1)=>YI u W1 (hB0.below h1) hw hb hT);have DC:=KZ9 (fun (W1:World)=>Za d img W1);have hbA':Below w.heap.size w W0:=hz▸hbA;have HNV:=KZ9 (fun (W1:World) (h1:Below W0.heap.size W0 W1)=>P5 c hv u.host W1 (hB0.below h1) (hS.below (hbA'.trans (h1.mono hbA'.size))) hw hb.2.2.1);obtain ⟨nv,hnv⟩:=KZ6 (YK c u.host)
 simp only [←hnv] at HNV;obtain ⟨xs,xp,xu,xb,xh⟩:=c;have hdef:=Q7 u d img ⟨xs,xp,xu,xb,xh⟩ v _ _ _ _ _ _ _ nv hnv rfl rfl rfl rfl rfl rfl rfl;obtain ⟨ins,hins⟩:=KZ6 (decide (zv u.scheme=80));rw [←hins] at hdef HIN;obtain ⟨tr,htr⟩:=KZ6 (yv u);simp only [←htr] at hdef OT;obtain ⟨fa,hfa⟩:=KZ6 (yW u);simp only [←hfa] at hdef FM;obtain ⟨fu,hfu⟩:=KZ6 (yW (yd u));simp only [←hfu] at hdef FM2;obtain ⟨ct,hct⟩:=KZ6 (sE d img);simp only [←hct] at hdef DC;obtain ⟨ca,hca⟩:=KZ6 ((ct==2));obtain ⟨ki,hki⟩:=KZ6 (((u.host.kind:Int)==1));obtain ⟨dc,hdc⟩:=KZ6 ((d==4));obtain ⟨da,hda⟩:=KZ6 (decide (u.scheme=Tw));obtain ⟨sb,hsb⟩:=KZ6 (((v.source:Int) != 0));rw [←hca,←hki,←hdc,←hda,←hsb] at hdef;have g1:(d==4)=dc:=hdc.symm;have g2:((v.source:Int) != 0)=sb:=hsb.symm;have g3:(ct==2)=ca:=hca.symm;have G4:=KZ9 hki
 have g5:((mk u.scheme).toList==([100,97,116,97]:Bs))=da:=by rw [toList_mk',yX];exact hda.symm
 clear hca hki hdc hda hsb;generalize xK u d img ⟨xs,xp,xu,xb,xh⟩ v=rv at hdef ⊢;have HDEF:=KZ9 hdef;clear hW0 b0 hbA hbA' hS hnv hB hT hb hb' hT' hw' hz hB0 hins htr hfa hfu hct hdef;go_enter Tryz.func73,Tryz.ntmps73
 go_upto_region 1 with fail
 rw [HW0.out,←HZ.out];clear HW0;rw [show z+1+1+1=z+3 from rfl,show z+1+1=z+2 from rfl];go_upto_region 2 with (refine wpList_load_row rfl 62 (.tmp 5) rfl z rfl 62 _ _ _ HB0.out Tryz.underlying62 rfl HI0.out ?_)
 all_goals try omega
 refine HIN.out.mono ?_;rintro e w1 ⟨rfl,hb1⟩;go_upto_region 2 with fail
 have hs1:=hb1.size;have B0:=HB0.out.below (by omega) hb1;have B1:=b1.below (by omega) hb1;have B2:=b2.below (by omega) hb1;have B3:=b3.below (by omega) hb1;have HA1:=KZ9 (HBA.out.trans (hb1.mono (by omega)));have F1:=KZ9 (fun x:yg w1=>FM.out x.1 (hb1.trans (x.2.mono hs1)));have F2:=KZ9 (fun x:yg w1=>FM2.out x.1 (hb1.trans (x.2.mono hs1)));have F3:=KZ9 (fun x:yg w1=>UP.out x.1);have NV1:=KZ9 (fun (W1:World) (h1:Below w1.heap.size w1 W1)=>HNV.out W1 (hb1.trans (h1.mono hs1)));have OT1:=KZ9 (fun (W1:World) (h1:Below w1.heap.size w1 W1)=>OT.out W1 (hb1.trans (h1.mono hs1)));clear b1 b2 b3 HB0 HBA hb1 FM FM2 UP OT HIN HI0 HBB HNV;obtain ⟨sc,us,⟨kd,nm,va,v6⟩,pt,rs⟩:=u;obtain ⟨a0,a1,a2,a3,a4,a5,a6,a7,rfl⟩:=si HW8.out.1;obtain ⟨q0,q1,q2,q3,q4,q5,q6,q7,q8,q9,q10,q11,q12,q13,q14⟩:=BlkL.fs15 (fun x:yg w1=>(B0.below (by omega) x.2))
 refine zM w1 (by kernel_rfl) (by kernel_rfl) (Below.refl _ _) ?_;repeat (go_big_quiet_step (fail))
 go_big_quiet_step (exact Calls.later (F1.out _))
 repeat (go_big_quiet_step (fail))
 go_big_quiet_step (exact Calls.later (F3.out _))
 repeat (go_big_quiet_step (fail))
 go_big_quiet_step (exact Calls.later (F2.out _))
 repeat (go_big_quiet_step (fail))
 refine wpQuiet_nil ?_;intro w5 hw';obtain ⟨⟨w6,hb6⟩,hw6⟩:=hw';have hb5:Below w1.heap.size w1 w5:=hw6▸hb6;clear hw6 hb6;have hs5:=hb5.size;have C0:=B0.below (by omega) hb5;have C1:=B1.below (by omega) hb5;have C2:=B2.below (by omega) hb5;have C3:=B3.below (by omega) hb5;have HA5:=KZ9 (HA1.out.trans (hb5.mono (by omega)));have OT5:=KZ9 (OT1.out w5 hb5);have NV5:=KZ9 (fun (W1:World) (h1:Below w5.heap.size w5 W1)=>NV1.out W1 (hb5.trans (h1.mono hb5.size)));clear NV1 q0 q1 q2 q3 q4 q5 q6 q7 q8 q9 q10 q11 q12 q13 q14 B0 B1 B2 B3 HA1 F1 F2 F3 OT1 hb5;have v0:=C2.c 0 _ rfl;have x1:=C1.c 1 _ rfl;have x2:=C1.c 2 _ rfl;have x3:=C1.c 3 _ rfl;obtain ⟨r0,r1,r2⟩:=BlkL.cs3 C3;have t0:=C3.f 0;have t1:=C3.f 1;have t2:=C3.f 2;obtain ⟨y0,y1,y2,y3,y4,y5,y6,y7,y8,y9,y10,y11,y12,y13,y14⟩:=BlkL.cs15 C0;cases ins
 ·go_wp2_with fail
  all_goals try omega
  refine OT5.out.mono ?_;rintro e w6 ⟨rfl,hb6⟩;have hs6:=hb6.size;have D0:=C0.below (by omega) hb6;have D1:=C1.below (by omega) hb6;have HD3:=KZ9 (C3.below (by omega) hb6);have HA6:=KZ9 (HA5.out.trans (hb6.mono (by omega)));clear hb6 x1 x2 x3 v0 r0 r1 r2 t0 t1 t2 OT5 C0 C1 C2 C3 HA5 y0 y1 y2 y3 y4 y5 y6 y7 y8 y9 y10 y11 y12 y13 y14;obtain ⟨r0,r1,r2⟩:=BlkL.cs3 HD3.out;have t0:=HD3.out.f 0;have t1:=HD3.out.f 1;have t2:=HD3.out.f 2;have x1:=D1.c 1 _ rfl;have x2:=D1.c 2 _ rfl;have x3:=D1.c 3 _ rfl;have y0:=D0.c 0 _ rfl;have y2:=D0.c 2 _ rfl;clear D0 D1;cases tr
  ·cases da
   ·cases dc
    ·cases xp
     ·have hfin:Hid (rv=⟨1,6,fa⟩):=KZ9 HDEF.out;go_wp2
      all_goals try omega
      refine bodyPost_ret (results_cell_row rfl _ _ (z+3) 34 _ _ _ rfl (yj HD3.out rfl (.int .i64 ((1:Nat):Int)) (.int .i64 ((6:Nat):Int)) (.string (mk fa))) Tryz.underlying34 rfl yE) rfl ?_;rw [hfin.out];exact ⟨rfl,HZ.out▸zO HA6.out (by omega) _ _ _⟩
     have hfin:Hid (rv=⟨3,5,[]⟩):=KZ9 HDEF.out;go_wp2
     all_goals try omega
     refine bodyPost_ret (results_cell_row rfl _ _ (z+3) 34 _ _ _ rfl (yj HD3.out rfl (.int .i64 ((3:Nat):Int)) (.int .i64 ((5:Nat):Int)) (.string (mk []))) Tryz.underlying34 rfl yE) rfl ?_;rw [hfin.out];exact ⟨rfl,HZ.out▸zO HA6.out (by omega) _ _ _⟩
    have hfin:Hid (rv=⟨1,6,fa⟩):=KZ9 HDEF.out;go_wp2
    all_goals try omega
    refine bodyPost_ret (results_cell_row rfl _ _ (z+3) 34 _ _ _ rfl (yj HD3.out rfl (.int .i64 ((1:Nat):Int)) (.int .i64 ((6:Nat):Int)) (.string (mk fa))) Tryz.underlying34 rfl yE) rfl ?_;rw [hfin.out];exact ⟨rfl,HZ.out▸zO HA6.out (by omega) _ _ _⟩
   have hfin:Hid (rv=⟨1,1,fa⟩):=KZ9 HDEF.out;go_wp2
   all_goals try omega
   refine bodyPost_ret (results_cell_row rfl _ _ (z+3) 34 _ _ _ rfl (yj HD3.out rfl (.int .i64 ((1:Nat):Int)) (.int .i64 ((1:Nat):Int)) (.string (mk fa))) Tryz.underlying34 rfl yE) rfl ?_;rw [hfin.out];exact ⟨rfl,HZ.out▸zO HA6.out (by omega) _ _ _⟩
  have hfin:Hid (rv=⟨1,1,fa⟩):=KZ9 HDEF.out;go_wp2
  all_goals try omega
  refine bodyPost_ret (results_cell_row rfl _ _ (z+3) 34 _ _ _ rfl (yj HD3.out rfl (.int .i64 ((1:Nat):Int)) (.int .i64 ((1:Nat):Int)) (.string (mk fa))) Tryz.underlying34 rfl yE) rfl ?_;rw [hfin.out];exact ⟨rfl,HZ.out▸zO HA6.out (by omega) _ _ _⟩
 cases sb
 ·go_wp2_with fail
  all_goals try omega
  refine OT5.out.mono ?_;rintro e w6 ⟨rfl,hb6⟩;have hs6:=hb6.size;have D0:=C0.below (by omega) hb6;have D1:=C1.below (by omega) hb6;have HD0:=KZ9 D0;have HD1:=KZ9 D1;have NV6:=KZ9 (NV5.out _ hb6);have HD3:=KZ9 (C3.below (by omega) hb6);have HA6:=KZ9 (HA5.out.trans (hb6.mono (by omega)));clear hb6 x1 x2 x3 v0 r0 r1 r2 t0 t1 t2 OT5 C0 C1 C2 C3 HA5 y0 y1 y2 y3 y4 y5 y6 y7 y8 y9 y10 y11 y12 y13 y14;obtain ⟨r0,r1,r2⟩:=BlkL.cs3 HD3.out;have t0:=HD3.out.f 0;have t1:=HD3.out.f 1;have t2:=HD3.out.f 2;have x1:=D1.c 1 _ rfl;have x2:=D1.c 2 _ rfl;have x3:=D1.c 3 _ rfl;have y0:=D0.c 0 _ rfl;have y2:=D0.c 2 _ rfl;clear D0 D1;cases tr
  ·cases da
   ·cases xu
    ·cases dc
     ·cases xp
      ·have hfin:Hid (rv=⟨1,6,fa⟩):=KZ9 HDEF.out;go_wp2
       all_goals try omega
       refine bodyPost_ret (results_cell_row rfl _ _ (z+3) 34 _ _ _ rfl (yj HD3.out rfl (.int .i64 ((1:Nat):Int)) (.int .i64 ((6:Nat):Int)) (.string (mk fa))) Tryz.underlying34 rfl yE) rfl ?_;rw [hfin.out];exact ⟨rfl,HZ.out▸zO HA6.out (by omega) _ _ _⟩
      go_wp2_with fail
      all_goals try omega
      refine (DC.out _).mono ?_;rintro e w7 ⟨rfl,rfl⟩;cases ca
      ·have hfin:Hid (rv=⟨3,5,[]⟩):=KZ9 HDEF.out;go_wp2
       all_goals try omega
       refine bodyPost_ret (results_cell_row rfl _ _ (z+3) 34 _ _ _ rfl (yj HD3.out rfl (.int .i64 ((3:Nat):Int)) (.int .i64 ((5:Nat):Int)) (.string (mk []))) Tryz.underlying34 rfl yE) rfl ?_;rw [hfin.out];exact ⟨rfl,HZ.out▸zO HA6.out (by omega) _ _ _⟩
      cases ki
      ·have g4:=G4.out.symm;have hfin:Hid (rv=⟨3,5,[]⟩):=KZ9 HDEF.out;go_wp2
       all_goals try omega
       refine bodyPost_ret (results_cell_row rfl _ _ (z+3) 34 _ _ _ rfl (yj HD3.out rfl (.int .i64 ((3:Nat):Int)) (.int .i64 ((5:Nat):Int)) (.string (mk []))) Tryz.underlying34 rfl yE) rfl ?_;rw [hfin.out];exact ⟨rfl,HZ.out▸zO HA6.out (by omega) _ _ _⟩
      have g4:=G4.out.symm;cases xb
      ·have hfin:Hid (rv=⟨2,4,fu⟩):=KZ9 HDEF.out;go_wp2
       all_goals try omega
       refine bodyPost_ret (results_cell_row rfl _ _ (z+3) 34 _ _ _ rfl (yj HD3.out rfl (.int .i64 ((2:Nat):Int)) (.int .i64 ((4:Nat):Int)) (.string (mk fu))) Tryz.underlying34 rfl yE) rfl ?_;rw [hfin.out];exact ⟨rfl,HZ.out▸zO HA6.out (by omega) _ _ _⟩
      have hfin:Hid (rv=⟨3,5,[]⟩):=KZ9 HDEF.out;go_wp2
      all_goals try omega
      refine bodyPost_ret (results_cell_row rfl _ _ (z+3) 34 _ _ _ rfl (yj HD3.out rfl (.int .i64 ((3:Nat):Int)) (.int .i64 ((5:Nat):Int)) (.string (mk []))) Tryz.underlying34 rfl yE) rfl ?_;rw [hfin.out];exact ⟨rfl,HZ.out▸zO HA6.out (by omega) _ _ _⟩
     have hfin:Hid (rv=⟨1,6,fa⟩):=KZ9 HDEF.out;go_wp2
     all_goals try omega
     refine bodyPost_ret (results_cell_row rfl _ _ (z+3) 34 _ _ _ rfl (yj HD3.out rfl (.int .i64 ((1:Nat):Int)) (.int .i64 ((6:Nat):Int)) (.string (mk fa))) Tryz.underlying34 rfl yE) rfl ?_;rw [hfin.out];exact ⟨rfl,HZ.out▸zO HA6.out (by omega) _ _ _⟩
    cases dc
    ·have hfin:Hid (rv=⟨2,3,fu⟩):=KZ9 HDEF.out;go_wp2
     all_goals try omega
     refine bodyPost_ret (results_cell_row rfl _ _ (z+3) 34 _ _ _ rfl (yj HD3.out rfl (.int .i64 ((2:Nat):Int)) (.int .i64 ((3:Nat):Int)) (.string (mk fu))) Tryz.underlying34 rfl yE) rfl ?_;rw [hfin.out];exact ⟨rfl,HZ.out▸zO HA6.out (by omega) _ _ _⟩
    have x0:=HD1.out.c 0 _ rfl;have x4:=HD1.out.c 4 _ rfl;have y3:=HD0.out.c 3 _ rfl;have y4:=HD0.out.c 4 _ rfl;have y5:=HD0.out.c 5 _ rfl;have y6:=HD0.out.c 6 _ rfl;have y7:=HD0.out.c 7 _ rfl;have y8:=HD0.out.c 8 _ rfl;have y9:=HD0.out.c 9 _ rfl;have y10:=HD0.out.c 10 _ rfl;have y11:=HD0.out.c 11 _ rfl;have y12:=HD0.out.c 12 _ rfl;go_wp2_with fail
    all_goals try omega
    refine NV6.out.mono ?_;rintro e w8 ⟨rfl,hb8⟩;have E1:=HD1.out.below (by omega) hb8;have HE3:=KZ9 (HD3.out.below (by omega) hb8);have HA8:=KZ9 (HA6.out.trans (hb8.mono (by omega)));clear hb8 x0 x1 x2 x3 x4 y0 y2 y3 y4 y5 y6 y7 y8 y9 y10 y11 y12 r0 r1 r2 t0 t1 t2;have x1:=E1.c 1 _ rfl;obtain ⟨r0,r1,r2⟩:=BlkL.cs3 HE3.out;have t0:=HE3.out.f 0;have t1:=HE3.out.f 1;have t2:=HE3.out.f 2;clear E1;cases nv
    ·have hfin:Hid (rv=⟨1,6,fa⟩):=KZ9 HDEF.out;go_wp2
     all_goals try omega
     refine bodyPost_ret (results_cell_row rfl _ _ (z+3) 34 _ _ _ rfl (yj HE3.out rfl (.int .i64 ((1:Nat):Int)) (.int .i64 ((6:Nat):Int)) (.string (mk fa))) Tryz.underlying34 rfl yE) rfl ?_;rw [hfin.out];exact ⟨rfl,HZ.out▸zO HA8.out (by omega) _ _ _⟩
    have hfin:Hid (rv=⟨2,3,fu⟩):=KZ9 HDEF.out;go_wp2
    all_goals try omega
    refine bodyPost_ret (results_cell_row rfl _ _ (z+3) 34 _ _ _ rfl (yj HE3.out rfl (.int .i64 ((2:Nat):Int)) (.int .i64 ((3:Nat):Int)) (.string (mk fu))) Tryz.underlying34 rfl yE) rfl ?_;rw [hfin.out];exact ⟨rfl,HZ.out▸zO HA8.out (by omega) _ _ _⟩
   have hfin:Hid (rv=⟨1,1,fa⟩):=KZ9 HDEF.out;go_wp2
   all_goals try omega
   refine bodyPost_ret (results_cell_row rfl _ _ (z+3) 34 _ _ _ rfl (yj HD3.out rfl (.int .i64 ((1:Nat):Int)) (.int .i64 ((1:Nat):Int)) (.string (mk fa))) Tryz.underlying34 rfl yE) rfl ?_;rw [hfin.out];exact ⟨rfl,HZ.out▸zO HA6.out (by omega) _ _ _⟩
  have hfin:Hid (rv=⟨1,1,fa⟩):=KZ9 HDEF.out;go_wp2
  all_goals try omega
  refine bodyPost_ret (results_cell_row rfl _ _ (z+3) 34 _ _ _ rfl (yj HD3.out rfl (.int .i64 ((1:Nat):Int)) (.int .i64 ((1:Nat):Int)) (.string (mk fa))) Tryz.underlying34 rfl yE) rfl ?_;rw [hfin.out];exact ⟨rfl,HZ.out▸zO HA6.out (by omega) _ _ _⟩
 have HC3:=KZ9 C3;have hfin:Hid (rv=⟨2,2,fu⟩):=KZ9 HDEF.out;go_wp2
 all_goals try omega
 refine bodyPost_ret (results_cell_row rfl _ _ (z+3) 34 _ _ _ rfl (yj HC3.out rfl (.int .i64 ((2:Nat):Int)) (.int .i64 ((2:Nat):Int)) (.string (mk fu))) Tryz.underlying34 rfl yE) rfl ?_;rw [hfin.out];exact ⟨rfl,HZ.out▸zO HA5.out (by omega) _ _ _⟩
theorem jC (p:DecP):∀ v∈zP p,v.oneCell'=true:=by
 intro v hv;simp [zP] at hv;rcases hv with rfl | rfl | rfl<;>rfl
theorem We (u:UrlP) (d:Int) (img:Bool) (c:CtxP) (hv:Value) (v:CovP) (w:World) (hB:Base6 w) (hw:ym u.host) (hb:tS u) (hT:okT (xd u)) (hw':ym (yd u).host) (hb':tS (yd u)) (hT':okT (xd (yd u))) (hS:Strs w hv c.hosts) (hvu:yR u=true) :
  Calls Tryz.prog 36 #[.agg (za u).toArray,.int .i64 d,.bool img,.agg (zZ c hv).toArray,.agg (zm v).toArray] w fun e w'=>e= .returned (.tuple #[.agg (zP (if xO d=true then xK u d img c v else ju)).toArray,.int .i64 (if xO d=true then 0 else 2)])∧Below w.heap.size w w':=by
 obtain ⟨z,hz⟩:=KZ6 w.heap.size;obtain ⟨W0,hW0⟩:=KZ6 ((((w.alloc (.cells (za u).toArray 62)).alloc (.cells (zZ c hv).toArray 41)).alloc (.cells (zm v).toArray 67)).alloc (.cells #[.int .i64 0,.int .i64 0,.string ⟨#[]⟩] 34));have hbA:Below z w W0:=by rw [hW0,hz];exact ((((Below.refl _ w).alloc (Nat.le_refl _) _).alloc (by simp) _).alloc (by simp;omega) _).alloc (by simp;omega) _
 have b0:BlkL W0 z 62 (za u):=by rw [hW0,hz];exact (((BlkL.new w _ _).alloc _).alloc _).alloc _
 have b1:BlkL W0 (z+1) 41 (zZ c hv):=by
  rw [hW0,hz];have:=((BlkL.new (w.alloc (.cells (za u).toArray 62)) 41 (zZ c hv)).alloc (.cells (zm v).toArray 67)).alloc (.cells #[.int .i64 0,.int .i64 0,.string ⟨#[]⟩] 34);simp only [World.size_alloc] at this;exact this
 have b2:BlkL W0 (z+2) 67 (zm v):=by
  rw [hW0,hz];have:=(BlkL.new ((w.alloc (.cells (za u).toArray 62)).alloc (.cells (zZ c hv).toArray 41)) 67 (zm v)).alloc (.cells #[.int .i64 0,.int .i64 0,.string ⟨#[]⟩] 34);simp only [World.size_alloc] at this;exact this
 have b3:BlkL W0 (z+3) 34 (zP ⟨0,0,[]⟩):=by
  rw [hW0,hz];have:=BlkL.new (((w.alloc (.cells (za u).toArray 62)).alloc (.cells (zZ c hv).toArray 41)).alloc (.cells (zm v).toArray 67)) 34 (zP ⟨0,0,[]⟩);simp only [World.size_alloc] at this;exact this
 have HW0:=KZ9 hW0.symm;have hsz:W0.heap.size=z+4:=by rw [hW0,hz];simp
 have HI0:=KZ9 (zV hw.1);have HB0:=KZ9 b0;have HBA:=KZ9 hbA;have HZ:=KZ9 hz;have hz':=Nat.le_of_eq hz;have hB0:Base6 W0:=hB.below (hz▸hbA);have hval:=Ym u W0 hB0 hw hb hT;rw [hvu] at hval;have HVAL:=KZ9 hval;have hdv:=fun W=>qr d W;obtain ⟨vb,hvb⟩:=KZ6 (xO d);simp only [←hvb] at hdv ⊢;have hbA':Below w.heap.size w W0:=hz▸hbA;have HDV:=KZ9 hdv;have HR:=KZ9 (fun (W1:World) (h1:Below W0.heap.size W0 W1)=>Pw u d img c hv v W1 (hB0.below h1) hw hb hT hw' hb' hT' (hS.below (hbA'.trans (h1.mono hbA'.size))));generalize xK u d img c v=rv at *;clear hW0 b0 hbA hbA' hB hT hb hb' hT' hw' hz hB0 hvu hvb hval hdv hS;go_enter Tryz.func36,Tryz.ntmps36
 go_upto_region 1 with fail
 rw [HW0.out,←HZ.out];clear HW0;rw [show z+1+1+1=z+3 from rfl,show z+1+1=z+2 from rfl];go_wp2_with (refine wpList_load_row rfl 62 (.tmp 5) rfl z rfl 62 _ _ _ HB0.out Tryz.underlying62 rfl HI0.out ?_)
 all_goals try omega
 refine HVAL.out.mono ?_;rintro e w1 ⟨rfl,hb1⟩;have hs1:=hb1.size;have B0:=KZ9 (HB0.out.below (by omega) hb1);have B1:=KZ9 (b1.below (by omega) hb1);have B2:=KZ9 (b2.below (by omega) hb1);have B3:=KZ9 (b3.below (by omega) hb1);have HA1:=KZ9 (HBA.out.trans (hb1.mono (by omega)));have HR1:=KZ9 (HR.out w1 hb1);clear HB0 b1 b2 b3 HBA hb1 HR HVAL;go_wp2_with fail
 all_goals try omega
 refine (HDV.out _).mono ?_;rintro e w7 ⟨rfl,rfl⟩;cases vb
 ·clear HR1;go_wp2_with (refine wpList_store_row rfl 34 (.tmp 10) (.tmp 21) rfl (z+3) (zP ju).toArray rfl rfl 34 _ B3.out yE rfl (ze (jC _)) ?_)
  all_goals try omega
  refine bodyPost_ret (zf rfl _ _ (z+3) 34 _ _ rfl (B3.out.setRow (zP ju)) Tryz.underlying34 rfl yE) rfl ?_;exact ⟨rfl,HZ.out▸below_setRow HA1.out (by omega) _⟩
 go_wp2_with (first
  | refine wpList_load_row rfl 62 (.tmp 5) rfl z rfl 62 _ _ _ B0.out Tryz.underlying62 rfl HI0.out ?_
  | refine wpList_load_row rfl 41 (.tmp 8) rfl (z+1) rfl 41 _ _ _ B1.out Tryz.underlying41 rfl wS ?_
  | refine wpList_load_row rfl 67 (.tmp 9) rfl (z+2) rfl 67 _ _ _ B2.out Tryz.underlying67 rfl zS ?_)
 all_goals try omega
 refine HR1.out.mono ?_;rintro e w2 ⟨rfl,hb2⟩;have hs2:=hb2.size;have D3:=KZ9 (B3.out.below (by omega) hb2);have HA2:=KZ9 (HA1.out.trans (hb2.mono (by omega)));clear hb2 HR1 B0 B1 B2 B3 HA1;go_wp2_with (refine wpList_store_row rfl 34 (.tmp 10) (.tmp 27) rfl (z+3) (zP rv).toArray rfl rfl 34 _ D3.out yE rfl (ze (jC _)) ?_)
 all_goals try omega
 refine bodyPost_ret (zf rfl _ _ (z+3) 34 _ _ rfl (D3.out.setRow (zP rv)) Tryz.underlying34 rfl yE) rfl ?_;exact ⟨rfl,HZ.out▸below_setRow HA2.out (by omega) _⟩
end Go.Proofs.YtjbciamhhfcdoaaGreatDoor
namespace Hs
open Go Go.RowKit
section
variable {P : Program} {C : World → Prop}
def uc (n N:Nat):Array Bool:=((List.range N).map fun j=>decide (j<n)).toArray
def tO (l:List Oper) (n:Nat):Bool:=(List.range n).all fun i=>match l[i]? with
 | none=>true
 | some o=>(o.after.all fun e=> !Region.binds .any e||decide (e.on<i))&&(match o.guard with
  | none=>true
  | some (j,_)=>decide (j<n))
def Vs (l:List Oper) (n:Nat):Bool :=
 Region.lexB .any (l.take n).toArray&&(decide (n<l.length)&&(Region.sinkB .any l.toArray n&&(Region.chainB .any l.toArray n&&(Region.seqB .any l.toArray (l.length - n) n (uc n l.length)&&tO l n))))
theorem Y3 {l:List Oper} {n i:Nat} (hi:i<n):(l.take n).toArray[i]? =l.toArray[i]? :=by simp [hi]
theorem tc {l:List Oper} {n i:Nat} {o:Oper} (h:tO l n=true) (hi:i<n) (ho:l[i]? =some o):(∀ e∈o.after,Region.binds .any e=true→e.on<i)∧∀ j b,o.guard=some (j,b)→j<n:=by
 have h1:=List.all_eq_true.1 h i (List.mem_range.2 hi);rw [ho] at h1;simp only [Bool.and_eq_true] at h1;refine ⟨fun e he hb=> ?_,fun j b hg=> ?_⟩
 ·have h2:=Array.all_eq_true_iff_forall_mem.1 h1.1 e he;simp only [hb,Bool.not_true,Bool.false_or,decide_eq_true_eq] at h2;exact h2
 have h2:=h1.2;rw [hg] at h2;exact of_decide_eq_true h2
theorem ZF {md:Region.Mode} {ops:Array Oper} {Q:Exit→Act→World→Prop}:∀ (f:Nat) (listed:Array Bool) (a:Act) (w:World),wpAny P md ops Q f listed a w→wpAny P md ops Q (f+1) listed a w
 | 0,_,_,_,h=>⟨fun _=>h.2,fun i hi=>by rw [h.1] at hi;cases hi⟩
 | f+1,_,_,_,h=>⟨h.1,fun i hi=>wpOp_mono (fun a w h=>ZF f _ a w h) (h.2 i hi)⟩
theorem kO {md:Region.Mode} {ops:Array Oper} {Q:Exit→Act→World→Prop} {listed:Array Bool} {a:Act} {w:World} {g:Nat} (h:wpAny P md ops Q g listed a w):∀ f,wpAny P md ops Q (f+g) listed a w
 | 0=>by rw [Nat.zero_add];exact h
 | f+1=>by rw [show f+1+g=f+g+1 by omega];exact ZF _ _ _ _ (kO h f)
theorem Rm {l:List Oper} {n i:Nat} {K:Act→Prop} {a:Act} (hg:tO l n=true) (hi:i<n) (h:qOp P (l.take n).toArray C i K a):qOp P l.toArray C i K a:=by
 unfold qOp at h ⊢;rw [Y3 hi] at h;cases ho:l.toArray[i]? with
 | none=>rw [ho] at h;exact h
 | some o =>
  rw [ho] at h;have hb:=(tc hg hi (by simpa using ho)).2;have hw:Region.wanted o (yielded (l.take n).toArray a.tmps)=Region.wanted o (yielded l.toArray a.tmps):=by
   unfold Region.wanted;cases hgd:o.guard with
   | none=>rfl
   | some p =>
    obtain ⟨j,b⟩:=p;have hj:=hb j b hgd;simp only;unfold yielded;rw [Y3 hj]
  simp only [hw] at h;exact h
def Sync (n:Nat) (H L:Array Bool):Prop:=H.size=n∧∀ j,j<n→∀ d,H.getD j d=L.getD j d
theorem Sync.set {n i:Nat} {H L:Array Bool} (h:Sync n H L) (hN:n≤L.size) (hi:i<n):Sync n (H.setIfInBounds i true) (L.setIfInBounds i true):=by
 refine ⟨by simp [h.1],fun j hj d=> ?_⟩;by_cases e:i=j
 ·subst e;have h1:i<H.size:=by rw [h.1];exact hi
  have h2:i<L.size:=by omega
  simp [h1,h2]
 rw [getD_set_ne d e,getD_set_ne d e];exact h.2 j hj d
theorem ke {l:List Oper} {n i:Nat} {H L:Array Bool} (hg:tO l n=true) (h:Sync n H L) (hi:i<n):i∈Region.ready .any (l.take n).toArray H↔i∈Region.ready .any l.toArray L:=by
 rw [mem_ready,mem_ready,Y3 hi,h.2 i hi true];constructor
 ·rintro ⟨h0,o,ho,hall⟩;exact ⟨h0,o,ho,fun e he hb=>by rw [←h.2 _ (Nat.lt_trans ((tc hg hi (by simpa using ho)).1 e he hb) hi) false];exact hall e he hb⟩
 rintro ⟨h0,o,ho,hall⟩;exact ⟨h0,o,ho,fun e he hb=>by rw [h.2 _ (Nat.lt_trans ((tc hg hi (by simpa using ho)).1 e he hb) hi) false];exact hall e he hb⟩
theorem kc {l:List Oper} {n:Nat} {L:Array Bool} (hg:tO l n=true) (hn:n<l.length) (hL:L.size=l.length):∀ i,i<n→L.getD i true=false→∃ j,j<n∧j∈Region.ready .any l.toArray L:=by
 intro i
 induction i using Nat.strongRecOn with
 | _ i ih =>
  intro hi hun;obtain ⟨o,ho⟩:∃ o,l[i]? =some o:=⟨_,List.getElem?_eq_getElem (by omega)⟩;by_cases hr:i∈Region.ready .any l.toArray L
  ·exact ⟨i,hi,hr⟩
  rw [mem_ready] at hr;have:∃ e∈o.after,Region.binds .any e=true∧L.getD e.on false≠true:=by
   refine Classical.byContradiction fun hno=>hr ⟨hun,o,by simpa using ho,fun e he hb=> ?_⟩;exact Classical.byContradiction fun hx=>hno ⟨e,he,hb,hx⟩
  obtain ⟨e,he,hb,hx⟩:=this;have hlt:=(tc hg hi ho).1 e he hb;exact ih e.on hlt (by omega) (getD_in (by omega) (by simpa using hx))
theorem PL {n N:Nat} {L:Array Bool} (hL:L.size=N) (h1:∀ j,j<n→L.getD j true≠false) (h2:∀ t,n≤t→t<N→L.getD t true=false):L=uc n N:=by
 apply Array.ext
 ·simp [uc,hL]
 intro i hi hi2;have e:L.getD i true=L[i]:=by simp [hi]
 by_cases hin:i<n
 ·have:=h1 i hin;rw [e] at this;simp [uc,hin]
  simpa using this
 have:=h2 i (by omega) (by omega);rw [e] at this;simp [uc,hin];exact this
theorem Vn {l:List Oper} {n:Nat} {Q:Act→Prop} {Q':Exit→Act→World→Prop} (hg:tO l n=true) (hn:n<l.length) (hs:Region.sinkB .any l.toArray n=true) (hc:Region.chainB .any l.toArray n=true)
  (hT:∀ a w,C w→Q a→wpAny P .any l.toArray Q' (l.length - n) (uc n l.length) a w):∀ (f:Nat) (H L:Array Bool) (a:Act) (w:World),C w→Sync n H L→HeadInv .any l.toArray n L→wpAnyQ P .any (l.take n).toArray C Q f H a→wpAny P .any l.toArray Q' (f+(l.length - n)) L a w:=by
 have hN:l.toArray.size=l.length:=by simp
 have hdone:∀ {L:Array Bool},HeadInv .any l.toArray n L→(¬ ∃ i,i<n∧L.getD i true=false)→L=uc n l.length:=fun inv h =>
  PL (inv.size.trans hN) (fun j hj e=>h ⟨j,hj,e⟩) (fun t ht ht2=>inv.tail t ht (by rw [hN];exact ht2))
 intro f
 induction f with
 | zero =>
  intro H L a w hC hsy inv h;have hno:¬ ∃ i,i<n∧L.getD i true=false:=by
   rintro ⟨i,hi,hun⟩;obtain ⟨j,hj,hr⟩:=kc hg hn (inv.size.trans hN) i hi hun;have:=(ke hg hsy hj).2 hr;rw [h.1] at this;cases this
  rw [hdone inv hno,Nat.zero_add];exact hT a w hC h.2
 | succ f ih =>
  intro H L a w hC hsy inv h;by_cases hno:∃ i,i<n∧L.getD i true=false
  ·obtain ⟨i0,hi0,hun0⟩:=hno;obtain ⟨j,hj,hr⟩:=kc hg hn (inv.size.trans hN) i0 hi0 hun0;rw [show f+1+(l.length - n)=f+(l.length - n)+1 by omega];refine ⟨(fun h0=>by rw [h0] at hr;cases hr),fun i hi=> ?_⟩;have hin:i<n:=by
    rcases Nat.lt_or_ge i n with h' | h'
    ·exact h'
    exact absurd hi (tail_waits hs hc (by rw [hN];exact hn) inv _ i0 rfl hi0 hun0 i h')
   exact wpOp_of_qOp hC (fun a' w' hC' h'=>ih _ _ a' w' hC' (hsy.set (by rw [inv.size,hN];omega) hin) (inv.set hi hin) h') (Rm hg hin (h.2 i ((ke hg hsy hin).2 hi)))
  have hr0:Region.ready .any (l.take n).toArray H=[]:=by
   refine List.eq_nil_iff_forall_not_mem.2 fun i hi=> ?_;have hin:i<n:=by
    obtain ⟨_,o,ho,_⟩:=mem_ready.1 hi;have:=(Array.getElem?_eq_some_iff.1 ho).1;simp at this;omega
   have h0:=(mem_ready.1 hi).1;rw [hsy.2 i hin true] at h0;exact hno ⟨i,hin,h0⟩
  have:=kO (hT a w hC (h.1 hr0)) (f+1);rw [hdone inv hno];exact this
theorem jG {id:Nat} {Q:Exit→Act→World→Prop} {a:Act} {w:World} {l:List Oper} (n:Nat) (hm:P.follows .mixedOrders=true) (hB:Vs l n=true) (hC:C { w with drawn:=w.drawn+1 })
  (h:wpQuiet P (l.take n).toArray C (fun a'=>∀ w',C w'→wpList P l.toArray Q (l.drop n) a' w') (l.take n) a):(Code.region id l.toArray true).wp P Q a w:=by
 simp only [Vs,Bool.and_eq_true,decide_eq_true_eq] at hB;obtain ⟨hlex,hn,hs,hc,hseq,hg⟩:=hB;have hN:l.toArray.size=l.length:=by simp
 have hn2:(l.take n).length=n:=by simp;omega
 simp only [Region.lexB,Bool.and_eq_true] at hlex;have hq:=wpAnyQ_lex (P:=P) (C:=C) (md:= .any) hlex.1 (l.take n) 0 (Array.replicate (l.take n).toArray.size false) a (by simp) (by simpa using hlex.2) h;refine wp_region_any hm ?_;have hsz:(l.take n).toArray.size=n:=by rw [List.size_toArray,hn2]
 have key:=Vn (P:=P) (C:=C) (Q':=Q) hg hn hs hc (fun a' w' hC' hQ=>by
  have:=wpAny_of_seq (P:=P) (md:= .any) (Q':=Q) (l.drop n) n (uc n l.length) a' w' (fun j=>by simp [List.getElem?_drop]) (by rw [List.length_drop];exact hseq) (hQ w' hC');rw [List.length_drop] at this;exact this) _ (Array.replicate (l.take n).toArray.size false) (Array.replicate l.toArray.size false) a _ hC
  ⟨by rw [Array.size_replicate,hsz],fun j hj d=>by
   have h1:j<(l.take n).toArray.size:=by rw [hsz];exact hj
   have h2:j<l.toArray.size:=by rw [hN];omega
   simp at h1 h2;simp [h1,h2]⟩
  ⟨by simp,fun j oj _ hl=>(by rw [getD_replicate_false] at hl;cases hl),fun t _ ht=>getD_in (by simpa using ht) (getD_replicate_false _ _)⟩ hq
 rw [hn2,show n+(l.length - n)=l.toArray.size by rw [hN];omega] at key;exact key
end
theorem vY {P:Program} {id:Nat} {Q:Exit→Act→World→Prop} {a:Act} {w:World} (n:Nat) (W:World) {l:List Oper} (hm:P.follows .mixedOrders=true) (hB:Vs l n=true) (h0:Below W.heap.size W w)
  (h:wpQuiet P (l.take n).toArray (fun w'=>∃ x:yg W,w'=x.1) (fun a'=>∀ w',(∃ x:yg W,w'=x.1)→wpList P l.toArray Q (l.drop n) a' w') (l.take n) a):(Code.region id l.toArray true).wp P Q a w :=
 jG n hm hB ⟨⟨_,h0.drew⟩,rfl⟩ h
end Hs
namespace Go.Proofs.YtjbciamhhfcdoaaGreatDoor
open Go.RowKit Hs
def wT (l:Bs) (d:Int) (img:Bool):List Value:=[.string (mk l),.int .i64 d,.bool img]
end Go.Proofs.YtjbciamhhfcdoaaGreatDoor
namespace Hs
open Go
theorem Xe (x y:UInt8) (a b:Bs):Lib.compareBytes (x::a) (y::b)=if x.toNat<y.toNat then -1 else if y.toNat<x.toNat then 1 else Lib.compareBytes a b:=by
 simp only [Lib.compareBytes,UInt8.lt_iff_toNat_lt]
theorem Tu:∀ a b:Bs,Lib.compareBytes a b= -(Lib.compareBytes b a)
 | [],[]=>rfl
 | [],_::_=>rfl
 | _::_,[]=>rfl
 | x::a,y::b=>by
  have ih:=Tu a b;rw [Xe,Xe]
  repeat' split
  all_goals omega
theorem WZ:∀ a b c:Bs,Lib.compareBytes a b<0→Lib.compareBytes b c<0→Lib.compareBytes a c<0
 | [],[],_,h,_=>by simp [Lib.compareBytes] at h
 | _::_,[],_,h,_=>by simp [Lib.compareBytes] at h
 | _,_::_,[],_,h=>by simp [Lib.compareBytes] at h
 | [],_::_,_::_,_,_=>by simp [Lib.compareBytes]
 | x::a,y::b,z::c,h1,h2=>by
  have ih:=WZ a b c;rw [Xe] at h1 h2 ⊢;by_cases c1:x.toNat<y.toNat
  ·by_cases c2:z.toNat<y.toNat
   ·rw [if_neg (by omega),if_pos c2] at h2;omega
   rw [if_pos (by omega)];omega
  rw [if_neg c1] at h1;by_cases c3:y.toNat<x.toNat
  ·rw [if_pos c3] at h1;omega
  rw [if_neg c3] at h1;have e:x.toNat=y.toNat:=by omega
  rw [e];split
  ·omega
  rename_i n1;rw [if_neg n1] at h2;split
  ·rename_i n2;rw [if_pos n2] at h2;omega
  rename_i n2;rw [if_neg n2] at h2;exact ih h1 h2
def Sn (a:Bs):List Bs:=(zi 46 a).reverse
def qT:List Bs→List Bs→Int
 | [],[]=>0
 | [],_::_=> -1
 | _::_,[]=>1
 | x::r,y::s=>if Lib.compareBytes x y≠0 then Lib.compareBytes x y else qT r s
theorem ZL:∀ a b:List Bs,qT a b= -(qT b a)
 | [],[]=>rfl
 | [],_::_=>rfl
 | _::_,[]=>rfl
 | x::a,y::b=>by
  have ih:=ZL a b;have h:=Tu x y;simp only [qT]
  repeat' split
  all_goals omega
theorem kU:∀ a b c:List Bs,qT a b<0→qT b c<0→qT a c<0
 | [],[],_,h,_=>by simp [qT] at h
 | _::_,[],_,h,_=>by simp [qT] at h
 | _,_::_,[],_,h=>by simp [qT] at h
 | [],_::_,_::_,_,_=>by simp [qT]
 | x::a,y::b,z::c,h1,h2=>by
  have ih:=kU a b c;simp only [qT] at h1 h2 ⊢;have hz1:=yN x y;have hz2:=yN y z;have ht:=WZ x y z;by_cases e1:Lib.compareBytes x y=0
  ·obtain rfl:=hz1.1 e1;rw [if_neg (by simp [e1])] at h1;by_cases e2:Lib.compareBytes x z=0
   ·rw [if_neg (by simp [e2])] at h2;rw [if_neg (by simp [e2])];exact ih h1 h2
   rw [if_pos e2] at h2 ⊢;exact h2
  rw [if_pos e1] at h1;by_cases e2:Lib.compareBytes y z=0
  ·obtain rfl:=hz2.1 e2;rw [if_pos e1];exact h1
  rw [if_pos e2] at h2;have:=ht h1 h2;rw [if_pos (by omega)];exact this
theorem ZM (c:UInt8) (v:Bs):∀ u:Bs,zo c (u++v)=if 0≤zo c v then zo c v+u.length else zo c u
 | []=>by
  have:=zW c v;rw [List.nil_append];split
  ·simp
  show zo c v= -1;omega
 | b::u=>by
  have ih:=ZM c v u;have h1:=zW c v;have h2:=zW c u;rw [List.cons_append,zo,ih,zo];simp only [List.length_cons]
  repeat' split
  all_goals omega
theorem Q3 (a:Bs):∀ x∈yy a,x≠46:=by
 rw [←rC 46 (yy a)];rcases qO a with ⟨h,e⟩ | ⟨h,e⟩
 ·rw [←e];exact h
 have hl:(wj a).length=(zo 46 a).toNat:=by
  have:=(zW 46 a).2;unfold wj;rw [List.length_take];omega
 have h1:=ZM 46 (46::yy a) (wj a);rw [←e] at h1;by_cases h2:zo 46 (yy a)<0
 ·exact h2
 exfalso;have h3:zo 46 (46::yy a)=zo 46 (yy a)+1:=by rw [zo,if_pos (by omega)]
 rw [h3,if_pos (by omega)] at h1;omega
theorem rD (a:Bs):Sn a=yy a::(if zo 46 a<0 then [] else Sn (wj a)):=by
 have hn:=wo 46 (yy a) (Q3 a);rcases qO a with ⟨h,e⟩ | ⟨h,e⟩
 ·rw [if_pos h];unfold Sn
  conv=>lhs;rw [e,hn]
  rfl
 rw [if_neg (by omega)];unfold Sn
 conv=>lhs;rw [e,p8,hn,List.reverse_append]
 rfl
theorem qK:∀ (n:Nat) (a b:Bs),a.length≤n→yF a b=qT (Sn a) (Sn b)
 | n,a,b,hn=>by
  rw [ur,rD a,rD b];simp only [qT];have b1:=zW 46 a;have b2:=zW 46 b;by_cases h0:Lib.compareBytes (yy a) (yy b)=0
  ·have hne:¬ (Lib.compareBytes (yy a) (yy b)≠0):=fun e=>e h0;simp only [if_neg hne];by_cases ha:zo 46 a<0
   ·rw [if_pos (show zo 46 a<0∨zo 46 b<0 from .inl ha),if_pos ha];by_cases hb:zo 46 b<0
    ·rw [if_pos hb,if_neg (show ¬ min (zo 46 a) 0<min (zo 46 b) 0 by omega),if_neg (show ¬ min (zo 46 b) 0<min (zo 46 a) 0 by omega)];rfl
    rw [if_neg hb,if_pos (show min (zo 46 a) 0<min (zo 46 b) 0 by omega),rD (wj b)];rfl
   rw [if_neg ha];by_cases hb:zo 46 b<0
   ·rw [if_pos (show zo 46 a<0∨zo 46 b<0 from .inr hb),if_pos hb,if_neg (show ¬ min (zo 46 a) 0<min (zo 46 b) 0 by omega),if_pos (show min (zo 46 b) 0<min (zo 46 a) 0 by omega),rD (wj a)];rfl
   rw [if_neg (show ¬ (zo 46 a<0∨zo 46 b<0) by omega),if_neg hb];have hl:=ux a (by omega)
   match n,hn with
   | 0,hn=>omega
   | n+1,hn=>exact qK n (wj a) (wj b) (by omega)
  simp only [if_pos h0,ne_eq,h0,not_false_eq_true,if_true]
theorem rz (a b:Bs):yF a b= -(yF b a):=by
 rw [qK _ a b (Nat.le_refl _),qK _ b a (Nat.le_refl _)];exact ZL _ _
theorem uE {a b c:Bs} (h1:yF a b<0) (h2:yF b c<0):yF a c<0:=by
 rw [qK _ _ _ (Nat.le_refl _)] at h1 h2 ⊢;exact kU _ _ _ h1 h2
def SortH (H:List Bs):Prop:=H.Pairwise (fun a b=>yF a b<0)
theorem SortH.lt {H:List Bs} (hs:SortH H) {i j:Nat} (hi:i<H.length) (hj:j<H.length) (h:i<j):yF H[i] H[j]<0:=List.pairwise_iff_getElem.1 hs i j hi hj h
theorem Zk {H:List Bs} (hs:SortH H) {x:Bs} {t m:Nat} (h:t≤m) (hm:m<H.length) (ht:t<H.length) (hx:yF H[m] x<0):yF H[t] x<0:=by
 by_cases e:t=m
 ·subst e;exact hx
 exact uE (hs.lt ht hm (by omega)) hx
theorem jQ {H:List Bs} (hs:SortH H) {x:Bs} {t m:Nat} (h:m≤t) (hm:m<H.length) (ht:t<H.length) (hx:¬ yF H[m] x<0):¬ yF H[t] x<0:=by
 by_cases e:t=m
 ·subst e;exact hx
 exact fun hc=>hx (uE (hs.lt hm ht (by omega)) hc)
theorem Xr {H:List Bs} (hs:SortH H) {x:Bs} {i:Nat} (hl:∀ t (h:t<H.length),t<i→yF H[t] x<0) (hr:∀ t (h:t<H.length),i≤t→¬ yF H[t] x<0):x∈H↔∃ h:i<H.length,H[i]=x:=by
 constructor
 ·intro hx;obtain ⟨t,ht,rfl⟩:=List.getElem_of_mem hx;have h0:yF H[t] H[t]=0:=(tY _ _).2 rfl;have h1:¬ t<i:=fun h=>by have:=hl t ht h;omega
  by_cases e:t=i
  ·subst e;exact ⟨ht,rfl⟩
  exact absurd (hs.lt (by omega) ht (by omega:i<t)) (hr i (by omega) (Nat.le_refl _))
 rintro ⟨h,rfl⟩;exact List.getElem_mem h
theorem SortH.inj {H:List Bs} (hs:SortH H) {i j:Nat} (hi:i<H.length) (hj:j<H.length) (h:H[i]=H[j]):i=j:=by
 have h0:yF H[i] H[j]=0:=(tY _ _).2 h;rcases Nat.lt_trichotomy i j with e | e | e
 ·have:=hs.lt hi hj e;omega
 ·exact e
 have:=hs.lt hj hi e;rw [rz] at this;omega
theorem Y4 {α:Type} {T:List α} (f:α→Bs) (hs:SortH (T.map f)) {i:Nat} (hi:i<T.length):T.find? (fun p=>decide (f p=f T[i]))=some T[i]:=by
 rw [List.find?_eq_some_iff_getElem];refine ⟨by simp,i,hi,rfl,fun j hj=> ?_⟩;simp only [Bool.not_eq_true',decide_eq_false_iff_not];intro e;have:=hs.inj (i:=j) (j:=i) (by rw [List.length_map];omega) (by rw [List.length_map];exact hi) (by simpa using e);omega
theorem Tm {α:Type} {T:List α} (f:α→Bs) {x:Bs} (h:x∉T.map f):T.find? (fun p=>decide (f p=x))=none:=by
 rw [List.find?_eq_none];intro p hp;simp only [decide_eq_true_eq];intro e;exact h (List.mem_map.2 ⟨p,hp,e⟩)
end Hs
namespace Go.Proofs.YtjbciamhhfcdoaaGreatDoor
open Go.RowKit Hs
def pcs (l:List PinP):List Value:=l.flatMap yi
theorem qi:∀ l:List PinP,(pcs l).length=l.length*3
 | []=>rfl
 | d::l=>by
  have:=qi l;unfold pcs at this ⊢;simp only [List.flatMap_cons,List.length_append,List.length_cons];show 3+_=_;omega
theorem YF:∀ (l:List PinP) (k:Nat) (h:k<l.length),(pcs l)[k*3]? =some (.string (mk l[k].host))∧(pcs l)[k*3+1]? =some (.bool l[k].sub)∧(pcs l)[k*3+2]? =some (.int .i64 l[k].expiry)
 | [],k,h=>by simp at h
 | d::l,0,h=>by simp [pcs,yi]
 | d::l,k+1,h=>by
  have:=YF l k (by simpa using h);have e:pcs (d::l)= .string (mk d.host):: .bool d.sub:: .int .i64 d.expiry::pcs l:=by simp [pcs,yi]
  rw [e];have e1:(k+1)*3=k*3+3:=by omega
  rw [e1]
  simpa using this
def ecs (l:List EntP):List Value:=l.flatMap zA
theorem uI:∀ l:List EntP,(ecs l).length=l.length*2
 | []=>rfl
 | d::l=>by
  have:=uI l;unfold ecs at this ⊢;simp only [List.flatMap_cons,List.length_append,List.length_cons];show 2+_=_;omega
theorem pl:∀ (l:List EntP) (k:Nat) (h:k<l.length),(ecs l)[k*2]? =some (.string (mk l[k].host))∧(ecs l)[k*2+1]? =some (.bool l[k].sub)
 | [],k,h=>by simp at h
 | d::l,0,h=>by simp [ecs,zA]
 | d::l,k+1,h=>by
  have:=pl l k (by simpa using h);have e:ecs (d::l)= .string (mk d.host):: .bool d.sub::ecs l:=by simp [ecs,zA]
  rw [e];have e1:(k+1)*2=k*2+2:=by omega
  rw [e1]
  simpa using this
def Pins (w:World) (v:Value) (l:List PinP):Prop:=Row w v 3 l.length (pcs l)
theorem Pins.below {w w':World} {v:Value} {l:List PinP} (h:Pins w v l) (hb:Below w.heap.size w w'):Pins w' v l:=Row.below h hb
theorem Pins.open {w:World} {v:Value} {l:List PinP} (h:Pins w v l):∃ a cap,v= .slice a l.length cap∧l.length≤cap∧cap≤maxLen ∧
  ∀ (hn:0<l.length),∃ b off,a=some ⟨b,off,none⟩∧b<w.heap.size∧∀ j (hj:j<l.length),w.cell? ⟨b,off+j*3,none⟩=some (.string (mk l[j].host))∧w.cell? ⟨b,off+j*3+1,none⟩=some (.bool l[j].sub)∧w.cell? ⟨b,off+j*3+2,none⟩=some (.int .i64 l[j].expiry):=by
 obtain ⟨hl,a,cap,rfl,hn,hm,h⟩:=h;refine ⟨a,cap,rfl,hn,hm,fun h0=> ?_⟩;rcases h with h | ⟨b,off,ha,hlt,hc⟩
 ·omega
 refine ⟨b,off,ha,hlt,fun j hj=> ?_⟩;obtain ⟨g0,g1,g2⟩:=YF l j hj;exact ⟨hc _ _ g0,by have:=hc _ _ g1;rwa [←Nat.add_assoc] at this,by have:=hc _ _ g2;rwa [←Nat.add_assoc] at this⟩
def Ents (w:World) (v:Value) (l:List EntP):Prop:=Row w v 2 l.length (ecs l)
theorem Ents.below {w w':World} {v:Value} {l:List EntP} (h:Ents w v l) (hb:Below w.heap.size w w'):Ents w' v l:=Row.below h hb
theorem Ents.open {w:World} {v:Value} {l:List EntP} (h:Ents w v l):∃ a cap,v= .slice a l.length cap∧l.length≤cap∧cap≤maxLen ∧
  ∀ (hn:0<l.length),∃ b off,a=some ⟨b,off,none⟩∧b<w.heap.size∧∀ j (hj:j<l.length),w.cell? ⟨b,off+j*2,none⟩=some (.string (mk l[j].host))∧w.cell? ⟨b,off+j*2+1,none⟩=some (.bool l[j].sub):=by
 obtain ⟨hl,a,cap,rfl,hn,hm,h⟩:=h;refine ⟨a,cap,rfl,hn,hm,fun h0=> ?_⟩;rcases h with h | ⟨b,off,ha,hlt,hc⟩
 ·omega
 refine ⟨b,off,ha,hlt,fun j hj=> ?_⟩;obtain ⟨g0,g1⟩:=pl l j hj;exact ⟨hc _ _ g0,by have:=hc _ _ g1;rwa [←Nat.add_assoc] at this⟩
def Frs (w:World) (v:Value) (l:List (Bs × List Bs)):Prop:=∃ a cap,v= .slice a l.length cap∧l.length≤cap∧cap≤maxLen ∧
  ∀ (hn:0<l.length),∃ b off,a=some ⟨b,off,none⟩∧b<w.heap.size∧∀ j (hj:j<l.length),w.cell? ⟨b,off+j*2,none⟩=some (.string (mk l[j].1))∧∃ cv,w.cell? ⟨b,off+j*2+1,none⟩=some cv∧Strs w cv l[j].2
theorem Frs.below {w w':World} {v:Value} {l:List (Bs × List Bs)} (h:Frs w v l) (hb:Below w.heap.size w w'):Frs w' v l:=by
 obtain ⟨a,cap,rfl,hn,hm,h⟩:=h;refine ⟨a,cap,rfl,hn,hm,fun h0=> ?_⟩;obtain ⟨b,off,ha,hlt,hc⟩:=h h0;refine ⟨b,off,ha,by have:=hb.size;omega,fun j hj=> ?_⟩;obtain ⟨c0,cv,c1,hs⟩:=hc j hj;exact ⟨((yA hb).1 b _ hlt).trans c0,cv,((yA hb).1 b _ hlt).trans c1,hs.below hb⟩
def Xh (H:List Bs) (x:Bs) (w:World) (e:Ending) (w':World):Prop:=(∃ i:Nat,e= .returned (.tuple #[.int .i64 (i:Int),.bool (decide (x∈H))])∧i≤H.length∧(x∈H→∃ h:i<H.length,H[i]=x))∧Below w.heap.size w w'
set_option maxRecDepth 20000
set_option maxHeartbeats 8000000
theorem T0 (T:List PinP) (a:Option Addr) (cap:Nat) (x:Bs) (w:World) (hT:Pins w (.slice a T.length cap) T) (hS:SortH (T.map (·.host))) (hn:∀ p∈T,p.host.length≤100000) (hx:x.length≤100000) (hl:T.length≤1000000):Calls Tryz.prog 66 #[.slice a T.length cap,.string (mk x),.func (.func 67) #[] #[]] w (Xh (T.map (·.host)) x w):=by
 obtain ⟨a',cap',hv,h1,h2,hc⟩:=hT.open;obtain ⟨rfl,rfl⟩:a=a'∧cap=cap':=by injection hv with e1 _ e2;exact ⟨e1,e2⟩
 clear hv;unfold maxLen at h2;have HC:=KZ9 hc;have HS:=KZ9 hS;have HN:=KZ9 hn;obtain ⟨n,hnn⟩:=KZ6 T.length;have HL:=KZ9 hnn;rw [←hnn] at h1 hl ⊢;clear hnn hc hS hn hT;go_enter Tryz.func66,Tryz.ntmps66
 go_wp2;go_loopw [9,10] (fun iv jv wr=>∃ lo hi:Nat,iv= .int .i64 lo∧jv= .int .i64 hi∧lo≤hi∧hi≤n∧Hid ((∀ t (h:t<T.length),t<lo→yF T[t].host x<0)∧(∀ t (h:t<T.length),hi≤t→0≤yF T[t].host x))∧Hid (Below w.heap.size w wr)) (fun iv jv _=>(intOf jv).toNat - (intOf iv).toNat)
 case atStart=>exact ⟨0,n,rfl,rfl,by omega,by omega,KZ9 ⟨fun t h h0=>by omega,fun t h h0=>by have:=HL.out;omega⟩,KZ9 (Below.refl _ _)⟩
 case round =>
  obtain ⟨lo,hi,rfl,rfl,hlh,hin,hI,hnx⟩:=hrel;by_cases hlt:lo<hi
  ·obtain ⟨m,hm⟩:=KZ6 ((lo+hi) / 2);have hmn:m<T.length:=by have:=HL.out;omega
   obtain ⟨b,off,rfl,hb,hcc⟩:=HC.out (by omega);obtain ⟨k0,k1,k2⟩:=hcc m hmn;have c0:=(hnx.out.cell (p:=⟨b,off+m*3,none⟩) hb).trans k0;have c1:=(hnx.out.cell (p:=⟨b,off+m*3+1,none⟩) hb).trans k1;have c2:=(hnx.out.cell (p:=⟨b,off+m*3+2,none⟩) hb).trans k2;clear k0 k1 k2;clear hcc;obtain ⟨p,hp⟩:=KZ6 (T[m]);have hpl:p.host.length≤100000:=HN.out p (by rw [hp];exact List.getElem_mem hmn);rw [←hp] at c0 c1 c2;have hcm:=fun W=>Rq p x W hpl hx;have hmv:(lo:Int)+(hi:Int)=((lo+hi:Nat):Int):=by omega
   obtain ⟨c,hcd⟩:=KZ6 (yF p.host x);simp only [←hcd] at hcm;have HCM:=KZ9 hcm;have HP:=KZ9 hp;have HCD:=KZ9 hcd;have hm1:lo≤m:=by omega
   have hm2:m<hi:=by omega
   have hm3:((lo:Int)+(hi:Int)) / 2=(m:Int):=by omega
   clear hcm hp hcd hpl hmv;by_cases hneg:c<0
   ·have g1:decide (c<(0:Int))=true:=KZ7 hneg;have hI2:Hid ((∀ t (h:t<T.length),t<m+1→yF T[t].host x<0)∧(∀ t (h:t<T.length),hi≤t→0≤yF T[t].host x)):=KZ9 ⟨fun t h h0=>by
     have:=Zk HS.out (x:=x) (t:=t) (m:=m) (by omega) (by rw [List.length_map];exact hmn) (by rw [List.length_map];exact h) (by rw [List.getElem_map,←HP.out,←HCD.out];exact hneg)
     simpa using this,hI.out.2⟩
    clear hneg hI hm;go_wp2_with fail
    all_goals try omega
    refine (HCM.out _).mono ?_;rintro e w1 ⟨rfl,hb1⟩;have hnx1:=KZ9 (hnx.out.trans (hb1.mono hnx.out.size));clear hb1 c0 c1 c2;go_wp2
    all_goals try omega
    go_roundw
    case rel=>exact ⟨m+1,hi,by go_num,rfl,by omega,hin,hI2,hnx1⟩
    case measure=>simp [intOf];omega
   have g1:decide (c<(0:Int))=false:=KZ8 hneg;have hI2:Hid ((∀ t (h:t<T.length),t<lo→yF T[t].host x<0)∧(∀ t (h:t<T.length),m≤t→0≤yF T[t].host x)):=KZ9 ⟨hI.out.1,fun t h h0=>by
    have:=jQ HS.out (x:=x) (t:=t) (m:=m) (by omega) (by rw [List.length_map];exact hmn) (by rw [List.length_map];exact h) (by rw [List.getElem_map,←HP.out,←HCD.out];exact hneg);rw [List.getElem_map] at this;omega⟩
   clear hneg hI hm;go_wp2_with fail
   all_goals try omega
   refine (HCM.out _).mono ?_;rintro e w1 ⟨rfl,hb1⟩;have hnx1:=KZ9 (hnx.out.trans (hb1.mono hnx.out.size));clear hb1 c0 c1 c2;go_wp2
   all_goals try omega
   go_roundw
   case rel=>exact ⟨lo,m,rfl,by go_num,by omega,by omega,hI2,hnx1⟩
   case measure=>simp [intOf];omega
  obtain rfl:hi=lo:=by omega
  have hend:=Xr HS.out (x:=x) (i:=hi) (fun t h h0=>by have:=hI.out.1 t (by simpa using h) h0;simpa using this) (fun t h h0=>by have:=hI.out.2 t (by simpa using h) h0;rw [List.getElem_map];omega);clear hI hlh;by_cases hlast:hi<n
  ·have hmn:hi<T.length:=by have:=HL.out;omega
   obtain ⟨b,off,rfl,hb,hcc⟩:=HC.out (by omega);obtain ⟨k0,k1,k2⟩:=hcc hi hmn;have c0:=(hnx.out.cell (p:=⟨b,off+hi*3,none⟩) hb).trans k0;have c1:=(hnx.out.cell (p:=⟨b,off+hi*3+1,none⟩) hb).trans k1;have c2:=(hnx.out.cell (p:=⟨b,off+hi*3+2,none⟩) hb).trans k2;clear k0 k1 k2;clear hcc;obtain ⟨p,hp⟩:=KZ6 (T[hi]);have hpl:p.host.length≤100000:=HN.out p (by rw [hp];exact List.getElem_mem hmn);rw [←hp] at c0 c1 c2;have hcm:=fun W=>Rq p x W hpl hx;have hz:=tY p.host x;obtain ⟨c,hcd⟩:=KZ6 (yF p.host x);simp only [←hcd] at hcm;rw [←hcd] at hz;have hq:(c==0)=decide (x∈T.map (·.host)):=by
    have h3:c=0↔x∈T.map (·.host):=by
     rw [hz,hend];constructor
     ·intro e;exact ⟨by rw [List.length_map];exact hmn,by rw [List.getElem_map,←hp];exact e⟩
     rintro ⟨_,e⟩;rw [List.getElem_map,←hp] at e;exact e
    rw [Bool.eq_iff_iff];simp only [beq_iff_eq,decide_eq_true_eq];exact h3
   obtain ⟨d,hd⟩:=KZ6 (decide (x∈T.map (·.host)));rw [←hd] at hq;have HD:=KZ9 hd;have HE:=KZ9 hend;have HCM:=KZ9 hcm;clear hcm hp hcd hpl hz hd hend;go_wp2_with fail
   all_goals try omega
   refine (HCM.out _).mono ?_;rintro e w1 ⟨rfl,hb1⟩;have hnx1:=KZ9 (hnx.out.trans (hb1.mono hnx.out.size));clear hb1 c0 c1 c2;go_wp2
   all_goals try omega
   go_ret2;refine ⟨⟨hi,by first | rfl | (rw [HD.out];rfl),by rw [List.length_map,←HL.out];omega,fun e=>HE.out.1 e⟩,hnx1.out⟩
  have hno:x∉T.map (·.host):=by
   rw [hend];rintro ⟨h,_⟩;rw [List.length_map] at h;have:=HL.out;omega
  have HNO:=KZ9 hno;clear hno hend;go_wp2
  all_goals try omega
  go_ret2;refine ⟨⟨hi,by rw [KZ8 HNO.out];rfl,by rw [List.length_map,←HL.out];omega,fun e=>absurd e HNO.out⟩,hnx.out⟩
end Go.Proofs.YtjbciamhhfcdoaaGreatDoor
