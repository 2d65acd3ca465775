/- What the proof of TopDecisionTable uses, part Dec16. -/
import Derived.Test.YtjbciamhhfcdoaaGreatDoorDec15
import Derived.HandedShaped
import Derived.Lib.LaidU8T
set_option linter.unusedSimpArgs false
set_option linter.unusedVariables false
namespace Go.Proofs.YtjbciamhhfcdoaaGreatDoor
open Go.RowKit Hs
set_option maxRecDepth 100000
set_option maxHeartbeats 16000000
theorem S6 (sc us rs nm:Bs) (kd va x0 x1 x2 x3 x4 x5 x6 x7:Nat) (pt:Int) (cs cp cu cb:Bool) (ha:Option Addr) (hn hc:Nat) (l:Bs) (d:Int) (img:Bool) (a r:Nat) (fu:Bs) (cv nv:Bool) (g0 gc g1 g2:Nat) (w0 w:World) {u0 u1 u2 u3 u4 u5 u7 u8 u9 aa ab ac ad ae af ag ah ai aj ak al am an ao ap aq ar au av aw ax ay az aA aB aC aD aE aF aG aH aI aJ aK aL aM aN aO aP aQ aR aS aT aU aV aW aX aY aZ ba bb bd be bf bg bh bi bj bk bl bm bn bo bp bq br bs bt bu bv bw bx bz bA bB bC bD bE bF bG bH bI bJ bK bL bM bN bO bP bQ bR bS bT bU bV bW bX bY bZ ca cd ce cf cg ch ci cj ck cl cm cn co cq cr ct cw cx cy cz cA cB cC cD cE cF cG cH cI cJ cK cL cM cN cO cP cQ cR cS cT cU cV cW cX cY cZ da db dc dd de df dg dh di dj dk dl dm dn dp dq dr ds dt du dv dw dx dy dz dA dB dC dD dE dF dG dH dI dJ dK dL dM dN dO dP dQ dR dS dT dU dV dW dX dY dZ ea eb ec ed ee ef eg eh ei ej ek el em en eo ep eq er:Value} (hw:ym ⟨kd,nm,va,[x0,x1,x2,x3,x4,x5,x6,x7]⟩) (hub:tS ⟨sc,us,⟨kd,nm,va,[x0,x1,x2,x3,x4,x5,x6,x7]⟩,pt,rs⟩) (hB:Base6 w0) (hA:Below w0.heap.size w0 w) (b0:BlkL w g0 38 (wT l d img)) (bc:BlkL w gc 41 [.bool cs,.bool cp,.bool cu,.bool cb,.slice ha hn hc]) (b1:BlkL w g1 62 (za ⟨sc,us,⟨kd,nm,va,[x0,x1,x2,x3,x4,x5,x6,x7]⟩,pt,rs⟩)) (b2:BlkL w g2 34 (zP ⟨a,r,fu⟩)) (hp:zv sc=80)
  (HNV:Hid (∀ W,Below w.heap.size w W→Calls Tryz.prog 25 #[.agg #[.bool cs,.bool cp,.bool cu,.bool cb,.slice ha hn hc],.agg #[.int .i64 (kd:Int),.string (mk nm),.int .u32 (va:Int),.int .u16 (x0:Int),.int .u16 (x1:Int),.int .u16 (x2:Int),.int .u16 (x3:Int),.int .u16 (x4:Int),.int .u16 (x5:Int),.int .u16 (x6:Int),.int .u16 (x7:Int)]] W fun e w'=>e= .returned (.bool nv)∧Below W.heap.size W w'))
  (hcov:cv=true→a=2) (htrust:cv=false→yv ⟨sc,us,⟨kd,nm,va,[x0,x1,x2,x3,x4,x5,x6,x7]⟩,pt,rs⟩=true→a=1) (hdoc:cv=false→yv ⟨sc,us,⟨kd,nm,va,[x0,x1,x2,x3,x4,x5,x6,x7]⟩,pt,rs⟩=false→d=4→a=if (cu&&nv)=true then 2 else 1) (hrest:cv=false→yv ⟨sc,us,⟨kd,nm,va,[x0,x1,x2,x3,x4,x5,x6,x7]⟩,pt,rs⟩=false→d≠4→a=if (cu||(cp&&((decide (d=2)||(decide (d=20)||(decide (d=9)&& !img)))&&(decide (kd=1)&& !cb))))=true then 2 else if cp=true then 3 else 1) :
  Code.wp Tryz.prog (wk 10 gI) (bodyPost Tryz.prog Tryz.f4 (jn w0)) ⟨#[u0,u1,u2,u3,u4,u5,.pointer (some ⟨g0,0,none⟩),u7,u8,u9,aa,ab,ac,ad,ae,.pointer (some ⟨gc,0,none⟩),af,.pointer (some ⟨g1,0,none⟩),ag,.pointer (some ⟨g2,0,none⟩),ah,.bool cv,ai,aj,ak,al,am,an,ao,ap,aq,ar,au,av,aw,ax,ay,az,aA,aB,aC,aD,aE,aF,aG,aH,aI,aJ,aK,aL,aM,aN,aO,aP,aQ,aR,aS,aT,aU,aV,aW,aX,aY,aZ,ba,bb,bd,be,bf,bg,bh,bi,bj,bk,bl,bm,bn,bo,bp,bq,br,bs,bt,bu,bv,bw,bx,bz,bA,bB,bC,bD,bE,bF,bG,bH,bI,bJ,bK,bL,bM,bN,bO,bP,bQ,bR,bS,bT,bU,bV,bW,bX,bY,bZ,ca,cd,ce,cf,cg,ch,ci,cj,ck,cl,cm,cn,co,cq,cr,ct,cw,cx,cy,cz,cA,cB,cC,cD,cE,cF,cG,cH,cI,cJ,cK,cL,cM,cN,cO,cP,cQ,cR,cS,cT,cU,cV,cW,cX,cY,cZ,da,db,dc,dd,de,df,dg,dh,di,dj,dk,dl,dm,dn,dp,dq,dr,ds,dt,du,dv,dw,dx,dy,dz,dA,dB,dC,dD,dE,dF,dG,dH,dI,dJ,dK,dL,dM,dN,dO,dP,dQ,dR,dS,dT,dU,dV,dW,dX,dY,dZ,ea,eb,ec,ed,ee,ef,eg,eh,ei,ej,ek,el,em,en,eo,ep,eq,er],[]⟩ w:=by
 conv=>arg 2;whnf
 have HIN:=KZ9 (tV ⟨sc,us,⟨kd,nm,va,[x0,x1,x2,x3,x4,x5,x6,x7]⟩,pt,rs⟩ w);have HNI:=KZ9 (show decide (zv sc=80)=true from KZ7 hp);have HTR:=KZ9 (fun W=>pD ⟨sc,us,⟨kd,nm,va,[x0,x1,x2,x3,x4,x5,x6,x7]⟩,pt,rs⟩ W hw hub);obtain ⟨tr,htr⟩:=KZ6 (yv ⟨sc,us,⟨kd,nm,va,[x0,x1,x2,x3,x4,x5,x6,x7]⟩,pt,rs⟩);rw [←htr] at HTR htrust hdoc hrest;have HAW:=KZ9 (fun W (h:Below w0.heap.size w0 W)=>qy W (hB.below h));have HB:=KZ9 hB;have HB0:=KZ9 b0;have HBC:=KZ9 bc;have HB1:=KZ9 b1;have HB2:=KZ9 b2;have HA:=KZ9 hA;have HCO:=KZ9 hcov;have HTU:=KZ9 htrust;have HDO:=KZ9 hdoc;have HRE:=KZ9 hrest;obtain ⟨q0,q1,q2,q3,q4,q5,q6,q7,q8,q9,q10,q11,q12,q13,q14⟩:=BlkL.cs15 b1;clear b0 bc b1 b2 hA hB hw hub hp htr hcov htrust hdoc hrest;apply wp_seq_k;intro K1 hK1;have HK1:=KZ9 hK1;clear hK1;go_wp2_with fail
 all_goals try omega
 refine HIN.out.mono ?_;rintro e w1 ⟨rfl,hb1⟩;rw [HNI.out];have HA1:=KZ9 (HA.out.trans (hb1.mono HA.out.size));have HC0:=KZ9 (HB0.out.below HB0.out.lt hb1);have HCC:=KZ9 (HBC.out.below HBC.out.lt hb1);have HC1:=KZ9 (HB1.out.below HB1.out.lt hb1);have HC2:=KZ9 (HB2.out.below HB2.out.lt hb1);have HN1:=KZ9 (fun W (h:Below w1.heap.size w1 W)=>HNV.out W (hb1.trans (h.mono hb1.size)));clear q0 q1 q2 q3 q4 q5 q6 q7 q8 q9 q10 q11 q12 q13 q14 hb1 HB0 HBC HB1 HB2 HA HIN HNI HNV;cases cv
 ·have d1:=HC1.out;obtain ⟨q0,q1,q2,q3,q4,q5,q6,q7,q8,q9,q10,q11,q12,q13,q14⟩:=BlkL.cs15 d1;clear d1;go_wp2_with fail
  all_goals try omega
  refine (HTR.out _).mono ?_;rintro e w2 ⟨rfl,hb2⟩;have HA2:=KZ9 (HA1.out.trans (hb2.mono HA1.out.size));have HD0:=KZ9 (HC0.out.below HC0.out.lt hb2);have HDC:=KZ9 (HCC.out.below HCC.out.lt hb2);have HD1:=KZ9 (HC1.out.below HC1.out.lt hb2);have HD2:=KZ9 (HC2.out.below HC2.out.lt hb2);have HN2:=KZ9 (fun W (h:Below w2.heap.size w2 W)=>HN1.out W (hb2.trans (h.mono hb2.size)));clear q0 q1 q2 q3 q4 q5 q6 q7 q8 q9 q10 q11 q12 q13 q14 hb2 HC0 HCC HC1 HC2 HA1 HTR HN1;cases tr
  ·have r1:=HD0.out.c 1 _ rfl;by_cases h4:d=4
   ·subst h4;have hact:=HDO.out (by trivial) (by trivial) (by trivial);clear HCO HTU HDO HRE;cases cu
    ·obtain rfl:a=1:=hact;have HAL:=KZ9 (fun x:yg w2=>HAW.out x.1 (HA2.out.trans (x.2.mono HA2.out.size)));have HNL:=KZ9 (fun x:yg w2=>HN2.out x.1 x.2);have c1:=HD1.out;have c2:=HD2.out;have cc:=HDC.out;obtain ⟨q0,q1,q2,q3,q4,q5,q6,q7,q8,q9,q10,q11,q12,q13,q14⟩:=BlkL.fs15 (fun x:yg w2=>(c1.below (by exact c1.lt) x.2));obtain ⟨s0,s1,s2⟩:=BlkL.fs3 (fun x:yg w2=>(c2.below (by exact c2.lt) x.2));obtain ⟨z0,z1,z2,z3,z4⟩:=BlkL.fs5 (fun x:yg w2=>(cc.below (by exact cc.lt) x.2));clear c1 c2 cc HN2;go_upto_region 20 with fail
     all_goals try omega
     refine zM w2 (by kernel_rfl) (by kernel_rfl) (Below.refl _ _) ?_;repeat (go_big_quiet_step (fail))
     go_big_quiet_step (exact Calls.later (HAL.out _))
     repeat (go_big_quiet_step (fail))
     refine wpQuiet_nil ?_;intro w5 hw';obtain ⟨⟨w6,hb6⟩,hw6⟩:=hw';have hb5:Below w2.heap.size w2 w5:=hw6▸hb6;have HA5:=KZ9 (HA2.out.trans (hb5.mono HA2.out.size));clear hw6 hb6 hb5 q0 q1 q2 q3 q4 q5 q6 q7 q8 q9 q10 q11 q12 q13 q14 s0 s1 s2 z0 z1 z2 z3 z4;go_wp2
     all_goals try omega
     go_ret;exact ⟨rfl,HA5.out⟩
    cases nv
    ·obtain rfl:a=1:=hact;have HAL:=KZ9 (fun x:yg w2=>HAW.out x.1 (HA2.out.trans (x.2.mono HA2.out.size)));have HNL:=KZ9 (fun x:yg w2=>HN2.out x.1 x.2);have c1:=HD1.out;have c2:=HD2.out;have cc:=HDC.out;obtain ⟨q0,q1,q2,q3,q4,q5,q6,q7,q8,q9,q10,q11,q12,q13,q14⟩:=BlkL.fs15 (fun x:yg w2=>(c1.below (by exact c1.lt) x.2));obtain ⟨s0,s1,s2⟩:=BlkL.fs3 (fun x:yg w2=>(c2.below (by exact c2.lt) x.2));obtain ⟨z0,z1,z2,z3,z4⟩:=BlkL.fs5 (fun x:yg w2=>(cc.below (by exact cc.lt) x.2));clear c1 c2 cc HN2;go_upto_region 20 with fail
     all_goals try omega
     refine zM w2 (by kernel_rfl) (by kernel_rfl) (Below.refl _ _) ?_;repeat (go_big_quiet_step (fail))
     go_big_quiet_step (exact Calls.later (HNL.out _))
     repeat (go_big_quiet_step (fail))
     go_big_quiet_step (exact Calls.later (HAL.out _))
     repeat (go_big_quiet_step (fail))
     refine wpQuiet_nil ?_;intro w5 hw';obtain ⟨⟨w6,hb6⟩,hw6⟩:=hw';have hb5:Below w2.heap.size w2 w5:=hw6▸hb6;have HA5:=KZ9 (HA2.out.trans (hb5.mono HA2.out.size));clear hw6 hb6 hb5 q0 q1 q2 q3 q4 q5 q6 q7 q8 q9 q10 q11 q12 q13 q14 s0 s1 s2 z0 z1 z2 z3 z4;go_wp2
     all_goals try omega
     go_ret;exact ⟨rfl,HA5.out⟩
    obtain rfl:a=2:=hact;have HAL:=KZ9 (fun x:yg w2=>HAW.out x.1 (HA2.out.trans (x.2.mono HA2.out.size)));have HNL:=KZ9 (fun x:yg w2=>HN2.out x.1 x.2);have c1:=HD1.out;have c2:=HD2.out;have cc:=HDC.out;obtain ⟨q0,q1,q2,q3,q4,q5,q6,q7,q8,q9,q10,q11,q12,q13,q14⟩:=BlkL.fs15 (fun x:yg w2=>(c1.below (by exact c1.lt) x.2));obtain ⟨s0,s1,s2⟩:=BlkL.fs3 (fun x:yg w2=>(c2.below (by exact c2.lt) x.2));obtain ⟨z0,z1,z2,z3,z4⟩:=BlkL.fs5 (fun x:yg w2=>(cc.below (by exact cc.lt) x.2));clear c1 c2 cc HN2;go_upto_region 20 with fail
    all_goals try omega
    refine zM w2 (by kernel_rfl) (by kernel_rfl) (Below.refl _ _) ?_;repeat (go_big_quiet_step (fail))
    go_big_quiet_step (exact Calls.later (HNL.out _))
    repeat (go_big_quiet_step (fail))
    go_big_quiet_step (exact Calls.later (HAL.out _))
    repeat (go_big_quiet_step (fail))
    refine wpQuiet_nil ?_;intro w5 hw';obtain ⟨⟨w6,hb6⟩,hw6⟩:=hw';have hb5:Below w2.heap.size w2 w5:=hw6▸hb6;have HA5:=KZ9 (HA2.out.trans (hb5.mono HA2.out.size));clear hw6 hb6 hb5 q0 q1 q2 q3 q4 q5 q6 q7 q8 q9 q10 q11 q12 q13 q14 s0 s1 s2 z0 z1 z2 z3 z4;go_wp2
    all_goals try omega
    go_ret;exact ⟨rfl,HA5.out⟩
   have e4:decide (d=4)=false:=KZ8 h4;have f4:(d==4)=false:=by simpa using h4
   have HACT:=KZ9 (HRE.out (by trivial) (by trivial) h4);clear HCO HTU HDO HRE h4;go_wp2_with fail
   all_goals try omega
   apply HK1.out;exact Ja _ _ _ _ _ _ _ _ _ _ _ _ _ _ _ _ _ _ _ _ _ _ _ _ _ _ _ _ _ _ _ _ _ _ HB.out HA2.out HD0.out HDC.out HD1.out HD2.out HACT.out
  obtain rfl:a=1:=HTU.out (by trivial) (by trivial);have c0:=HD2.out.c 0 _ rfl;go_wp2_with fail
  all_goals try omega
  refine (HAW.out _ HA2.out).mono ?_;rintro e w7 ⟨rfl,hb7⟩;have HA7:=KZ9 (HA2.out.trans (hb7.mono HA2.out.size));clear hb7;go_wp2
  all_goals try omega
  go_ret;exact ⟨rfl,HA7.out⟩
 obtain rfl:a=2:=HCO.out (by trivial);have c0:=HC2.out.c 0 _ rfl;go_wp2_with fail
 all_goals try omega
 refine (HAW.out _ HA1.out).mono ?_;rintro e w7 ⟨rfl,hb7⟩;have HA7:=KZ9 (HA1.out.trans (hb7.mono HA1.out.size));clear hb7;go_wp2
 all_goals try omega
 go_ret;exact ⟨rfl,HA7.out⟩
theorem JD (sc us rs nm:Bs) (kd va x0 x1 x2 x3 x4 x5 x6 x7:Nat) (pt:Int) (l:Bs) (d now:Int) (img:Bool) (cs cp cu cb:Bool) (hos:List Bs) (hv pv lv:Value) (q q2:Option Addr) (T:List PinP) (L L':List EntP) (g0 gc g1:Nat) (w0 w:World) {u0 u1 u5 u7 u8 u9 aa ab ac ad ae af ag ah ai aj ak al am an ao ap aq ar au av aw ax ay az aA aB aC aD aE aF aG aH aI aJ aK aL aM aN aO aP aQ aR aS aT aU aV aW aX aY aZ ba bb bd be bf bg bh bi bj bk bl bm bn bo bp bq br bs bt bu bv bw bx bz bA bB bC bD bE bF bG bH bI bJ bK bL bM bN bO bP bQ bR bS bT bU bV bW bX bY bZ ca cc cd cf cg ch ci cj ck cl co cq cr ct cv cw cx cy cz cA cB cC cD cE cF cG cH cI cJ cK cL cM cN cO cP cQ cR cS cT cU cV cW cX cY cZ da db dc dd de df dg dh di dj dk dl dm dn dp dq dr ds dt du dv dw dx dy dz dA dB dC dD dE dF dG dH dI dJ dK dL dM dN dO dP dQ dR dS dT dU dV dW dX dY dZ ea eb ec ed ee ef eg eh ei ej ek el em en eo ep eq er es:Value} (hl:l.length≤1500) (hu:sI l=some ⟨sc,us,⟨kd,nm,va,[x0,x1,x2,x3,x4,x5,x6,x7]⟩,pt,rs⟩) (hvd:xO d=true) (hB:Base6 w0) (hA:Below w0.heap.size w0 w) (ht:TL w q q2 T L') (hS:Strs w hv hos) (b0:BlkL w g0 38 (wT l d img)) (bc:BlkL w gc 41 (zZ ⟨cs,cp,cu,cb,hos⟩ hv)) (b1:BlkL w g1 62 (za ⟨sc,us,⟨kd,nm,va,[x0,x1,x2,x3,x4,x5,x6,x7]⟩,pt,rs⟩))
  (hT:Pins w pv T) (hL:Ents w lv L) (hTs:∀ p∈T,p.host.length≤100000) (hLs:∀ p∈L,p.host.length≤100000) (hTo:∀ p∈T,tE p=true) (hTS:SortH (T.map (·.host))) (hpm:L'.Perm L) (hLn:∀ p∈L,zJ p.host=true) :
  Code.wp Tryz.prog (wk 7 gI) (bodyPost Tryz.prog Tryz.f4 (jn w0)) ⟨#[u0,u1,.int .i64 now,pv,lv,u5,.pointer (some ⟨g0,0,none⟩),u7,u8,u9,aa,.pointer q,ab,.pointer q2,ac,.pointer (some ⟨gc,0,none⟩),ad,.pointer (some ⟨g1,0,none⟩),ae,af,ag,ah,ai,aj,ak,al,am,an,ao,ap,aq,ar,au,av,aw,ax,ay,az,aA,aB,aC,aD,aE,aF,aG,aH,aI,aJ,aK,aL,aM,aN,aO,aP,aQ,aR,aS,aT,aU,aV,aW,aX,aY,aZ,ba,bb,bd,be,bf,bg,bh,bi,bj,bk,bl,bm,bn,bo,bp,bq,br,bs,bt,bu,bv,bw,bx,bz,bA,bB,bC,bD,bE,bF,bG,bH,bI,bJ,bK,bL,bM,bN,bO,bP,bQ,bR,bS,bT,bU,bV,bW,bX,bY,bZ,ca,cc,cd,cf,cg,ch,ci,cj,ck,cl,co,cq,cr,ct,cv,cw,cx,cy,cz,cA,cB,cC,cD,cE,cF,cG,cH,cI,cJ,cK,cL,cM,cN,cO,cP,cQ,cR,cS,cT,cU,cV,cW,cX,cY,cZ,da,db,dc,dd,de,df,dg,dh,di,dj,dk,dl,dm,dn,dp,dq,dr,ds,dt,du,dv,dw,dx,dy,dz,dA,dB,dC,dD,dE,dF,dG,dH,dI,dJ,dK,dL,dM,dN,dO,dP,dQ,dR,dS,dT,dU,dV,dW,dX,dY,dZ,ea,eb,ec,ed,ee,ef,eg,eh,ei,ej,ek,el,em,en,eo,ep,eq,er,es],[]⟩ w:=by
 conv=>arg 2;whnf
 have HOK:=KZ9 (Vp hu (by omega));have HUP:=KZ9 (TF hu hl);have hval:=SO (Yi hu).1;have hLS:SortH (L'.map (·.host)):=by
  rcases ht.2 with ⟨_,rfl⟩ | ⟨_,_,_,_,_,_,h,_⟩
  ·exact List.Pairwise.nil
  exact h
 have hj:=Qx hTS hTo hLS hpm hLn now ⟨kd,nm,va,[x0,x1,x2,x3,x4,x5,x6,x7]⟩;have hm:=pP l d img ⟨cs,cp,cu,cb,hos⟩ hv now q q2 T L' ⟨sc,us,⟨kd,nm,va,[x0,x1,x2,x3,x4,x5,x6,x7]⟩,pt,rs⟩ w (hB.below hA) (by omega) (qN _) hu HOK.out.1 HOK.out.2 (qN _) HUP.out.1 HUP.out.2 (qN _) hS hval ht;rw [if_pos hvd,if_pos hvd] at hm;have hta:=Q4 ⟨sc,us,⟨kd,nm,va,[x0,x1,x2,x3,x4,x5,x6,x7]⟩,pt,rs⟩ d img ⟨cs,cp,cu,cb,hos⟩ (uT now T L' ⟨kd,nm,va,[x0,x1,x2,x3,x4,x5,x6,x7]⟩) hvd _ rfl;obtain ⟨RV,hRV⟩:=KZ6 (xK ⟨sc,us,⟨kd,nm,va,[x0,x1,x2,x3,x4,x5,x6,x7]⟩,pt,rs⟩ d img ⟨cs,cp,cu,cb,hos⟩ (uT now T L' ⟨kd,nm,va,[x0,x1,x2,x3,x4,x5,x6,x7]⟩));obtain ⟨sv,hsv⟩:=KZ6 ((uT now T L' ⟨kd,nm,va,[x0,x1,x2,x3,x4,x5,x6,x7]⟩).source);obtain ⟨nv,hnv⟩:=KZ6 (YK ⟨cs,cp,cu,cb,hos⟩ ⟨kd,nm,va,[x0,x1,x2,x3,x4,x5,x6,x7]⟩);rw [←hsv] at hj
 rw [←hRV,←hsv,←hnv] at hta;have hm2:Calls Tryz.prog 11 #[.agg (wT l d img).toArray,.agg (zZ ⟨cs,cp,cu,cb,hos⟩ hv).toArray,.int .i64 now,.pointer q,.pointer q2] w fun e w'=>e= .returned (.tuple #[.agg (zP RV).toArray,.int .i64 0])∧Below w.heap.size w w':=by
  rw [hRV];exact hm
 obtain ⟨a,r,fu⟩:=RV;have HTA:=KZ9 hta;have hnav:∀ W,Below w.heap.size w W→Calls Tryz.prog 25 #[.agg (zZ ⟨cs,cp,cu,cb,hos⟩ hv).toArray,.agg #[.int .i64 (kd:Int),.string (mk nm),.int .u32 (va:Int),.int .u16 (x0:Int),.int .u16 (x1:Int),.int .u16 (x2:Int),.int .u16 (x3:Int),.int .u16 (x4:Int),.int .u16 (x5:Int),.int .u16 (x6:Int),.int .u16 (x7:Int)]] W fun e w'=>e= .returned (.bool nv)∧Below W.heap.size W w':=fun W h=>by
  rw [hnv];exact P5 ⟨cs,cp,cu,cb,hos⟩ hv ⟨kd,nm,va,[x0,x1,x2,x3,x4,x5,x6,x7]⟩ W (hB.below (hA.trans (h.mono hA.size))) (hS.below h) HOK.out.1 HOK.out.2.2.2.1
 have HFI:=KZ9 (fun W (h:Below w.heap.size w W)=>show Calls Tryz.prog 21 #[.int .i64 now,pv,lv,.agg #[.int .i64 (kd:Int),.string (mk nm),.int .u32 (va:Int),.int .u16 (x0:Int),.int .u16 (x1:Int),.int .u16 (x2:Int),.int .u16 (x3:Int),.int .u16 (x4:Int),.int .u16 (x5:Int),.int .u16 (x6:Int),.int .u16 (x7:Int)]] W fun e w'=>(∃ (cn:Nat) (cm:Bs) (ce:Bool),e= .returned (.agg #[.int .i64 (cn:Int),.string (mk cm),.bool ce])∧(cn≠0↔sv≠0))∧Below W.heap.size W w' from
  (Rk now pv lv T L ⟨kd,nm,va,[x0,x1,x2,x3,x4,x5,x6,x7]⟩ W (hT.below h) (hL.below h) hTs hLs HOK.out.1 (Nat.le_trans HOK.out.2.2.2.1 (by decide))).mono fun e w' ⟨⟨c,h1,h2⟩,h3⟩=>⟨⟨c.source,c.name,c.exact,h1,h2.trans hj.symm⟩,h3⟩)
 have HB:=KZ9 hB;have HA:=KZ9 hA;have B0:=KZ9 b0;have B1:=KZ9 b1;obtain ⟨r0,r1,r2⟩:=BlkL.cs3 b0;obtain ⟨s0,s1,s2,s3,s4⟩:=BlkL.cs5 bc;have hSo:=hS.open;obtain ⟨ha1,hc1,rfl,_,_,_⟩:=hSo;obtain ⟨hon,hhon⟩:=KZ6 hos.length;have hbc:BlkL w gc 41 [.bool cs,.bool cp,.bool cu,.bool cb,.slice ha1 hon hc1]:=by rw [hhon];exact bc
 have HNV:Hid (∀ W,Below w.heap.size w W→Calls Tryz.prog 25 #[.agg #[.bool cs,.bool cp,.bool cu,.bool cb,.slice ha1 hon hc1],.agg #[.int .i64 (kd:Int),.string (mk nm),.int .u32 (va:Int),.int .u16 (x0:Int),.int .u16 (x1:Int),.int .u16 (x2:Int),.int .u16 (x3:Int),.int .u16 (x4:Int),.int .u16 (x5:Int),.int .u16 (x6:Int),.int .u16 (x7:Int)]] W fun e w'=>e= .returned (.bool nv)∧Below W.heap.size W w'):=KZ9 (by rw [hhon];exact hnav);rw [←hhon] at s4 hm2;have BC:=KZ9 hbc;have HM:=KZ9 hm2;clear hu hvd hl hB hA ht hS b0 bc b1 hT hL hTs hLs hTo hTS hpm hLn hval hLS hj hm hm2 hta hRV hsv hnv hnav hbc hhon;apply wp_seq_k;intro K1 hK1;have HK1:=KZ9 hK1;clear hK1;go_wp2_with fail
 all_goals try omega
 refine HM.out.mono ?_;rintro e w1 ⟨rfl,hb1⟩;have hs1:=hb1.size;have HI3:=KZ9 yE;have hY:=(BlkL.new w1 34 (zP ju)).setRow (zP ⟨a,r,fu⟩);have l1:=B1.out.lt;have hd1:=((B1.out.below l1 hb1).alloc (.cells (zP ju).toArray 34)).setRow_other (show g1≠w1.heap.size by omega) (zP ⟨a,r,fu⟩).toArray;have l0:=B0.out.lt;have hd0:=((B0.out.below l0 hb1).alloc (.cells (zP ju).toArray 34)).setRow_other (show g0≠w1.heap.size by omega) (zP ⟨a,r,fu⟩).toArray;have lc:=BC.out.lt;have hdc:=((BC.out.below lc hb1).alloc (.cells (zP ju).toArray 34)).setRow_other (show gc≠w1.heap.size by omega) (zP ⟨a,r,fu⟩).toArray;have hsz0:=HA.out.size;have hA1:=below_setRow ((Below.refl _ w |>.trans hb1).alloc (by omega) (.cells (zP ju).toArray 34)) (show w.heap.size≤w1.heap.size by omega) (zP ⟨a,r,fu⟩).toArray
 obtain ⟨W2,hW2⟩:=KZ6 ((w1.alloc (.cells (zP ju).toArray 34)).setRow w1.heap.size (zP ⟨a,r,fu⟩).toArray);rw [←hW2] at hY hd1 hd0 hdc hA1;have HW2:Hid ((w1.alloc (.cells #[.int .i64 0,.int .i64 0,.string ⟨#[]⟩] 34)).setRow w1.heap.size (zP ⟨a,r,fu⟩).toArray=W2):=KZ9 hW2.symm;have HN1:=KZ9 (heap_alloc_new w1 (.cells (zP ju).toArray 34));have HB0:=KZ9 hd0;have HB1:=KZ9 hd1;have HBC:=KZ9 hdc;have HB2:=KZ9 hY;have HA2:=KZ9 hA1;clear hY hd1 hd0 hdc hA1 hb1 hW2 B1 B0 BC HM r0 r1 r2 s0 s1 s2 s3 s4;go_wp2_with (refine wpList_store_row rfl 34 (.tmp 19) (.tmp 93) rfl w1.heap.size (zP ⟨a,r,fu⟩).toArray rfl rfl 34 _ HN1.out HI3.out rfl (ze (jC _)) ?_)
 all_goals try omega
 apply HK1.out;clear HK1;rw [HW2.out];clear HW2 HN1 HI3;apply wp_seq_k;intro K2 hK2;have HK2:=KZ9 hK2;clear hK2;go_wp2_with fail
 all_goals try omega
 apply HK2.out;clear HK2;apply wp_seq_k;intro K3 hK3;have HK3:=KZ9 hK3;clear hK3;have d1:=HB1.out;obtain ⟨q0,q1,q2,q3,q4,q5,q6,q7,q8,q9,q10,q11,q12,q13,q14⟩:=BlkL.cs15 d1;clear d1;go_wp2_with fail
 all_goals try omega
 refine (HFI.out _ HA2.out).mono ?_;rintro e w4 ⟨⟨cn,cm,ce,rfl,hcs⟩,hb4⟩;have HALL:=KZ9 (HA2.out.trans (hb4.mono HA2.out.size));have HA4:=KZ9 (HA.out.trans (HALL.out.mono HA.out.size));have HC0:=KZ9 (HB0.out.below HB0.out.lt hb4);have HC1:=KZ9 (HB1.out.below HB1.out.lt hb4);have HC2:=KZ9 (HB2.out.below HB2.out.lt hb4);have HCC:=KZ9 (HBC.out.below HBC.out.lt hb4);have HNW:Hid (∀ W,Below w4.heap.size w4 W→Calls Tryz.prog 25 #[.agg #[.bool cs,.bool cp,.bool cu,.bool cb,.slice ha1 hon hc1],.agg #[.int .i64 (kd:Int),.string (mk nm),.int .u32 (va:Int),.int .u16 (x0:Int),.int .u16 (x1:Int),.int .u16 (x2:Int),.int .u16 (x3:Int),.int .u16 (x4:Int),.int .u16 (x5:Int),.int .u16 (x6:Int),.int .u16 (x7:Int)]] W fun e w'=>e= .returned (.bool nv)∧Below W.heap.size W w'):=KZ9 (fun W h=>HNV.out W (HALL.out.trans (h.mono HALL.out.size)));have HCS:=KZ9 hcs
 clear hb4 hcs HA HA2 HB0 HB1 HB2 HBC HALL HNV HFI q0 q1 q2 q3 q4 q5 q6 q7 q8 q9 q10 q11 q12 q13 q14;have hfd:∀ (v:Int) (W:World),(Instr.field 67 (.agg #[.int .i64 v,.string (mk cm),.bool ce]) 0).run Tryz.prog W= .ok (.int .i64 v) W:=fun _ _=>by kernel_rfl
 by_cases hc0:cn=0
 ·subst hc0;have hsv:sv=0:=by have:=HCS.out;omega
  have HSV:=KZ9 hsv;clear hsv;go_wp2_with fail
  all_goals try omega
  apply HK3.out;clear HK3;by_cases hp:zv sc=80
  ·obtain ⟨_,h2⟩:=HTA.out.2 hp;obtain ⟨h3,h4⟩:=h2 HSV.out;exact S6 _ _ _ _ _ _ _ _ _ _ _ _ _ _ _ _ _ _ _ _ _ _ _ _ _ _ _ _ _ _ _ _ _ _ _ _ HOK.out.1 HOK.out.2 HB.out HA4.out HC0.out HCC.out HC1.out HC2.out hp HNW (fun h=>by cases h) (fun _=>h3) (fun _ h=>(h4 h).1) (fun _ h=>(h4 h).2)
  obtain ⟨h2,h3⟩:=HTA.out.1 hp;by_cases htr:yv ⟨sc,us,⟨kd,nm,va,[x0,x1,x2,x3,x4,x5,x6,x7]⟩,pt,rs⟩=true
  ·obtain ⟨h4,h5⟩:=h3 htr;subst h4;exact UQ _ _ _ _ _ _ _ _ _ _ _ _ _ _ _ _ _ _ _ _ _ HOK.out.1 HOK.out.2 HB.out HA4.out HC1.out HC2.out hp htr h5
  exact UO _ _ _ _ _ _ _ _ _ _ _ _ _ _ _ _ _ _ _ _ _ _ HOK.out.1 HOK.out.2 HB.out HA4.out HC1.out HC2.out hp (by simpa using htr) h2
 have hsv:sv≠0:=HCS.out.1 hc0;have g1:decide ((cn:Int)=0)=false:=KZ8 (by omega);have g2:((cn:Int)==0)=false:=by simp;omega
 have g3:((cn:Int) != 0)=true:=by simp;omega
 have HSV:=KZ9 hsv;clear hsv;go_wp2_with fail
 all_goals try omega
 apply HK3.out;clear HK3;by_cases hp:zv sc=80
 ·obtain ⟨h2,_⟩:=HTA.out.2 hp;exact S6 _ _ _ _ _ _ _ _ _ _ _ _ _ _ _ _ _ _ _ _ _ _ _ _ _ _ _ _ _ _ _ _ _ _ _ _ HOK.out.1 HOK.out.2 HB.out HA4.out HC0.out HCC.out HC1.out HC2.out hp HNW (fun _=>h2 HSV.out) (fun h=>by cases h) (fun h=>by cases h) (fun h=>by cases h)
 obtain ⟨h2,h3⟩:=HTA.out.1 hp;by_cases htr:yv ⟨sc,us,⟨kd,nm,va,[x0,x1,x2,x3,x4,x5,x6,x7]⟩,pt,rs⟩=true
 ·obtain ⟨h4,h5⟩:=h3 htr;subst h4;exact UQ _ _ _ _ _ _ _ _ _ _ _ _ _ _ _ _ _ _ _ _ _ HOK.out.1 HOK.out.2 HB.out HA4.out HC1.out HC2.out hp htr h5
 exact UO _ _ _ _ _ _ _ _ _ _ _ _ _ _ _ _ _ _ _ _ _ _ HOK.out.1 HOK.out.2 HB.out HA4.out HC1.out HC2.out hp (by simpa using htr) h2
theorem Pg (w:World):Calls Tryz.prog 9 #[.int .i64 1000] w fun e w'=>e= .returned (.tuple #[.pointer (some ⟨w.heap.size,0,none⟩),.int .i64 0])∧w'=w.alloc (.cells #[.slice none 0 0,.int .i64 1000] 78):=by
 go_enter Tryz.func9,Tryz.ntmps9
 go_wp2
 all_goals try omega
 go_ret2;exact ⟨rfl,rfl⟩
theorem Pq (l:List PinP):∀ v∈pcs l,v.oneCell'=true:=by
 intro v hv;unfold pcs at hv;obtain ⟨p,_,hp⟩:=List.mem_flatMap.1 hv;exact kE p v hp
theorem pM {w:World} {base:Nat} {e:TypeId} {size n:Nat} {v:Value} {xs:List Value} (h:w.ownsRow base e size v n xs):∃ a cap,v= .slice a n cap:=by
 rcases h.2 with ⟨rfl,rfl⟩ | ⟨g,cap,cur,rfl,_⟩
 ·exact ⟨none,0,rfl⟩
 exact ⟨_,cap,rfl⟩
theorem Rr (v:Value) (T:List PinP) (w:World) (hT:Pins w v T) (hl:T.length≤1000):Calls Tryz.prog 39 #[v] w fun e w'=>∃ a cap,e= .returned (.slice a T.length cap)∧w'.ownsRow w.heap.size 23 3 (.slice a T.length cap) T.length (pcs T)∧Below w.heap.size w w':=by
 obtain ⟨iP0,iP⟩:=info_parts RT;have q45:∀ (w:World) (a:Option Addr) (n c n' c':Nat),(binOp .eql 45 (.slice a n c) (.slice none n' c')).run Tryz.prog w= .ok (.bool a.isNone) w:=fun w a n c n' c'=>Lib.run_eql_slice_nil w _ _ a n c n' c' Tryz.underlying45;obtain ⟨hlen,a,cap,rfl,h1,h2,hc⟩:=hT;unfold maxLen at h2;have hlen2:=hlen;obtain ⟨n,hn⟩:=KZ6 T.length;have HN:=KZ9 hn;rw [←hn] at h1 hl hlen hc ⊢;cases a with
 | none =>
  have hn0:n=0:=by
   rcases hc with h | ⟨b,off,h,_⟩
   ·exact h
   cases h
  subst hn0;have hT0:T=[]:=List.eq_nil_of_length_eq_zero hn.symm;subst hT0;clear hc hlen hlen2 hn HN;go_enter Tryz.func39,Tryz.ntmps39
  go_wp2
  all_goals try omega
  go_ret;exact ⟨none,0,rfl,⟨by simp [pcs],.inl ⟨rfl,rfl⟩⟩,Below.refl _ _⟩
 | some ad =>
  have HL:=KZ9 hlen;have HC:Hid (∀ j u,(pcs T)[j]? =some u→(w.alloc (.cells #[] 23)).cell? (ad.add j)=some u):=KZ9 (fun j u hj=>by
   have hjl:=(List.getElem?_eq_some_iff.1 hj).1;rcases hc with h | ⟨b,off,h,hb,hcell⟩
   ·rw [hlen,h] at hjl;simp at hjl
   injection h with h
   subst h;have hadd:(⟨b,off,none⟩:Addr).add j=⟨b,off+j,none⟩:=by unfold Addr.add;split<;>simp_all
   rw [hadd];exact (((Below.refl _ w).alloc (Nat.le_refl _) (.cells #[] 23)).cell (p:=⟨b,off+j,none⟩) hb).trans (hcell j u hj))
  have HO:=KZ9 (Pq T);clear hc hlen hlen2 hn;go_enter Tryz.func39,Tryz.ntmps39
  go_wp2_with (at_builtin;refine wpList_append_own _ rfl _ _ 45 rfl w.heap.size 23 iP0 (.agg #[.string ⟨#[]⟩,.bool false,.int .i64 0]) 3 32 Tryz.underlying45 iP.1 iP.2.1 iP.2.2.1 iP.2.2.2 rfl (by decide) _ _ _ rfl (World.ownsRow_made w #[] 0 (Nat.le_refl _) (Nat.zero_le _) rfl) ad n cap (pcs T) rfl HL.out HC.out HO.out (by unfold maxLen;omega) (by omega) (by simp) ?_)
  intro v' w1 hown hgrow hnil;have hown2:w1.ownsRow w.heap.size 23 3 v' n (pcs T):=by simpa using hown
  obtain ⟨a2,cap2,rfl⟩:=pM hown2;have HOW:=KZ9 hown2;go_wp2;go_ret;exact ⟨a2,cap2,rfl,HOW.out,((Below.refl _ w).alloc (Nat.le_refl _) _).grown hgrow (by simp) (by intro k hk;simp [Value.ownBlock] at hk;omega)⟩
def P3 (T:List PinP) (w:World) (e:Ending) (w':World):Prop:=((∃ c:Int,c≠0∧e= .returned (.tuple #[.pointer none,.int .i64 c]))∨(∃ q,e= .returned (.tuple #[.pointer q,.int .i64 0])∧TabG w' (.pointer q) T∧(∀ p∈T,tE p=true)∧SortH (T.map (·.host))))∧Below w.heap.size w w'
theorem jZ {H:List Bs} (h:∀ j (hj:j+1<H.length),yF H[j] H[j+1]<0):SortH H:=by
 unfold SortH;rw [List.pairwise_iff_getElem];intro i j hi hj hij
 induction j with
 | zero=>omega
 | succ j ih =>
  by_cases e:i=j
  ·subst e;exact h i hj
  exact uE (ih (by omega) (by omega)) (h j hj)
theorem Ph (T:List PinP) (v:Value) (w:World) (hB:Base w) (hT:Pins w v T) (hl:T.length≤1000) (hs:∀ p∈T,p.host.length≤100000):Calls Tryz.prog 16 #[v,.int .i64 1000] w (P3 T w):=by
 have HT:=KZ9 hT;obtain ⟨a,cap,rfl,h1,h2,hc⟩:=hT.open;unfold maxLen at h2;have HC:=KZ9 hc;have HS:=KZ9 hs;have HB:=KZ9 hB;have HNW:=KZ9 (Pg w);obtain ⟨W0,hW0⟩:=KZ6 (w.alloc (.cells #[.slice none 0 0,.int .i64 1000] 78));have hbA:Below w.heap.size w W0:=by rw [hW0];exact (Below.refl _ w).alloc (Nat.le_refl _) _
 have hb0:BlkL W0 w.heap.size 78 [.slice none 0 0,.int .i64 1000]:=by rw [hW0];exact BlkL.new w _ _
 have HW0:=KZ9 hW0.symm;have HBA:=KZ9 hbA;have HB0:=KZ9 hb0;obtain ⟨n,hn⟩:=KZ6 T.length;have HN:=KZ9 hn;rw [←hn] at h1 hl HT ⊢;clear hc hT hs hB hW0 hbA hb0 hn;go_enter Tryz.func16,Tryz.ntmps16
 go_wp2_with fail
 refine HNW.out.mono ?_;rintro e w' ⟨rfl,rfl⟩;rw [HW0.out];clear HW0 HNW;go_wp2_with fail
 all_goals try omega
 go_loopw [26] (fun iv wr=>∃ k:Nat,iv= .int .i64 k∧k≤n∧Hid (Below w.heap.size w wr)∧Hid (BlkL wr w.heap.size 78 [.slice none 0 0,.int .i64 1000])∧Hid ((∀ j (hj:j<T.length),j<k→tE T[j]=true)∧∀ j (hj:j+1<T.length),j+1<k→yF T[j].host T[j+1].host<0)) (fun iv _=>n - (intOf iv).toNat)
 case atStart=>exact ⟨0,rfl,by omega,HBA,HB0,KZ9 ⟨fun j hj h=>by omega,fun j hj h=>by omega⟩⟩
 case round =>
  obtain ⟨k,rfl,hk,hbw,hbt,hI⟩:=hrel;have hbs:=hbt.out.lt;by_cases hlt:k<n
  ·have hkT:k<T.length:=by rw [←HN.out];exact hlt
   obtain ⟨b,off,rfl,hb,hcc⟩:=HC.out (by omega);obtain ⟨k0,k1,k2⟩:=hcc k hkT;have c0:=(hbw.out.cell (p:=⟨b,off+k*3,none⟩) hb).trans k0;have c1:=(hbw.out.cell (p:=⟨b,off+k*3+1,none⟩) hb).trans k1;have c2:=(hbw.out.cell (p:=⟨b,off+k*3+2,none⟩) hb).trans k2;have HCC:=KZ9 hcc;obtain ⟨p,hp⟩:=KZ6 (T[k]);have hpl:p.host.length≤100000:=HS.out p (by rw [hp];exact List.getElem_mem hkT);rw [←hp] at c0 c1 c2;have HP:=KZ9 hp;clear k0 k1 k2 hcc hp;have HNZ:=KZ9 (heap_alloc_new wr (.cells (yi ⟨[],false,0⟩).toArray 23));have hY:=(BlkL.new wr 23 (yi ⟨[],false,0⟩)).setRow (yi p);have hT2:=(hbt.out.alloc (.cells (yi ⟨[],false,0⟩).toArray 23)).setRow_other (show w.heap.size≠wr.heap.size by omega) (yi p).toArray;have hA2:=below_setRow (hbw.out.alloc (by omega) (.cells (yi ⟨[],false,0⟩).toArray 23)) (show w.heap.size≤wr.heap.size by omega) (yi p).toArray
   obtain ⟨W2,hW2⟩:=KZ6 ((wr.alloc (.cells (yi ⟨[],false,0⟩).toArray 23)).setRow wr.heap.size (yi p).toArray);rw [←hW2] at hY hT2 hA2;have hs2:W2.heap.size=wr.heap.size+1:=by rw [hW2];simp [World.setRow]
   have HW2:Hid ((wr.alloc (.cells #[.string ⟨#[]⟩,.bool false,.int .i64 0] 23)).setRow wr.heap.size (yi p).toArray=W2):=KZ9 hW2.symm;have HV:=KZ9 (T6 p W2 (HB.out.below hA2) hpl);have HY:=KZ9 hY;have HT2:=KZ9 hT2;have HA2:=KZ9 hA2;clear hW2 hY hT2 hA2;go_upto_region 9 with (refine wpList_store_row rfl 23 (.tmp 9) (.tmp 30) rfl wr.heap.size (yi p).toArray rfl rfl 23 _ HNZ.out sl rfl (ze (kE _)) ?_)
   all_goals try omega
   rw [HW2.out];clear HW2 HNZ c0 c1 c2;go_wp2_with (refine wpList_load_row rfl 23 (.tmp 9) rfl wr.heap.size rfl 23 _ _ _ HY.out Tryz.underlying23 rfl sl ?_)
   all_goals try omega
   refine HV.out.mono ?_;rintro e w3 ⟨rfl,hb3⟩;have hs3:=hb3.size;have hY3:=HY.out.below (by omega) hb3;have HT3:=KZ9 (HT2.out.below (by omega) hb3);have HA3:=KZ9 (HA2.out.trans (hb3.mono (by omega)));clear hb3 HV HY HT2 HA2;obtain ⟨ok,hok⟩:=KZ6 (tE p);rw [←hok];have HOK:=KZ9 hok;clear hok;cases ok
   ·clear hY3;go_wp2
    all_goals try omega
    (try rw [Exit.noGoto_ret])
    go_ret2;exact ⟨.inl ⟨1,by decide,rfl⟩,HA3.out⟩
   by_cases hk0:k=0
   ·subst hk0;have hI2:Hid ((∀ j (hj:j<T.length),j<0+1→tE T[j]=true)∧∀ j (hj:j+1<T.length),j+1<0+1→yF T[j].host T[j+1].host<0):=KZ9 ⟨fun j hj h=>by
     have:j=0:=by omega
     subst this;rw [←HP.out];exact HOK.out.symm,fun j hj h=>by omega⟩
    clear hY3 hI;go_wp2_with fail
    go_quiet (fail)
    go_wp2
    all_goals try omega
    go_roundw
    case rel=>exact ⟨0+1,by go_num,by omega,KZ9 (Go.below_drewN HA3.out _),KZ9 (HT3.out.drewN _),hI2⟩
    case measure=>simp [intOf];omega
   obtain ⟨j,rfl⟩:∃ j,k=j+1:=⟨k - 1,by omega⟩;have hjT:j<T.length:=by omega
   obtain ⟨k0,_,_⟩:=HCC.out j hjT;have c0:=(HA3.out.cell (p:=⟨b,off+j*3,none⟩) hb).trans k0;have y0:=hY3.c 0 _ rfl;obtain ⟨pv,hpv⟩:=KZ6 (T[j]);have hpvl:pv.host.length≤100000:=HS.out pv (by rw [hpv];exact List.getElem_mem hjT);rw [←hpv] at c0;have hcm:=fun W=>tW (mk pv.host) (mk p.host) W (by rw [zh];exact hpvl) (by rw [zh];exact hpl);simp only [zj] at hcm;obtain ⟨c,hcd⟩:=KZ6 (yF pv.host p.host);simp only [←hcd] at hcm;have HCM:=KZ9 hcm;have HCD:=KZ9 hcd;have HPV:=KZ9 hpv;have hw1:IntKind.i64.wrap (((j+1:Nat):Int) - 1)=(j:Int):=by rw [show ((j+1:Nat):Int) - 1=(j:Int) by omega];exact IntWalk.i64_in _ (by omega)
   have gk:decide ((0:Int)<((j+1:Nat):Int))=true:=KZ7 (by omega);clear hY3 k0 hcm hcd hpv hpvl;by_cases hneg:c<0
   ·have gc:decide ((0:Int)≤c)=false:=KZ8 (by omega);have hI2:Hid ((∀ i (hi:i<T.length),i<(j+1)+1→tE T[i]=true)∧∀ i (hi:i+1<T.length),i+1<(j+1)+1→yF T[i].host T[i+1].host<0):=KZ9 ⟨fun i hi h=>by
      by_cases e:i=j+1
      ·subst e;rw [←HP.out];exact HOK.out.symm
      ·exact hI.out.1 i hi (by omega),fun i hi h=>by
      by_cases e:i=j
      ·subst e;rw [←HP.out,←HPV.out,←HCD.out];exact hneg
      exact hI.out.2 i hi (by omega)⟩
    clear hneg hI;go_wp2_with fail
    go_quiet ((go_at_call 38;exact Calls.quiet_of ((HCM.out _).mono (fun _ _ h=>⟨h.1,h.2⟩))))
    go_wp2
    all_goals try omega
    go_roundw
    case rel=>exact ⟨(j+1)+1,by go_num,by omega,KZ9 (Go.below_drewN HA3.out _),KZ9 (HT3.out.drewN _),hI2⟩
    case measure=>simp [intOf];omega
   have gc:decide ((0:Int)≤c)=true:=KZ7 (by omega);clear hneg hI;go_wp2_with fail
   go_quiet ((go_at_call 38;exact Calls.quiet_of ((HCM.out _).mono (fun _ _ h=>⟨h.1,h.2⟩))))
   go_wp2
   all_goals try omega
   (try rw [Exit.noGoto_ret])
   go_ret2;exact ⟨.inl ⟨8,by decide,rfl⟩,Go.below_drewN HA3.out _⟩
  have hall:(∀ p∈T,tE p=true)∧SortH (T.map (·.host)):=by
   refine ⟨fun p hp=> ?_,jZ (fun j hj=> ?_)⟩
   ·obtain ⟨i,hi,rfl⟩:=List.getElem_of_mem hp;exact hI.out.1 i hi (by have:=HN.out;omega)
   rw [List.length_map] at hj;have:=hI.out.2 j hj (by have:=HN.out;omega)
   simpa using this
  have HALL:=KZ9 hall;have hcl:=Rr (.slice a n cap) T wr (Pins.below (by rw [HN.out];rw [HN.out] at HT;exact HT.out) hbw.out) (by rw [←HN.out];exact hl);rw [←HN.out] at hcl;have HCL:=KZ9 hcl;have HTL:=KZ9 hbt;clear hall hcl hI;go_wp2_with fail
  all_goals try omega
  refine HCL.out.mono ?_;rintro e w3 ⟨a2,cap2,rfl,hown,hb3⟩;have hs3:=hb3.size;have HB3:=KZ9 (hbt.out.below hbs hb3);have HA3:=KZ9 (hbw.out.trans (hb3.mono (by omega)));have HOW:=KZ9 hown;have f0:=HB3.out.f 0;have d0:=HB3.out.c 0 _ rfl;clear hb3 hown HCL;go_wp2
  all_goals try omega
  go_ret2;refine ⟨.inr ⟨_,rfl,.inr ⟨w.heap.size,a2,cap2,1000,rfl,?_,?_,HALL.out.2,HS.out,by rw [←HN.out];exact hl⟩,HALL.out.1,HALL.out.2⟩,HA3.out.trans (yV _ w.heap.size 0 _ (Nat.le_refl _))⟩
  ·rw [←HN.out];exact HB3.out.set 0 (by simp) _
  have:=Row.owned (ownsRow_setCell_below HOW.out (a:=⟨w.heap.size,0,none⟩) hbs (.slice a2 n cap2));unfold Pins;rw [←HN.out];exact this
end Go.Proofs.YtjbciamhhfcdoaaGreatDoor
namespace Go.Proofs.YtjbciamhhfcdoaaGreatDoor
open Go.RowKit Go.Sort Go.Shelf Hs
abbrev SS:Type:={ e:EntP // e.host.length≤100000 }
instance:Inhabited SS:=⟨⟨⟨[],false⟩,by simp⟩⟩
def b9 (e:SS):List Value:=zA e.1
def SK (a b:SS):Int:=yF a.1.host b.1.host
theorem T8 (a:Bs):yF a a=0:=(tY a a).2 rfl
theorem QB:SWO (ltOf SK) where
 irrefl:=fun x=>by
  unfold ltOf SK;rw [T8];rfl
 trans:=fun x y z h1 h2=>by
  unfold ltOf SK at *;exact KZ7 (uE (of_decide_eq_true h1) (of_decide_eq_true h2))
 ntrans:=fun x y z h1 h2=>by
  unfold ltOf SK at *;refine KZ8 (fun h3=> ?_);have k1:=of_decide_eq_false h1;have k2:=of_decide_eq_false h2;have a1:=rz x.1.host y.1.host;have a2:=rz y.1.host z.1.host;by_cases e1:yF x.1.host y.1.host=0
  ·rw [(tY _ _).1 e1] at h3;exact k2 h3
  have k4:yF y.1.host x.1.host<0:=by omega
  exact k2 (uE k4 h3)
theorem S8 {L:List EntP} (h:∀ e∈L,e.host.length≤100000):∃ LB:List SS,LB.map (·.1)=L:=by
 induction L with
 | nil=>exact ⟨[],rfl⟩
 | cons e r ih =>
  obtain ⟨LB,hl⟩:=ih (fun x hx=>h x (List.mem_cons_of_mem _ hx));exact ⟨⟨e,h e (List.mem_cons_self ..)⟩::LB,by simp [hl]⟩
theorem Vd {base:Nat} {w0 w:World} {blk:Nat} (hb:base≤blk) (hblk:base≤w.heap.size) (h:Below base w0 w) (d:Array SS) (n:Nat) (os:Array Obj):Below base w0 (sortWorldK b9 2 w blk 0 n d os):=by
 refine h.trans ⟨rfl,rfl,rfl,size_sortWorldK_c b9 2 w blk 0 n d os,fun j hj=> ?_⟩;unfold sortWorldK;rw [heap_grow_old _ _ (by rw [size_putRowK];show j<w.heap.size;omega)];unfold putRowK putRow mapBlock;show (w.heap.modify blk _)[j]? =w.heap[j]?;rw [Array.getElem?_modify,if_neg (by omega)]
set_option maxRecDepth 20000
set_option maxHeartbeats 4000000
theorem Pn (p:Option Addr) (cap:Nat) (fv:Value) (w:World):Calls Tryz.prog 128 #[.slice p 0 cap,.int .i64 0,.int .i64 0,fv] w fun e w'=>e= .returned (.tuple #[])∧w=w':=by
 go_enter Tryz.func128,Tryz.ntmps128
 go_wp2;go_loop [8] (fun iv=>iv= .int .i64 1) (fun _=>0)
 case atStart=>rfl
 case round =>
  obtain rfl:=hrel;go_wp2
  all_goals try omega
  refine bodyPost_end (results_none rfl _ _ _) rfl ⟨rfl,rfl⟩
theorem Pk (p:Option Addr) (cap:Nat) (lim:Int) (fv:Value) (w:World):Calls Tryz.prog 83 #[.slice p 0 cap,.int .i64 0,.int .i64 0,.int .i64 lim,fv] w fun e w'=>e= .returned (.tuple #[])∧w=w':=by
 have HI:=KZ9 (fun W=>Pn p cap fv W);go_enter Tryz.func83,Tryz.ntmps83
 go_wp2_with fail
 refine wp_loop_rounds 2 ?_;rw [rounds_succ];go_wp2_with fail
 all_goals try omega
 refine (HI.out _).mono ?_;rintro e w1 ⟨rfl,rfl⟩;go_wp2
 all_goals try omega
 refine bodyPost_ret (results_none rfl _ _ _) rfl ⟨rfl,rfl⟩
theorem Rs (p:Option Addr) (cap:Nat) (fv:Value) (w:World):Calls Tryz.prog 44 #[.slice p 0 cap,fv] w fun e w'=>e= .returned (.tuple #[])∧w=w':=by
 have HL:=KZ9 (fun W=>Tryz.bits_Len 0 W (by decide) (by decide));have HP:=KZ9 (fun lim W=>Pk p cap lim fv W);go_enter Tryz.func44,Tryz.ntmps44
 go_wp2_with fail
 refine (HL.out _).mono ?_;rintro e w1 ⟨rfl,rfl⟩;go_wp2_with fail
 refine (HP.out _ _).mono ?_;rintro e w1 ⟨rfl,rfl⟩;go_wp2;refine bodyPost_end (results_none rfl _ _ _) rfl ⟨rfl,rfl⟩
theorem T4 (p:Option Addr) (cap:Nat) (fv:Value) (w:World):Calls Tryz.prog 79 #[.slice p 0 cap,fv] w fun e w'=>e= .returned (.int .i64 (-1))∧w=w':=by
 go_enter Tryz.func79,Tryz.ntmps79
 go_wp2;go_loop [8] (fun iv=>iv= .int .i64 0) (fun _=>0)
 case atStart=>rfl
 case round =>
  obtain rfl:=hrel;go_wp2
  all_goals try omega
  go_ret;exact ⟨rfl,rfl⟩
theorem Pp (p:Option Addr) (cap:Nat) (fv:Value) (w:World):Calls Tryz.prog 40 #[.slice p 0 cap,fv] w fun e w'=>e= .returned (.bool false)∧w=w':=by
 have HI:=KZ9 (fun W=>T4 p cap fv W);go_enter Tryz.func40,Tryz.ntmps40
 go_wp2_with fail
 refine (HI.out _).mono ?_;rintro e w1 ⟨rfl,rfl⟩;go_wp2
 all_goals try omega
 go_ret;exact ⟨rfl,rfl⟩
theorem Pm (x y:EntP) (w:World) (hx:x.host.length≤100000) (hy:y.host.length≤100000):Calls Tryz.prog 45 #[.agg (zA x).toArray,.agg (zA y).toArray] w fun e w'=>e= .returned (.int .i64 (yF x.host y.host))∧∃ m,w'=((w.alloc (.cells (zA x).toArray 87)).alloc (.cells (zA y).toArray 87)).drewN m:=by
 obtain ⟨W0,hW0⟩:=KZ6 ((w.alloc (.cells (zA x).toArray 87)).alloc (.cells (zA y).toArray 87));have b0:BlkL W0 w.heap.size 87 (zA x):=by rw [hW0];exact (BlkL.new w _ _).alloc _
 have b1:BlkL W0 (w.heap.size+1) 87 (zA y):=by
  rw [hW0];have:=BlkL.new (w.alloc (.cells (zA x).toArray 87)) 87 (zA y);simp only [World.size_alloc] at this;exact this
 have HW0:=KZ9 hW0.symm;have hc:=tW (mk x.host) (mk y.host) W0 (by rw [zh];exact hx) (by rw [zh];exact hy);rw [zj,zj] at hc;have HC:=KZ9 hc;have c0:=b0.c 0 _ rfl;have d0:=b1.c 0 _ rfl;rw [←hW0];clear hW0 hc b0 b1;go_enter Tryz.func45,Tryz.ntmps45
 go_upto_region 1 with fail
 rw [HW0.out];clear HW0;go_wp2_with fail
 refine HC.out.mono ?_;rintro e w1 ⟨rfl,m,rfl⟩;go_wp2;go_ret;exact ⟨rfl,m,rfl⟩
theorem Je (x:EntP) (w:World) (hB:Base w) (hx:x.host.length≤100000):Calls Tryz.prog 41 #[.agg (zA x).toArray] w fun e w'=>e= .returned (.bool (!zJ x.host))∧Below w.heap.size w w':=by
 obtain ⟨W0,hW0⟩:=KZ6 (w.alloc (.cells (zA x).toArray 87));have hbA:Below w.heap.size w W0:=by rw [hW0];exact (Below.refl _ w).alloc (Nat.le_refl _) _
 have b0:BlkL W0 w.heap.size 87 (zA x):=by rw [hW0];exact BlkL.new w _ _
 have hsz:W0.heap.size=w.heap.size+1:=by rw [hW0];simp
 have HW0:=KZ9 hW0.symm;have hc:=ve (mk x.host) W0 (hB.below hbA) (by rw [zh];exact hx);rw [zj] at hc;have HC:=KZ9 hc;have c0:=b0.c 0 _ rfl;have HBA:=KZ9 hbA;clear hW0 hc b0 hbA hB;go_enter Tryz.func41,Tryz.ntmps41
 go_upto_region 1 with fail
 rw [HW0.out];clear HW0;go_wp2_with fail
 refine HC.out.mono ?_;rintro e w1 ⟨rfl,hb1⟩;go_wp2;go_ret;exact ⟨rfl,HBA.out.trans (hb1.mono (by omega))⟩
theorem RU:(Tryz.prog.info? 87).map (fun i=>(i.zero,i.size,i.bytes))=some (some (.agg #[.string ⟨#[]⟩,.bool false]),2,24):=by kernel_rfl
theorem PK (l:List EntP):∀ v∈ecs l,v.oneCell'=true:=by
 intro v hv;unfold ecs at hv;obtain ⟨p,_,hp⟩:=List.mem_flatMap.1 hv;exact rg p v hp
theorem Ru (v:Value) (T:List EntP) (w:World) (hT:Ents w v T) (hl:T.length≤1000):Calls Tryz.prog 43 #[v] w fun e w'=>∃ a cap,e= .returned (.slice a T.length cap)∧w'.ownsRow w.heap.size 87 2 (.slice a T.length cap) T.length (ecs T)∧Below w.heap.size w w':=by
 obtain ⟨iP0,iP⟩:=info_parts RU;have q45:∀ (w:World) (a:Option Addr) (n c n' c':Nat),(binOp .eql 46 (.slice a n c) (.slice none n' c')).run Tryz.prog w= .ok (.bool a.isNone) w:=fun w a n c n' c'=>Lib.run_eql_slice_nil w _ _ a n c n' c' Tryz.underlying46;obtain ⟨hlen,a,cap,rfl,h1,h2,hc⟩:=hT;unfold maxLen at h2;have hlen2:=hlen;obtain ⟨n,hn⟩:=KZ6 T.length;have HN:=KZ9 hn;rw [←hn] at h1 hl hlen hc ⊢;cases a with
 | none =>
  have hn0:n=0:=by
   rcases hc with h | ⟨b,off,h,_⟩
   ·exact h
   cases h
  subst hn0;have hT0:T=[]:=List.eq_nil_of_length_eq_zero hn.symm;subst hT0;clear hc hlen hlen2 hn HN;go_enter Tryz.func43,Tryz.ntmps43
  go_wp2
  all_goals try omega
  go_ret;exact ⟨none,0,rfl,⟨by simp [ecs],.inl ⟨rfl,rfl⟩⟩,Below.refl _ _⟩
 | some ad =>
  have HL:=KZ9 hlen;have HC:Hid (∀ j u,(ecs T)[j]? =some u→(w.alloc (.cells #[] 87)).cell? (ad.add j)=some u):=KZ9 (fun j u hj=>by
   have hjl:=(List.getElem?_eq_some_iff.1 hj).1;rcases hc with h | ⟨b,off,h,hb,hcell⟩
   ·rw [hlen,h] at hjl;simp at hjl
   injection h with h
   subst h;have hadd:(⟨b,off,none⟩:Addr).add j=⟨b,off+j,none⟩:=by unfold Addr.add;split<;>simp_all
   rw [hadd];exact (((Below.refl _ w).alloc (Nat.le_refl _) (.cells #[] 87)).cell (p:=⟨b,off+j,none⟩) hb).trans (hcell j u hj))
  have HO:=KZ9 (PK T);clear hc hlen hlen2 hn;go_enter Tryz.func43,Tryz.ntmps43
  go_wp2_with (at_builtin;refine wpList_append_own _ rfl _ _ 46 rfl w.heap.size 87 iP0 (.agg #[.string ⟨#[]⟩,.bool false]) 2 24 Tryz.underlying46 iP.1 iP.2.1 iP.2.2.1 iP.2.2.2 rfl (by decide) _ _ _ rfl (World.ownsRow_made w #[] 0 (Nat.le_refl _) (Nat.zero_le _) rfl) ad n cap (ecs T) rfl HL.out HC.out HO.out (by unfold maxLen;omega) (by omega) (by simp) ?_)
  intro v' w1 hown hgrow hnil;have hown2:w1.ownsRow w.heap.size 87 2 v' n (ecs T):=by simpa using hown
  obtain ⟨a2,cap2,rfl⟩:=pM hown2;have HOW:=KZ9 hown2;go_wp2;go_ret;exact ⟨a2,cap2,rfl,HOW.out,((Below.refl _ w).alloc (Nat.le_refl _) _).grown hgrow (by simp) (by intro k hk;simp [Value.ownBlock] at hk;omega)⟩
theorem Uq {W:World} {b off len cap:Nat} {l:List EntP} (hl:l.length=len) (h1:len≤cap) (h2:cap≤maxLen) (hb:b<W.heap.size) (h:∀ i (hi:i<l.length),W.cell? ⟨b,off+i*2,none⟩=some (.string (mk l[i].host))∧W.cell? ⟨b,off+i*2+1,none⟩=some (.bool l[i].sub)):Ents W (.slice (some ⟨b,off,none⟩) len cap) l:=by
 subst hl;refine ⟨uI l,_,cap,rfl,h1,h2,.inr ⟨b,off,rfl,hb,fun j u hj=> ?_⟩⟩;have hjl:j<l.length*2:=by have:=(List.getElem?_eq_some_iff.1 hj).1;rwa [uI] at this
 obtain ⟨i,r,rfl,hr⟩:∃ i r,j=i*2+r∧r<2:=⟨j / 2,j % 2,by omega,by omega⟩;have hi:i<l.length:=by omega
 obtain ⟨g0,g1⟩:=pl l i hi;obtain ⟨k0,k1⟩:=h i hi
 match r,hr with
 | 0,_ =>
  rw [Nat.add_zero] at hj ⊢;rw [g0] at hj;cases hj;exact k0
 | 1,_=>rw [g1] at hj;cases hj;rw [←Nat.add_assoc];exact k1
theorem Tn (w:World):(isAgg 87).run Tryz.prog w= .ok true w:=by kernel_rfl
theorem WF (w:World):(Go.sizeOf 87).run Tryz.prog w= .ok 2 w:=by kernel_rfl
theorem QM (args:Array Value) (w:World):(callFunc 41 args).run Tryz.prog w= .ok (.enter 41 args) w:=by kernel_rfl
theorem Sm (args:Array Value) (w:World):(callFunc 45 args).run Tryz.prog w= .ok (.enter 45 args) w:=by kernel_rfl
theorem Jf (L:List EntP) (v:Value) (w:World) (hB:Base w) (hL:Ents w v L) (hs:∀ p∈L,p.host.length≤100000):Calls Tryz.prog 40 #[v,.func (.func 41) #[] #[]] w fun e w'=>e= .returned (.bool (L.any fun x=> !zJ x.host))∧Below w.heap.size w w':=by
 obtain ⟨a,cap,rfl,h1,h2,hc⟩:=hL.open;by_cases h0:L.length=0
 ·have hn:L=[]:=List.eq_nil_of_length_eq_zero h0;subst hn;refine (Pp a cap _ w).mono ?_;rintro e w' ⟨rfl,rfl⟩;exact ⟨rfl,Below.refl _ _⟩
 obtain ⟨b,off,rfl,hb,hcc⟩:=hc (by omega);obtain ⟨LB,rfl⟩:=S8 hs;have hlen:(LB.map (·.1)).length=LB.length:=List.length_map _;unfold maxLen at h2;have h:=Tryz.slices_ContainsFunc 2 Tn WF b9 (fun x=>rfl) (fun x:SS=> !zJ x.1.host) 41 #[] QM b off LB.length cap LB w (fun W x hW=>(Je x.1 W (hB.below hW) x.2).mono (fun _ _ k=>⟨k.1,hW.trans (k.2.mono hW.size)⟩)) (Nat.le_refl _) (by omega) hb (fun j hj i v hv=>by
  have e:LB[j]! =LB[j]:=getElem!_pos LB j hj;rw [e] at hv;obtain ⟨k0,k1⟩:=hcc j (by rw [hlen];exact hj);rw [List.getElem_map] at k0 k1
  match i with
  | 0=>injection hv with hv;subst hv;exact k0
  | 1=>injection hv with hv;subst hv;exact k1
  | i+2=>cases hv)
 rw [hlen];refine h.mono ?_;rintro e w' ⟨rfl,hb'⟩;refine ⟨?_,hb'⟩;rw [List.take_length,List.any_map];rfl
theorem Pj (L:List EntP) (v:Value) (base:Nat) (w:World) (ho:w.ownsRow base 87 2 v L.length (ecs L)) (hbase:base≤w.heap.size) (hl:L.length≤1000) (hs:∀ p∈L,p.host.length≤100000):Calls Tryz.prog 44 #[v,.func (.func 45) #[] #[]] w fun e w'=>e= .returned (.tuple #[])∧∃ L',L'.Perm L∧(∀ i j (hi:i<L'.length) (hj:j<L'.length),i<j→¬ yF L'[j].host L'[i].host<0)∧Ents w' v L'∧Below base w w':=by
 by_cases h0:L.length=0
 ·have hn:L=[]:=List.eq_nil_of_length_eq_zero h0;subst hn;obtain ⟨a,cap,rfl⟩:=pM ho;refine (Rs a cap _ w).mono ?_;rintro e w' ⟨rfl,rfl⟩;exact ⟨rfl,[],List.Perm.refl _,fun i j hi=>by simp at hi,Row.owned ho,Below.refl _ _⟩
 obtain ⟨g,cap,rfl,hg,hgl⟩:=ho.form (by omega);have hrow:Ents w (.slice (some ⟨g,0,none⟩) L.length cap) L:=Row.owned ho;obtain ⟨a',cap',hv,h1,h2,hc⟩:=hrow.open;obtain ⟨rfl⟩:cap=cap':=by injection hv
 obtain ⟨LB,rfl⟩:=S8 hs;have hlen:(LB.map (·.1)).length=LB.length:=List.length_map _;rw [hlen] at ho hl h0 h1 ⊢;have hcell:∀ t,t<LB.length*2→w.cell? ⟨g,0+t,none⟩=some (b9 LB[t / 2]!)[t % 2]! ∧w.frozen? ⟨g,0+t,none⟩=false:=by
  intro t ht;refine ⟨?_,by rw [Nat.zero_add];exact ho.frozenAt t⟩;rw [Nat.zero_add,ho.cellAt t ht];obtain ⟨i,r,rfl,hr⟩:∃ i r,t=i*2+r∧r<2:=⟨t / 2,t % 2,by omega,by omega⟩;have hi:i<LB.length:=by omega
  have e1:(i*2+r) / 2=i:=by omega
  have e2:(i*2+r) % 2=r:=by omega
  have e:LB[i]! =LB[i]:=getElem!_pos LB i hi;obtain ⟨g0,g1⟩:=pl (LB.map (·.1)) i (by rw [hlen];exact hi);rw [List.getElem_map] at g0 g1;rw [e1,e2,e]
  match r,hr with
  | 0,_=>rw [Nat.add_zero,g0];rfl
  | 1,_=>rw [g1];rfl
 have hH:HoldsK b9 2 w g 0 LB.toArray:=by
  intro t ht;rw [size_flatK] at ht;rw [get_flatK _ _ _ _ ht];have:=hcell t (by simpa using ht);have e:LB.toArray[t / 2]! =LB[t / 2]! :=by simp
  rw [e];exact this
 have h:=Tryz.slices_SortFunc 2 Tn WF b9 (fun x=>rfl) (fun x v hv=>rg x.1 v hv) SK QB 45 #[] g 0 cap LB.toArray w Sm (fun m os dk hd x y=>by
  refine (Pm x.1 y.1 _ x.2 y.2).mono ?_;rintro e w' ⟨rfl,q,rfl⟩;refine ⟨rfl,q,#[.cells (zA x.1).toArray 87,.cells (zA y.1).toArray 87],?_⟩;rw [alloc_eq_grow,alloc_eq_grow,grow_grow];rfl) hH hgl (by simp;omega)
 have hsz:LB.toArray.size=LB.length:=by simp
 rw [hsz] at h;refine h.mono ?_;rintro e w' ⟨rfl,d',n,os,hperm,hsort,rfl⟩;obtain ⟨hp1,_,hp3⟩:=hperm;have hd':d'.size=LB.length:=by rw [hp1,hsz]
 have hp4:d'.toList.Perm LB:=by
  have a1:d'.extract 0 LB.length=d':=by rw [←hd'];simp
  have a2:LB.toArray.extract 0 LB.length=LB.toArray:=by rw [←hsz];simp
  rw [a1,a2] at hp3
  simpa using hp3
 have hK:=holdsK_sortWorldK_c b9 2 w g 0 LB.toArray d' n os hH hgl hp1;refine ⟨rfl,d'.toList.map (·.1),hp4.map _,fun i j hi hj hij=> ?_,?_,Vd hg hbase (Below.refl _ _) d' n os⟩
 ·rw [List.length_map] at hi hj;have hi':i<d'.size:=by simpa using hi
  have hj':j<d'.size:=by simpa using hj
  have:=hsort i j (Nat.zero_le _) hij (by omega);rw [getElem!_pos d' j hj',getElem!_pos d' i hi'] at this;have:=of_decide_eq_false this
  simpa [SK] using this
 refine Uq (by rw [List.length_map];simpa using hd') h1 h2 (Nat.lt_of_lt_of_le hgl (size_sortWorldK_c b9 2 w g 0 n d' os)) (fun i hi=> ?_);rw [List.length_map] at hi;have hi':i<d'.size:=by simpa using hi
 have c0:=(hK.cell hi' (show 0<2 by omega)).1;have c1:=(hK.cell hi' (show 1<2 by omega)).1;rw [getElem!_pos d' i hi'] at c0 c1;rw [List.getElem_map];exact ⟨by simpa [b9,zA] using c0,by simpa [b9,zA] using c1⟩
end Go.Proofs.YtjbciamhhfcdoaaGreatDoor
namespace Go.Proofs.YtjbciamhhfcdoaaGreatDoor
open Go.RowKit Hs
def Jy (L:List EntP) (w:World) (e:Ending) (w':World):Prop:=((∃ c:Int,c≠0∧e= .returned (.tuple #[.pointer none,.int .i64 c]))∨(∃ q L',e= .returned (.tuple #[.pointer q,.int .i64 0])∧LisG w' (.pointer q) L'∧L'.Perm L∧(∀ p∈L,zJ p.host=true)))∧Below w.heap.size w w'
set_option maxRecDepth 20000
set_option maxHeartbeats 8000000
theorem Jd (L:List EntP) (v:Value) (w:World) (hB:Base w) (hL:Ents w v L) (hl:L.length≤1000) (hs:∀ p∈L,p.host.length≤100000):Calls Tryz.prog 17 #[v] w (Jy L w):=by
 have HL:=KZ9 hL;have HS:=KZ9 hs;have HANY:=KZ9 (Jf L v w hB hL hs);obtain ⟨a,cap,rfl,h1,h2,hc⟩:=hL.open;unfold maxLen at h2;obtain ⟨n,hn⟩:=KZ6 L.length;have HN:=KZ9 hn;rw [←hn] at h1 hl HL HANY ⊢;obtain ⟨bad,hbad⟩:=KZ6 ((L.any fun x=> !zJ x.host));rw [←hbad] at HANY;have HBAD:=KZ9 hbad;clear hc hL hs hB hn hbad;go_enter Tryz.func17,Tryz.ntmps17
 go_wp2_with fail
 all_goals try omega
 refine HANY.out.mono ?_;rintro e w1 ⟨rfl,hb1⟩;have hs1:=hb1.size;have HL1:=KZ9 (HL.out.below hb1);have HA1:=KZ9 hb1;clear hb1 HANY HL;cases bad
 ·have hcl:=Ru (.slice a n cap) L w1 HL1.out (by rw [←HN.out];exact hl);rw [←HN.out] at hcl;have HCL:=KZ9 hcl;clear hcl HL1;go_wp2_with fail
  all_goals try omega
  refine HCL.out.mono ?_;rintro e w2 ⟨a2,cap2,rfl,hown,hb2⟩;have hs2:=hb2.size;have HA2:=KZ9 (HA1.out.trans (hb2.mono hs1));have hso:=Pj L (.slice a2 n cap2) w1.heap.size w2 (by rw [←HN.out];exact hown) hs2 (by rw [←HN.out];exact hl) HS.out;have HSO:=KZ9 hso;clear hb2 hown hso HCL HA1;go_wp2_with fail
  all_goals try omega
  refine HSO.out.mono ?_;rintro e w3 ⟨rfl,L',hperm,hsort,hent,hb3⟩;have hs3:=hb3.size;have HA3:=KZ9 (HA2.out.trans (hb3.mono hs1));have hlen:L'.length=n:=by rw [HN.out];exact hperm.length_eq
  have HE:=KZ9 hent;obtain ⟨a3,cap3,hv3,j1,j2,hc3⟩:=hent.open;obtain ⟨rfl,rfl⟩:a2=a3∧cap2=cap3:=by injection hv3 with e1 _ e2;exact ⟨e1,e2⟩
  unfold maxLen at j2;rw [hlen] at j1;have HC:=KZ9 hc3;have HLEN:=KZ9 hlen;have HSORT:=KZ9 hsort;have HPERM:=KZ9 hperm;have HSL:=KZ9 (fun p (hp:p∈L')=>HS.out p (hperm.subset hp));clear hb3 HSO HA2 hent hv3 hc3 hlen hsort hperm;go_wp2_with fail
  all_goals try omega
  go_loopw [5] (fun iv wr=>∃ k:Nat,iv= .int .i64 ((k+1:Nat):Int)∧k≤n∧Hid (∃ m,wr=w3.drewN m)∧Hid (∀ j (hj:j+1<L'.length),j+1<k+1→yF L'[j].host L'[j+1].host<0)) (fun iv _=>n+1 - (intOf iv).toNat)
  case atStart=>exact ⟨0,rfl,by omega,KZ9 ⟨0,rfl⟩,KZ9 (fun j hj h=>by omega)⟩
  case round =>
   obtain ⟨k,rfl,hk,hwr,hI⟩:=hrel;obtain ⟨m,rfl⟩:=hwr.out;clear hwr;by_cases hlt:k+1<n
   ·have hkT:k+1<L'.length:=by rw [HLEN.out];exact hlt
    have hkT0:k<L'.length:=by omega
    obtain ⟨b,off,rfl,hb,hcc⟩:=HC.out (by omega);obtain ⟨k0,_⟩:=hcc (k+1) hkT;obtain ⟨p0,_⟩:=hcc k hkT0;have c0:(w3.drewN m).cell? ⟨b,off+(k+1)*2,none⟩=some (.string (mk L'[k+1].host)):=k0;have c1:(w3.drewN m).cell? ⟨b,off+k*2,none⟩=some (.string (mk L'[k].host)):=p0;have hgt:=HSORT.out k (k+1) hkT0 hkT (by omega);have hw1:IntKind.i64.wrap ((k:Int)+1 - 1)=(k:Int):=by rw [show (k:Int)+1 - 1=(k:Int) by omega];exact IntWalk.i64_in _ (by omega)
    have hw2:((k:Int)+1).toNat=k+1:=by omega
    have hw3:(0:Int)≤(k:Int)+1:=by omega
    have hw4:(k:Int)+1<(n:Int):=by omega
    have hw5:(k:Int)<(n:Int):=by omega
    have hq:((mk L'[k+1].host).toList==(mk L'[k].host).toList)=decide (L'[k+1].host=L'[k].host):=by rw [toList_mk',toList_mk'];by_cases h:L'[k+1].host=L'[k].host<;>simp [h]
    have hI2:L'[k+1].host≠L'[k].host→∀ j (hj:j+1<L'.length),j+1<(k+1)+1→yF L'[j].host L'[j+1].host<0:=fun hne j hj h=>by
     by_cases e:j=k
     ·subst e;have a1:=rz L'[j].host L'[j+1].host;have a2:yF L'[j].host L'[j+1].host≠0:=fun e=>hne ((tY _ _).1 e).symm;omega
     exact hI.out j hj (by omega)
    obtain ⟨x,hx⟩:=KZ6 (L'[k+1].host);obtain ⟨y,hy⟩:=KZ6 (L'[k].host);rw [←hx] at c0 hq hI2 k0;rw [←hy] at c1 hq hI2 p0;have HI2:=KZ9 hI2;clear hx hy hgt hI2 hcc hI;by_cases heq:x=y
    ·rw [KZ7 heq] at hq;clear heq HI2;go_wp2_with fail
     all_goals try omega
     go_quiet (fail)
     go_wp2
     all_goals try omega
     (try rw [Exit.noGoto_ret])
     go_ret2;exact ⟨.inl ⟨17,by decide,rfl⟩,Go.below_drewN (Go.below_drewN HA3.out _) _⟩
    rw [KZ8 heq] at hq;have HI3:=KZ9 (HI2.out heq);clear heq HI2;go_wp2_with fail
    all_goals try omega
    go_quiet (fail)
    go_wp2
    all_goals try omega
    go_roundw
    case rel=>exact ⟨k+1,by go_num,by omega,KZ9 ⟨_,rfl⟩,HI3⟩
    case measure=>simp [intOf];omega
   have hsorted:SortH (L'.map (·.host)):=jZ (fun j hj=>by
    rw [List.length_map] at hj;have:=hI.out j hj (by have:=HLEN.out;omega)
    simpa using this)
   have HSD:=KZ9 hsorted;have hall:∀ p∈L,zJ p.host=true:=fun p hp=>by
    have h:=HBAD.out.symm;rw [List.any_eq_false] at h;have:=h p hp
    simpa using this
   have HALL:=KZ9 hall;clear hsorted hall hI;go_wp2
   all_goals try omega
   go_ret2;have hbel:Below w.heap.size w (w3.drewN m):=Go.below_drewN HA3.out _;refine ⟨.inr ⟨_,L',rfl,.inr ⟨w3.heap.size,a2,cap2,rfl,?_,?_,HSD.out,HSL.out,by rw [HLEN.out];exact hl⟩,HPERM.out,HALL.out⟩,hbel.alloc hbel.size _⟩
   ·rw [HLEN.out];exact BlkL.new (w3.drewN m) 96 [.slice a2 n cap2]
   rw [HLEN.out];exact Ents.below (w:=w3) HE.out (Below.alloc (Go.below_drewN (Below.refl _ _) m) (Nat.le_refl _) _)
 clear HL1;go_wp2
 all_goals try omega
 go_ret2;exact ⟨.inl ⟨14,by decide,rfl⟩,HA1.out⟩
theorem uA {w w':World} {g:Nat} {T:TypeId} {l:List Value} (h:BlkL w g T l) (hb:Below w.heap.size w w'):BlkL w' g T l:=h.below h.lt hb
set_option maxRecDepth 100000
set_option maxHeartbeats 16000000
theorem S7 (fv pv lv:Value) (fs:List (Bs × List Bs)) (T:List PinP) (L:List EntP) (l:Bs) (d now:Int) (img:Bool) (w0:World) (hB:Base6 w0) (hF:Frs w0 fv fs) (hFs:∀ p∈fs,p.1.length≤maxLen∧∀ y∈p.2,y.length≤maxLen) (hT:Pins w0 pv T) (hTs:∀ p∈T,p.host.length≤maxLen) (hL:Ents w0 lv L) (hLs:∀ p∈L,p.host.length≤maxLen) (hl:l.length≤maxLen) :
  Calls Tryz.prog 4 #[fv,.agg (wT l d img).toArray,.int .i64 now,pv,lv] w0 (jn w0):=by
 obtain ⟨z,hz⟩:=KZ6 w0.heap.size;obtain ⟨W1,hW1⟩:=KZ6 (w0.alloc (.cells (wT l d img).toArray 38));have hbA:Below z w0 W1:=by rw [hW1,hz];exact (Below.refl _ w0).alloc (Nat.le_refl _) _
 have hA1:Below w0.heap.size w0 W1:=hz▸hbA;have hb0:BlkL W1 z 38 (wT l d img):=by rw [hW1,hz];exact BlkL.new w0 _ _
 have hsz:W1.heap.size=z+1:=by rw [hW1,hz];simp
 have HW1:Hid (w0.alloc (.cells (wT l d img).toArray 38)=W1):=KZ9 hW1.symm;have HKF:=KZ9 (Wm fv fs W1 (hF.below hA1) hFs);have HKP:=KZ9 (So pv T 30 W1 (hT.below hA1) hTs (by decide));have HKE:=KZ9 (Sq lv L 30 W1 (hL.below hA1) hLs (by decide));have HAW:=KZ9 (fun W (h:Below w0.heap.size w0 W)=>qy W (hB.below h));have HF:=KZ9 hF;have HT:=KZ9 hT;have HL:=KZ9 hL;have HB:=KZ9 hB;have HB0:=KZ9 hb0;have HA1:=KZ9 hA1;have HZ:=KZ9 hz;have hlm:l.length≤9223372036854775807:=hl;have hszl:(mk l).size=l.length:=zh l;have r0:=hb0.c 0 _ rfl;obtain ⟨bf,hbf⟩:=KZ6 ((decide (fs.length≤20)&&fs.all rc));obtain ⟨bp,hbp⟩:=KZ6 ((decide ((T.length:Int)≤30)&&T.all fun p=>decide (p.host.length≤300)));obtain ⟨be,hbe⟩:=KZ6 ((decide ((L.length:Int)≤30)&&L.all fun p=>decide (p.host.length≤300)));rw [←hbf] at HKF;rw [←hbp] at HKP
 rw [←hbe] at HKE;have HBF:=KZ9 hbf;have HBP:=KZ9 hbp;have HBE:=KZ9 hbe;clear hW1 hbA hA1 hb0 hz hF hT hL hB hbf hbp hbe hFs hTs hLs hl;go_enter Tryz.func4,Tryz.ntmps4
 apply wp_seq_k;intro K0 hK0;have HK0:=KZ9 hK0;clear hK0;go_wp2;apply HK0.out;clear HK0;rw [HW1.out,←HZ.out];apply wp_seq_k;intro K1 hK1;have HK1:=KZ9 hK1;clear hK1 HW1;go_wp2_with fail
 all_goals try omega
 refine HKF.out.mono ?_;rintro e w' ⟨rfl,rfl⟩;cases bf
 ·go_wp2_with fail
  all_goals try omega
  refine (HAW.out _ HA1.out).mono ?_;rintro e w7 ⟨rfl,hb7⟩;have HA7:=KZ9 (HA1.out.trans (hb7.mono HA1.out.size));clear hb7 HA1;go_wp2
  all_goals try omega
  go_ret;exact ⟨rfl,HA7.out⟩
 by_cases hlb:1500<l.length
 ·have g1:decide ((1500:Int)<(l.length:Int))=true:=KZ7 (by omega);go_wp2_with fail
  all_goals try omega
  refine (HAW.out _ HA1.out).mono ?_;rintro e w7 ⟨rfl,hb7⟩;have HA7:=KZ9 (HA1.out.trans (hb7.mono HA1.out.size));clear hb7 HA1;go_wp2
  all_goals try omega
  go_ret;exact ⟨rfl,HA7.out⟩
 have g1:decide ((1500:Int)<(l.length:Int))=false:=KZ8 (by omega);go_wp2_with fail
 all_goals try omega
 refine HKP.out.mono ?_;rintro e w' ⟨rfl,rfl⟩;cases bp
 ·go_wp2_with fail
  all_goals try omega
  refine (HAW.out _ HA1.out).mono ?_;rintro e w7 ⟨rfl,hb7⟩;have HA7:=KZ9 (HA1.out.trans (hb7.mono HA1.out.size));clear hb7 HA1;go_wp2
  all_goals try omega
  go_ret;exact ⟨rfl,HA7.out⟩
 go_wp2_with fail
 all_goals try omega
 refine HKE.out.mono ?_;rintro e w' ⟨rfl,rfl⟩;cases be
 ·go_wp2_with fail
  all_goals try omega
  refine (HAW.out _ HA1.out).mono ?_;rintro e w7 ⟨rfl,hb7⟩;have HA7:=KZ9 (HA1.out.trans (hb7.mono HA1.out.size));clear hb7 HA1;go_wp2
  all_goals try omega
  go_ret;exact ⟨rfl,HA7.out⟩
 have HL15:=KZ9 (show l.length≤1500 by omega);clear hlb;go_wp2_with fail
 all_goals try omega
 apply HK1.out;clear HK1 HKF HKP HKE g1 r0 hlm hszl;have hfb:=HBF.out.symm;have hpb:=HBP.out.symm;have heb:=HBE.out.symm;rw [Bool.and_eq_true] at hfb hpb heb;have hfl:fs.length≤20:=of_decide_eq_true hfb.1;have hpl:(T.length:Int)≤30:=of_decide_eq_true hpb.1;have hel:(L.length:Int)≤30:=of_decide_eq_true heb.1;have hfo:Rb fs:=fun p hp=>by
  have h:=List.all_eq_true.1 hfb.2 p hp;unfold rc at h;simp only [Bool.and_eq_true,decide_eq_true_eq,List.all_eq_true] at h;exact ⟨h.1,h.2.1,fun y hy=>by have:=h.2.2 y hy;unfold maxLen;omega⟩
 have hpo:∀ p∈T,p.host.length≤100000:=fun p hp=>by have:=of_decide_eq_true (List.all_eq_true.1 hpb.2 p hp);omega
 have heo:∀ p∈L,p.host.length≤100000:=fun p hp=>by have:=of_decide_eq_true (List.all_eq_true.1 heb.2 p hp);omega
 have HLD:=KZ9 (fun (W:World) (h:Below w0.heap.size w0 W)=>Ph T pv W (HB.out.below h).1 (HT.out.below h) (by omega) hpo);have HNW:=KZ9 (fun (W:World) (h:Below w0.heap.size w0 W)=>Jd L lv W (HB.out.below h).1 (HL.out.below h) (by omega) heo);have HBU:=KZ9 (fun (W:World) (h:Below w0.heap.size w0 W)=>QI fv fs W (HB.out.below h) (HF.out.below h) hfo);have HPA:=KZ9 (fun (W:World)=>by
  have:=TT (mk l) W (by rw [zh];have:=HL15.out;omega);rw [zj] at this;exact this)
 have HPO:=KZ9 hpo;have HEO:=KZ9 heo;clear hfb hpb heb hfl hpl hel hfo hpo heo HBF HBP HBE HF;apply wp_seq_k;intro K2 hK2;have HK2:=KZ9 hK2;clear hK2;go_wp2_with fail
 refine (HLD.out _ HA1.out).mono ?_;rintro e w2 ⟨hres2,hb2⟩;have hs2:=hb2.size;have HLR:=KZ9 hres2;have hta:∃ (c1:Int) (q:Option Addr),e= .returned (.tuple #[.pointer q,.int .i64 c1])∧(c1=0→TabG w2 (.pointer q) T∧(∀ p∈T,tE p=true)∧SortH (T.map (·.host))):=by
  rcases hres2 with ⟨c,hc,h⟩ | ⟨q,h,ht⟩
  ·exact ⟨c,none,h,fun h0=>absurd h0 hc⟩
  exact ⟨0,q,h,fun _=>ht⟩
 obtain ⟨c1,q,rfl,ht1⟩:=hta;have HTO:=KZ9 (fun h=>(ht1 h).2);have HT1:=KZ9 (fun h=>(ht1 h).1);have HA2:=KZ9 (HA1.out.trans (hb2.mono HA1.out.size));have HB2:=KZ9 (HB0.out.below (by omega) hb2);clear hres2 HLR hb2 ht1 HA1 HB0 HLD;go_wp2
 all_goals try omega
 apply HK2.out;clear HK2;apply wp_seq_k;intro K3 hK3;have HK3:=KZ9 hK3;clear hK3;go_wp2_with fail
 refine (HNW.out _ HA2.out).mono ?_;rintro e w3 ⟨hres3,hb3⟩;have hs3:=hb3.size;have hta:∃ (c2:Int) (q2:Option Addr) (L':List EntP),e= .returned (.tuple #[.pointer q2,.int .i64 c2])∧(c2=0→LisG w3 (.pointer q2) L'∧L'.Perm L∧∀ p∈L,zJ p.host=true):=by
  rcases hres3 with ⟨c,hc,h⟩ | ⟨q,L',h,ht⟩
  ·exact ⟨c,none,[],h,fun h0=>absurd h0 hc⟩
  exact ⟨0,q,L',h,fun _=>ht⟩
 obtain ⟨c2,q2,L',rfl,ht2⟩:=hta;have HLO:=KZ9 (fun h=>(ht2 h).2);have HT2:=KZ9 (fun h=>(ht2 h).1);have HT3:=KZ9 (fun h=>(HT1.out h).below hb3);have HA3:=KZ9 (HA2.out.trans (hb3.mono HA2.out.size));have HB3:=KZ9 (HB2.out.below (by omega) hb3);clear hres3 hb3 ht2 HA2 HB2 HT1 HNW;go_wp2
 all_goals try omega
 apply HK3.out;clear HK3;apply wp_seq_k;intro K4 hK4;have HK4:=KZ9 hK4;clear hK4;go_wp2_with fail
 refine (HBU.out _ HA3.out).mono ?_;rintro e w4 ⟨hres4,hb4⟩;have hs4:=hb4.size;have hta:∃ (c3:Int) (cx:CtxP) (hv:Value),e= .returned (.tuple #[.agg (zZ cx hv).toArray,.int .i64 c3])∧(c3=0→Strs w4 hv cx.hosts)∧∀ v∈zZ cx hv,v.oneCell'=true:=by
  rcases hres4 with ⟨c,hc,h⟩ | ⟨cx,hv,h,ht⟩
  ·exact ⟨c,_,_,h,fun h0=>absurd h0 hc,by simp [zZ,Value.oneCell']⟩
  have ho:=ht.open;obtain ⟨a,cap,rfl,_⟩:=ho;exact ⟨0,cx,_,h,fun _=>ht,by simp [zZ,Value.oneCell']⟩
 obtain ⟨c3,cx,hv,rfl,ht4,hone⟩:=hta;have HVO:=KZ9 hone;clear hone;have HN4:=KZ9 (heap_alloc_new w4 (.cells (zZ ⟨false,false,false,false,[]⟩ (.slice none 0 0)).toArray 41));have hY4:=(BlkL.new w4 41 (zZ ⟨false,false,false,false,[]⟩ (.slice none 0 0))).setRow (zZ cx hv);have hup:Below w4.heap.size w4 ((w4.alloc (.cells (zZ ⟨false,false,false,false,[]⟩ (.slice none 0 0)).toArray 41)).setRow w4.heap.size (zZ cx hv).toArray):=below_setRow ((Below.refl _ w4).alloc (Nat.le_refl _) _) (Nat.le_refl _) _;obtain ⟨W5,hW5⟩:=KZ6 ((w4.alloc (.cells (zZ ⟨false,false,false,false,[]⟩ (.slice none 0 0)).toArray 41)).setRow w4.heap.size (zZ cx hv).toArray);rw [←hW5] at hY4 hup;have HW5:Hid ((w4.alloc (.cells #[.bool false,.bool false,.bool false,.bool false,.slice none 0 0] 41)).setRow w4.heap.size (zZ cx hv).toArray=W5):=KZ9 hW5.symm;have HS5:=KZ9 (fun h=>(ht4 h).below hup)
 have HT5:=KZ9 (fun h=>((HT3.out h).below hb4).below hup);have HL5:=KZ9 (fun h=>((HT2.out h).below hb4).below hup);have HA5:=KZ9 ((HA3.out.trans (hb4.mono HA3.out.size)).trans (hup.mono (by have:=HA3.out.size;omega)));have HB5:=KZ9 (uA (uA HB3.out hb4) hup);have HC5:=KZ9 hY4;have hs5:=hup.size;clear hres4 hb4 ht4 hup hY4 hW5 HA3 HB3 HT3 HT2 HBU;go_wp2_with (refine wpList_store_row rfl 41 (.tmp 15) (.tmp 57) rfl w4.heap.size (zZ cx hv).toArray rfl rfl 41 _ HN4.out wS rfl (ze HVO.out) ?_)
 all_goals try omega
 apply HK4.out;clear HK4 HN4;rw [HW5.out];clear HW5;apply wp_seq_k;intro K5 hK5;have HK5:=KZ9 hK5;clear hK5;have r0:=HB5.out.c 0 _ rfl;go_wp2_with fail
 refine (HPA.out _).mono ?_;rintro e w6 ⟨⟨u1,ec,rfl,hcase⟩,hb6⟩;have hs6:=hb6.size;have HUC:=KZ9 hcase;have HU8:Hid (u1.host.v6.length=8):=KZ9 (by
  rcases hcase with ⟨_,h⟩ | ⟨_,rfl,_⟩
  ·exact (Vp h (by have:=HL15.out;omega)).1.1
  rfl)
 have HN6:=KZ9 (heap_alloc_new w6 (.cells (za zu).toArray 62));have hY6:=(BlkL.new w6 62 (za zu)).setRow (za u1);have hup:Below w6.heap.size w6 ((w6.alloc (.cells (za zu).toArray 62)).setRow w6.heap.size (za u1).toArray):=below_setRow ((Below.refl _ w6).alloc (Nat.le_refl _) _) (Nat.le_refl _) _;obtain ⟨W7,hW7⟩:=KZ6 ((w6.alloc (.cells (za zu).toArray 62)).setRow w6.heap.size (za u1).toArray);rw [←hW7] at hY6 hup;have HW7:Hid ((w6.alloc (.cells #[.string ⟨#[]⟩,.string ⟨#[]⟩,.int .i64 0,.string ⟨#[]⟩,.int .u32 0,.int .u16 0,.int .u16 0,.int .u16 0,.int .u16 0,.int .u16 0,.int .u16 0,.int .u16 0,.int .u16 0,.int .i64 0,.string ⟨#[]⟩] 62)).setRow w6.heap.size (za u1).toArray=W7):=KZ9 hW7.symm;have HS7:=KZ9 (fun h=>((HS5.out h).below hb6).below hup);have HT7:=KZ9 (fun h=>((HT5.out h).below hb6).below hup);have HL7:=KZ9 (fun h=>((HL5.out h).below hb6).below hup)
 have HA7:=KZ9 ((HA5.out.trans (hb6.mono HA5.out.size)).trans (hup.mono (by have:=HA5.out.size;omega)));have HB7:=KZ9 (uA (uA HB5.out hb6) hup);have HC7:=KZ9 (uA (uA HC5.out hb6) hup);have HU7:=KZ9 hY6;have HI1:=KZ9 (zV HU8.out);have HSZ1:=KZ9 (show (za zu).toArray.size=(za u1).toArray.size by rw [List.size_toArray,List.size_toArray,xo HU8.out];rfl);clear hb6 hup hY6 hW7 hcase HA5 HB5 HC5 HS5 HT5 HL5 HPA r0;go_wp2_with (refine wpList_store_row rfl 62 (.tmp 17) (.tmp 63) rfl w6.heap.size (za u1).toArray rfl rfl 62 _ HN6.out HI1.out HSZ1.out (ze (yk _)) ?_)
 all_goals try omega
 apply HK5.out;clear HK5 HN6 HI1 HSZ1;rw [HW7.out];clear HW7;apply wp_seq_k;intro K6 hK6;have HK6:=KZ9 hK6;clear hK6;by_cases hc1:c1=0;rotate_left
 ·have g1:decide (c1=0)=false:=KZ8 hc1;go_wp2_with fail
  all_goals try omega
  refine (HAW.out _ HA7.out).mono ?_;rintro e w7 ⟨rfl,hb7⟩;have HA9:=KZ9 (HA7.out.trans (hb7.mono HA7.out.size));clear hb7 HA7;go_wp2
  all_goals try omega
  go_ret;exact ⟨rfl,HA9.out⟩
 subst hc1;by_cases hc2:c2=0;rotate_left
 ·have g1:decide (c2=0)=false:=KZ8 hc2;go_wp2_with fail
  all_goals try omega
  refine (HAW.out _ HA7.out).mono ?_;rintro e w7 ⟨rfl,hb7⟩;have HA9:=KZ9 (HA7.out.trans (hb7.mono HA7.out.size));clear hb7 HA7;go_wp2
  all_goals try omega
  go_ret;exact ⟨rfl,HA9.out⟩
 subst hc2;by_cases hc3:c3=0;rotate_left
 ·have g1:decide (c3=0)=false:=KZ8 hc3;go_wp2_with fail
  all_goals try omega
  refine (HAW.out _ HA7.out).mono ?_;rintro e w7 ⟨rfl,hb7⟩;have HA9:=KZ9 (HA7.out.trans (hb7.mono HA7.out.size));clear hb7 HA7;go_wp2
  all_goals try omega
  go_ret;exact ⟨rfl,HA9.out⟩
 subst hc3;by_cases hec:ec=0;rotate_left
 ·have g1:decide (ec=0)=false:=KZ8 hec;go_wp2_with fail
  all_goals try omega
  refine (HAW.out _ HA7.out).mono ?_;rintro e w7 ⟨rfl,hb7⟩;have HA9:=KZ9 (HA7.out.trans (hb7.mono HA7.out.size));clear hb7 HA7;go_wp2
  all_goals try omega
  go_ret;exact ⟨rfl,HA9.out⟩
 subst hec;obtain hu:sI l=some u1:=by
  rcases HUC.out with ⟨_,h⟩ | ⟨h,_,_⟩
  ·exact h
  exact absurd rfl h
 have HU:=KZ9 hu;clear hu HUC;have r1:=HB7.out.c 1 _ rfl;go_wp2_with fail
 all_goals try omega
 refine (TS d _).mono ?_;rintro e w8 ⟨rfl,rfl⟩;by_cases hvd:xO d=true;rotate_left
 ·have hvf:xO d=false:=by simpa using hvd
  rw [hvf];clear hvd hvf;go_wp2_with fail
  all_goals try omega
  refine (HAW.out _ HA7.out).mono ?_;rintro e w7 ⟨rfl,hb7⟩;have HA9:=KZ9 (HA7.out.trans (hb7.mono HA7.out.size));clear hb7 HA7;go_wp2
  all_goals try omega
  go_ret;exact ⟨rfl,HA9.out⟩
 rw [hvd];have HVD:=KZ9 hvd;clear hvd;go_wp2_with fail
 all_goals try omega
 apply HK6.out;obtain ⟨sc,us,⟨kd,nm,va,v6⟩,pt,rs⟩:=u1;obtain ⟨x0,x1,x2,x3,x4,x5,x6,x7,rfl⟩:=si HU8.out;obtain ⟨cs,cp,cu,cb,hos⟩:=cx;obtain ⟨ho1,ho2⟩:=HTO.out True.intro;obtain ⟨hl1,hl2⟩:=HLO.out True.intro;exact JD _ _ _ _ _ _ _ _ _ _ _ _ _ _ _ _ _ _ _ _ _ _ _ _ _ _ _ _ _ _ _ _ _ _ _ _ _ HL15.out HU.out HVD.out HB.out HA7.out ⟨HT7.out True.intro,HL7.out True.intro⟩ (HS7.out True.intro) HB7.out HC7.out HU7.out (HT.out.below HA7.out) (HL.out.below HA7.out) HPO.out HEO.out ho1 ho2 hl1 hl2
theorem TJ (fv:Value) (fs:List (Bs × List Bs)) (l:Bs) (d:Int) (img:Bool) (now:Int) (pv:Value) (T:List PinP) (lv:Value) (L:List EntP) (w0:World) (hB:Base6 w0) (hF:Frs w0 fv fs) (hFs:∀ p∈fs,p.1.length≤maxLen∧∀ y∈p.2,y.length≤maxLen) (hl:l.length≤maxLen) (hT:Pins w0 pv T) (hTs:∀ p∈T,p.host.length≤maxLen) (hL:Ents w0 lv L) (hLs:∀ p∈L,p.host.length≤maxLen) :
  Calls Tryz.prog 4 #[fv,.agg #[.string (mk l),.int .i64 d,.bool img],.int .i64 now,pv,lv] w0 fun e w'=>e= .returned (.bool true)∧Below w0.heap.size w0 w' :=
 S7 fv pv lv fs T L l d now img w0 hB hF hFs hT hTs hL hLs hl
end Go.Proofs.YtjbciamhhfcdoaaGreatDoor
namespace Hs
open Go
theorem Wv {H:Type} {enc:TypeId × Value→H} {a:Assume} {C:Checked} {os:Os} {f:FuncId} {fn:Func} {s:ChangeSpec} {conds:List PathCond} {apart fresh handsOn again:Bool} {X:World→Array Value→Prop}
  (hX:∀ (w w':World) (args:Array Value),w.heap=w'.heap→X w args→X w' args)
  (own:ownKnob C.prog.godebug=none) (started:os.Started) (noInit:C.prog.inits.idxOf? f=none) (hfn:C.prog.funcs[f]? =some fn)
  (witness:∃ (w:World) (tape:Tape) (i:Input),w.os=os∧(w.forCall tape i).Shaped C.prog∧i.vars=[]∧Input.okWide C.prog (w.forCall tape i) .any w.heap.size f i ∧
   ((s.pre enc C.prog fn conds apart (w.forCall tape i).memory i.args∧X (w.forCall tape i).memory i.args)∧sizedMet enc C.prog fn (OpenSpec.ofChange s) apart (w.forCall tape i).memory i.args)∧a.holds C.prog (lone (Frame.enter C.prog f i.args .normal) [] (w.forCall tape i)))
  (walk:∀ (W:World) (base:Nat) (args:Array Value) (ds gs:List (DataW H)) (before:List MemPlace),
   (∀ (j:Nat) t v,fn.params[j]? =some t→args[j]? =some v→Value.okWide C.prog W .any base t v) →
   DataW.Whole enc C.prog fn.params.toList s.vars apart W args.toList ds gs before→X W args→W.ShapedOpen C.prog →
   Calls C.prog f args W fun e W'=>∃ v,e= .returned v∧s.post enc C.prog fn apart fresh handsOn again W args v W') :
  ReturnsInHanded a C os f .any (fun w args=>(s.pre enc C.prog fn conds apart w args∧X w args)∧sizedMet enc C.prog fn (OpenSpec.ofChange s) apart w args) (s.post enc C.prog fn apart fresh handsOn again):=by
 refine returnsInHanded_of_calls own started noInit witness ?_;rintro w tape i _ hsh _ ⟨_,_,_,g,hg,_,_,_,_,hval⟩ ⟨⟨⟨ds,gs,before,hw,_⟩,hx⟩,_⟩ _;obtain rfl:g=fn:=Option.some.inj (hg.symm.trans hfn);refine (walk (w.forCall tape i) w.heap.size i.args ds gs before hval (DataW.Whole.of_heap (w':=w.forCall tape i) (by rfl) hw) (hX _ _ _ (by rfl) hx) hsh).mono ?_;rintro e W' ⟨v,rfl,hp⟩;exact ChangeSpec.post_blind hp
end Hs
namespace Go.Proofs.YtjbciamhhfcdoaaGreatDoor
open Go.RowKit Hs Go.ChangeShapes Go.WideShapes
theorem gTz : Tryz.prog.globalNamed "math/bits.deBruijn64tab" = some 5 := by kernel_rfl
theorem tTz:(Tryz.prog.globals[5]?).map (·.type)=some 263:=by kernel_rfl
set_option maxRecDepth 100000
theorem SQ {W:World} (h:laidMetH Tryz.prog Rows.topSubdomainsRow.laid W) (hsh:W.ShapedOpen Tryz.prog):Base6 W:=by
 rw [MakeChecks.laidMetH_plain _ _ _ (by kernel_rfl)] at h;have h0 := laidMet.tail h;have h1 : Lib.TabIs Tryz.prog W "math/bits.deBruijn64tab" .u8 [0, 1, 56, 2, 57, 49, 28, 3, 61, 58, 42, 50, 38, 29, 17, 4, 62, 47, 59, 36, 45, 43, 51, 22, 53, 39, 33, 30, 24, 18, 12, 5, 63, 55, 48, 27, 60, 41, 37, 16, 46, 35, 44, 21, 52, 32, 23, 11, 54, 26, 40, 15, 34, 20, 31, 10, 25, 14, 19, 9, 13, 8, 7, 6] := Lib.tabIs_of_head gTz tTz Tryz.underlying263 Tryz.underlying5 (by kernel_rfl) (by kernel_rfl) h0;have h2 : Lib.TabIs Tryz.prog W "internal/strconv.uint64pow10" .u64 Lib.pow10Tab := Lib.tabIs_of_head Jn JE Tryz.underlying256 Tryz.underlying167 QC SL (laidMet.tail h0);have e3 : (Rows.laid_unicode_utf8_first : DataW Unit) = Lib.firstData := by kernel_rfl
 have e4:(Rows.laid_unicode_utf8_acceptRanges:DataW Unit)=Lib.acceptData:=by kernel_rfl
 have r3 : Lib.VarReads Tryz.prog W "unicode/utf8.first" Rows.laid_unicode_utf8_first := Lib.laidMet.reads h (.tail _ (.tail _ (.tail _ (.tail _ (.head _)))));have r4 : Lib.VarReads Tryz.prog W "unicode/utf8.acceptRanges" Rows.laid_unicode_utf8_acceptRanges := Lib.laidMet.reads h (.tail _ (.tail _ (.tail _ (.head _))));rw [e3] at r3;rw [e4] at r4;have hX : U8Extra Tryz.prog Tryz.lays196_ren := ⟨by kernel_rfl, by kernel_rfl, by kernel_rfl, by kernel_rfl, by kernel_rfl, by kernel_rfl, by kernel_rfl⟩;have h8 : U8 W := utf8Tabs_of_readsT (U8Types.of196 Tryz.lays196) hX r3 r4;refine ⟨⟨⟨h2, World.block_lt_of_cell? W _ (h2.cell Jn 0 (by decide))⟩, ?_, h8⟩, h1.cell gTz 15 (by decide)⟩;exact cell_of_shapedOpen_int (g := 0) (t := 3) (zero := #[.int .i64 0]) hsh (of_decide_eq_true (by kernel_rfl)) (by kernel_rfl) rfl (by kernel_rfl) (by kernel_rfl) Tryz.underlying3
end Go.Proofs.YtjbciamhhfcdoaaGreatDoor
namespace Go.Proofs.YtjbciamhhfcdoaaGreatDoor
open Go.ChangeShapes Go.WideShapes Go.RowKit Hs
set_option maxRecDepth 100000
def Jl (l:List Int):List Value:=l.map fun n=> .int .i64 n
def Ints (w:World) (v:Value) (l:List Int):Prop:=Row w v 1 l.length (Jl l)
theorem Ints.below {w w':World} {v:Value} {l:List Int} (h:Ints w v l) (hb:Below w.heap.size w w'):Ints w' v l:=Row.below h hb
theorem Vj (b off j:Nat):(⟨b,off,none⟩:Addr).add j=⟨b,off+j,none⟩:=by
 unfold Addr.add;split
 ·rename_i h;rw [h];rfl
 rfl
theorem Rj {W:World} {a:Addr} {len cap:Nat} {xs:List Value} (hl:xs.length=len) (h1:len≤cap) (h2:cap≤maxLen) (h:∀ i u,xs[i]? =some u→W.cell? (a.add i)=some u):Row W (.slice (some a) len cap) 1 len xs:=by
 by_cases h0:len=0
 ·exact ⟨by omega,some a,cap,rfl,h1,h2,.inl h0⟩
 obtain ⟨b,off,spot⟩:=a;have k0:=h 0 xs[0] (List.getElem?_eq_getElem (by omega));have hspot:spot=none:=by simpa [Addr.add] using World.cell?_spot k0
 subst hspot;rw [Vj] at k0;exact ⟨by omega,_,cap,rfl,h1,h2,.inr ⟨b,off,rfl,World.block_lt_of_cell? W _ k0,fun j u hj=>by have:=h j u hj;rwa [Vj] at this⟩⟩
end Go.Proofs.YtjbciamhhfcdoaaGreatDoor
namespace Go.Proofs.YtjbciamhhfcdoaaGreatDoor
open Go.ChangeShapes Go.WideShapes Go.Deep Go.RowKit Hs
set_option maxRecDepth 100000
theorem jy {α:Type} (Q:Nat→α→Prop):∀ n:Nat,(∀ i,i<n→∃ x,Q i x)→∃ l:List α,l.length=n∧∀ i (h:i<l.length),Q i l[i]
 | 0,_=>⟨[],rfl,fun i h=>by simp at h⟩
 | n+1,h=>by
  obtain ⟨l,hl,hq⟩:=jy Q n (fun i hi=>h i (by omega));obtain ⟨x,hx⟩:=h n (by omega);refine ⟨l++[x],by simp [hl],fun i hi=> ?_⟩;by_cases hi2:i<l.length
  ·rw [List.getElem_append_left hi2];exact hq i hi2
  have:i=l.length:=by simp at hi;omega
  subst this;rw [List.getElem_append_right (Nat.le_refl _)]
  simpa [hl] using hx
theorem QD:Tryz.prog.cellsOf 23=3:=by kernel_rfl
theorem QG:Tryz.prog.cellsOf 87=2:=by kernel_rfl
theorem QF:Tryz.prog.cellsOf 76=2:=by kernel_rfl
theorem gG:Tryz.prog.cellsOf 9=1:=by kernel_rfl
theorem Z6:Tryz.prog.cellsOf 4=1:=by kernel_rfl
theorem QE:Tryz.prog.cellsOf 3=1:=by kernel_rfl
theorem SM:Tryz.prog.cellsOf 39=1:=by kernel_rfl
theorem Xg (b off k i r:Nat):((⟨b,off,none⟩:Addr).add (i*k)).add r=⟨b,off+i*k+r,none⟩:=by
 rw [add_add];unfold Addr.add;split
 ·rename_i h;rw [Nat.add_assoc,h];rfl
 rw [Nat.add_assoc]
theorem rG (b off k i:Nat):(⟨b,off,none⟩:Addr).add (i*k)=⟨b,off+i*k,none⟩:=by
 unfold Addr.add;split
 ·rename_i h;rw [h];rfl
 rfl
theorem gU {W:World} {b off len cap:Nat} {l:List PinP} (hl:l.length=len) (h1:len≤cap) (h2:cap≤maxLen) (hb:b<W.heap.size) (h:∀ i (hi:i<l.length),W.cell? ⟨b,off+i*3,none⟩=some (.string (mk l[i].host))∧W.cell? ⟨b,off+i*3+1,none⟩=some (.bool l[i].sub)∧W.cell? ⟨b,off+i*3+2,none⟩=some (.int .i64 l[i].expiry)):Pins W (.slice (some ⟨b,off,none⟩) len cap) l:=by
 subst hl;refine ⟨qi l,_,cap,rfl,h1,h2,.inr ⟨b,off,rfl,hb,fun j u hj=> ?_⟩⟩;have hjl:j<l.length*3:=by have:=(List.getElem?_eq_some_iff.1 hj).1;rwa [qi] at this
 obtain ⟨i,r,rfl,hr⟩:∃ i r,j=i*3+r∧r<3:=⟨j / 3,j % 3,by omega,by omega⟩;have hi:i<l.length:=by omega
 obtain ⟨g0,g1,g2⟩:=YF l i hi;obtain ⟨k0,k1,k2⟩:=h i hi
 match r,hr with
 | 0,_ =>
  rw [Nat.add_zero] at hj ⊢;rw [g0] at hj;cases hj;exact k0
 | 1,_=>rw [g1] at hj;cases hj;rw [←Nat.add_assoc];exact k1
 | 2,_=>rw [g2] at hj;cases hj;rw [←Nat.add_assoc];exact k2
theorem b8 {W:World} {b off len cap:Nat} {l:List EntP} (hl:l.length=len) (h1:len≤cap) (h2:cap≤maxLen) (hb:b<W.heap.size) (h:∀ i (hi:i<l.length),W.cell? ⟨b,off+i*2,none⟩=some (.string (mk l[i].host))∧W.cell? ⟨b,off+i*2+1,none⟩=some (.bool l[i].sub)):Ents W (.slice (some ⟨b,off,none⟩) len cap) l:=by
 subst hl;refine ⟨uI l,_,cap,rfl,h1,h2,.inr ⟨b,off,rfl,hb,fun j u hj=> ?_⟩⟩;have hjl:j<l.length*2:=by have:=(List.getElem?_eq_some_iff.1 hj).1;rwa [uI] at this
 obtain ⟨i,r,rfl,hr⟩:∃ i r,j=i*2+r∧r<2:=⟨j / 2,j % 2,by omega,by omega⟩;have hi:i<l.length:=by omega
 obtain ⟨g0,g1⟩:=pl l i hi;obtain ⟨k0,k1⟩:=h i hi
 match r,hr with
 | 0,_ =>
  rw [Nat.add_zero] at hj ⊢;rw [g0] at hj;cases hj;exact k0
 | 1,_=>rw [g1] at hj;cases hj;rw [←Nat.add_assoc];exact k1
theorem XS {H:Type} {enc:TypeId × Value→H} {W:World} {base:Nat} {v:Value} {d:DataW H} {p:List MemPlace} (hval:Value.okWide Tryz.prog W .any base 45 v) (h:DataW.Trod enc Tryz.prog W 0 (fun _=>true) true 45 v d p) :
  ∃ l:List PinP,Pins W v l∧∀ x∈l,x.host.length≤maxLen:=by
 obtain ⟨fuel,hf⟩:=h;obtain ⟨a0,len,cap,rfl⟩:=okWide_slice Tryz.underlying45 hval;rcases open_slice Tryz.underlying45 hf with ⟨hcs,hx⟩ | ⟨a,len',cap',m,n,D,Pl,hcs,_,hl,hm,hmm,hx,hel⟩
 ·simp [Value.cells] at hcs;obtain ⟨rfl,rfl,rfl⟩:=hcs;exact ⟨[],Row.nil _ _,fun x hx=>by cases hx⟩
 simp [Value.cells] at hcs;obtain ⟨rfl,rfl,rfl⟩:=hcs;simp only [if_true] at hmm;subst hmm;have key:∀ i,i<len→∃ x:PinP,(x.host.length≤maxLen)∧W.cell? (a.add (i*3))=some (.string (mk x.host))∧W.cell? ((a.add (i*3)).add 1)=some (.bool x.sub)∧W.cell? ((a.add (i*3)).add 2)=some (.int .i64 x.expiry):=by
  intro i hi;obtain ⟨cs',hc0,ht0⟩:=hel i (by omega);rw [QD] at hc0;obtain ⟨y0,y1,y2,n',hD,hlen3,hA,hB,hC⟩:=trod_struct3 Tryz.underlying23 ht0;obtain ⟨s0,hs0,_,hz0⟩:=DataW.trod_string Tryz.underlying9 hA;obtain ⟨b1,hs1,_⟩:=DataW.trod_bool Tryz.underlying4 hB;obtain ⟨z2,hs2,_,hz2⟩:=DataW.trod_int Tryz.underlying3 hC;obtain ⟨_,hl3,hcell⟩:=World.cells?_some hc0;have k0:=hcell 0 (by omega);have k1:=hcell 1 (by omega);have k2:=hcell 2 (by omega);obtain ⟨c0,c1,c2,rfl⟩:∃ c0 c1 c2,cs'=[c0,c1,c2]:=by
   match cs',hl3 with
   | [c0,c1,c2],_=>exact ⟨c0,c1,c2,rfl⟩
  have e0:c0= .string s0:=by simpa [gG] using hs0
  have e1:c1= .bool b1:=by simpa [Z6] using hs1
  have e2:c2= .int .i64 z2:=by simpa [QE] using hs2
  subst e0 e1 e2;refine ⟨⟨un s0,b1,z2⟩,by rw [zb];exact hz0,?_,?_,?_⟩
  ·simpa [Addr.add] using k0
  ·simpa using k1
  simpa using k2
 obtain ⟨l,hll,hq⟩:=jy _ len key;by_cases h0:len=0
 ·have hl0:l=[]:=List.eq_nil_of_length_eq_zero (by omega);subst hl0;subst h0;exact ⟨[],⟨rfl,_,_,rfl,hl,hm,.inl rfl⟩,fun x hx=>by cases hx⟩
 obtain ⟨b,off,spot⟩:=a;have k0:=(hq 0 (by omega)).2.1;have hspot:spot=none:=by simpa [Addr.add] using World.cell?_spot k0
 subst hspot;have hb:b<W.heap.size:=by
  rw [rG] at k0;exact World.block_lt_of_cell? W _ k0
 refine ⟨l,gU hll hl hm hb (fun i hi=> ?_),fun x hx=> ?_⟩
 ·have:=(hq i hi).2;rw [Xg,Xg,rG] at this;exact this
 obtain ⟨i,hi,rfl⟩:=List.getElem_of_mem hx;exact (hq i hi).1
theorem XT {H:Type} {enc:TypeId × Value→H} {W:World} {base:Nat} {v:Value} {d:DataW H} {p:List MemPlace} (hval:Value.okWide Tryz.prog W .any base 46 v) (h:DataW.Trod enc Tryz.prog W 0 (fun _=>true) true 46 v d p) :
  ∃ l:List EntP,Ents W v l∧∀ x∈l,x.host.length≤maxLen:=by
 obtain ⟨fuel,hf⟩:=h;obtain ⟨a0,len,cap,rfl⟩:=okWide_slice Tryz.underlying46 hval;rcases open_slice Tryz.underlying46 hf with ⟨hcs,hx⟩ | ⟨a,len',cap',m,n,D,Pl,hcs,_,hl,hm,hmm,hx,hel⟩
 ·simp [Value.cells] at hcs;obtain ⟨rfl,rfl,rfl⟩:=hcs;exact ⟨[],Row.nil _ _,fun x hx=>by cases hx⟩
 simp [Value.cells] at hcs;obtain ⟨rfl,rfl,rfl⟩:=hcs;simp only [if_true] at hmm;subst hmm;have key:∀ i,i<len→∃ x:EntP,(x.host.length≤maxLen)∧W.cell? (a.add (i*2))=some (.string (mk x.host))∧W.cell? ((a.add (i*2)).add 1)=some (.bool x.sub):=by
  intro i hi;obtain ⟨cs',hc0,ht0⟩:=hel i (by omega);rw [QG] at hc0;obtain ⟨y0,y1,n',hD,hlen3,hA,hB⟩:=trod_struct2 Tryz.underlying87 ht0;obtain ⟨s0,hs0,_,hz0⟩:=DataW.trod_string Tryz.underlying9 hA;obtain ⟨b1,hs1,_⟩:=DataW.trod_bool Tryz.underlying4 hB;obtain ⟨_,hl3,hcell⟩:=World.cells?_some hc0;have k0:=hcell 0 (by omega);have k1:=hcell 1 (by omega);obtain ⟨c0,c1,rfl⟩:∃ c0 c1,cs'=[c0,c1]:=by
   match cs',hl3 with
   | [c0,c1],_=>exact ⟨c0,c1,rfl⟩
  have e0:c0= .string s0:=by simpa [gG] using hs0
  have e1:c1= .bool b1:=by simpa [Z6] using hs1
  subst e0 e1;refine ⟨⟨un s0,b1⟩,by rw [zb];exact hz0,?_,?_⟩
  ·simpa [Addr.add] using k0
  simpa using k1
 obtain ⟨l,hll,hq⟩:=jy _ len key;by_cases h0:len=0
 ·have hl0:l=[]:=List.eq_nil_of_length_eq_zero (by omega);subst hl0;subst h0;exact ⟨[],⟨rfl,_,_,rfl,hl,hm,.inl rfl⟩,fun x hx=>by cases hx⟩
 obtain ⟨b,off,spot⟩:=a;have k0:=(hq 0 (by omega)).2.1;have hspot:spot=none:=by simpa [Addr.add] using World.cell?_spot k0
 subst hspot;have hb:b<W.heap.size:=by
  rw [rG] at k0;exact World.block_lt_of_cell? W _ k0
 refine ⟨l,b8 hll hl hm hb (fun i hi=> ?_),fun x hx=> ?_⟩
 ·have:=(hq i hi).2;rw [Xg,rG] at this;exact this
 obtain ⟨i,hi,rfl⟩:=List.getElem_of_mem hx;exact (hq i hi).1
theorem TK {H:Type} {enc:TypeId × Value→H} {W:World} {c:Value} {fuel:Nat} {x:DataW H × List MemPlace} (hf:DataW.trod enc Tryz.prog W 0 (fun _=>true) true fuel 39 [c]=some x):∃ l:List Bs,Strs W c l∧∀ x∈l,x.length≤maxLen:=by
 rcases open_strings Tryz.underlying39 Tryz.underlying9 (by kernel_rfl) hf with ⟨hcs,hx⟩ | ⟨a,len,cap,ss,hcs,_,hl,hm,hlen,hx,hel,hsz⟩
 ·simp at hcs;subst hcs;exact ⟨[],Row.nil _ _,fun x hx=>by cases hx⟩
 simp at hcs;subst hcs;simp only [if_true] at hlen;refine ⟨(ss.take len).map un,?_,fun x hx=> ?_⟩
 ·have e:((ss.take len).map un).length=len:=by simp;omega
  unfold Strs;rw [e];refine Rj (by simp [zy];omega) hl hm (fun i u hu=> ?_);have hi:i<len:=by have:=(List.getElem?_eq_some_iff.1 hu).1;simp [zy] at this;omega
  have:=hel i (by omega);rw [this];simp only [zy,List.map_map,List.getElem?_map,List.getElem?_take,hi,if_true,List.getElem?_eq_getElem (show i<ss.length by omega),Option.map_some,Function.comp,vd] at hu;rw [←hu];simp [List.getD,List.getElem?_eq_getElem (show i<ss.length by omega)]
 obtain ⟨s,hs,rfl⟩:=List.mem_map.1 hx;rw [zb];exact hsz s (List.mem_of_mem_take hs)
theorem gV {H:Type} {enc:TypeId × Value→H} {W:World} {base:Nat} {v:Value} {d:DataW H} {p:List MemPlace} (hval:Value.okWide Tryz.prog W .any base 44 v) (h:DataW.Trod enc Tryz.prog W 0 (fun _=>true) true 44 v d p) :
  ∃ l:List (Bs × List Bs),Frs W v l∧∀ x∈l,x.1.length≤maxLen∧∀ y∈x.2,y.length≤maxLen:=by
 obtain ⟨fuel,hf⟩:=h;obtain ⟨a0,len,cap,rfl⟩:=okWide_slice Tryz.underlying44 hval;rcases open_slice Tryz.underlying44 hf with ⟨hcs,hx⟩ | ⟨a,len',cap',m,n,D,Pl,hcs,_,hl,hm,hmm,hx,hel⟩
 ·simp [Value.cells] at hcs;obtain ⟨rfl,rfl,rfl⟩:=hcs;exact ⟨[],⟨none,0,rfl,Nat.le_refl _,by simp [maxLen],fun h0=>by simp at h0⟩,fun x hx=>by cases hx⟩
 simp [Value.cells] at hcs;obtain ⟨rfl,rfl,rfl⟩:=hcs;simp only [if_true] at hmm;subst hmm;have key:∀ i,i<len→∃ x:Bs × List Bs,(x.1.length≤maxLen∧∀ y∈x.2,y.length≤maxLen)∧W.cell? (a.add (i*2))=some (.string (mk x.1))∧∃ cv,W.cell? ((a.add (i*2)).add 1)=some cv∧Strs W cv x.2:=by
  intro i hi;obtain ⟨cs',hc0,ht0⟩:=hel i (by omega);rw [QF] at hc0;obtain ⟨y0,y1,n',hD,hlen3,hA,hB⟩:=trod_struct2 Tryz.underlying76 ht0;obtain ⟨s0,hs0,_,hz0⟩:=DataW.trod_string Tryz.underlying9 hA;obtain ⟨_,hl3,hcell⟩:=World.cells?_some hc0;have k0:=hcell 0 (by omega);have k1:=hcell 1 (by omega);obtain ⟨c0,c1,rfl⟩:∃ c0 c1,cs'=[c0,c1]:=by
   match cs',hl3 with
   | [c0,c1],_=>exact ⟨c0,c1,rfl⟩
  have e0:c0= .string s0:=by simpa [gG] using hs0
  have hB':DataW.trod enc Tryz.prog W 0 (fun _=>true) true n' 39 [c1]=some y1:=by simpa [SM] using hB
  obtain ⟨ls,hstrs,hsl⟩:=TK hB';subst e0;refine ⟨(un s0,ls),⟨by rw [zb];exact hz0,hsl⟩,?_,c1,?_,hstrs⟩
  ·simpa [Addr.add] using k0
  simpa using k1
 obtain ⟨l,hll,hq⟩:=jy _ len key;by_cases h0:len=0
 ·have hl0:l=[]:=List.eq_nil_of_length_eq_zero (by omega);subst hl0;subst h0;exact ⟨[],⟨_,_,rfl,hl,hm,fun h0=>by simp at h0⟩,fun x hx=>by cases hx⟩
 obtain ⟨b,off,spot⟩:=a;have k0:=(hq 0 (by omega)).2.1;have hspot:spot=none:=by simpa [Addr.add] using World.cell?_spot k0
 subst hspot;have hb:b<W.heap.size:=by
  rw [rG] at k0;exact World.block_lt_of_cell? W _ k0
 refine ⟨l,⟨_,_,(by rw [hll]:Value.slice (some ⟨b,off,none⟩) len _= .slice (some ⟨b,off,none⟩) l.length _),by rw [hll];exact hl,hm,fun _=>⟨b,off,rfl,hb,fun i hi=> ?_⟩⟩,fun x hx=> ?_⟩
 ·have:=(hq i hi).2;rw [Xg,rG] at this;exact this
 obtain ⟨i,hi,rfl⟩:=List.getElem_of_mem hx;exact (hq i hi).1
theorem VW {H:Type} {enc:TypeId × Value→H} {W:World} {base:Nat} {v:Value} {d:DataW H} {p:List MemPlace} (hval:Value.okWide Tryz.prog W .any base 38 v) (h:DataW.Trod enc Tryz.prog W 0 (fun _=>true) true 38 v d p) :
  ∃ (x:Bs) (z:Int) (s:Bool),v= .agg #[.string (mk x),.int .i64 z,.bool s]∧x.length≤maxLen:=by
 obtain ⟨v0,v1,v2,y0,y1,y2,n,rfl,_,_,hA,hB,hC⟩:=Go.Joins.open_agg3 Tryz.underlying38 (by kernel_rfl) (by kernel_rfl) hval h;obtain ⟨s0,hs0,_,hz0⟩:=DataW.trod_string Tryz.underlying9 hA;obtain ⟨z1,hs1,_,hz1⟩:=DataW.trod_int Tryz.underlying3 hB;obtain ⟨b2,hs2,_⟩:=DataW.trod_bool Tryz.underlying4 hC;cases hs0;cases hs1;cases hs2;exact ⟨un s0,z1,b2,by rw [vd],by rw [zb];exact hz0⟩
end Go.Proofs.YtjbciamhhfcdoaaGreatDoor
