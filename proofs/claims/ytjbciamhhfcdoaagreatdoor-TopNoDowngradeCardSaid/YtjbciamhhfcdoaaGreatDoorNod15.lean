/- What the proof of TopNoDowngrade uses, part Nod15. -/
import Derived.Test.YtjbciamhhfcdoaaGreatDoorNod14
import Derived.Deep.AppendLies
set_option linter.unusedSimpArgs false
set_option linter.unusedVariables false
namespace Go.Proofs.YtjbciamhhfcdoaaGreatDoor
open Go.RowKit Hs
noncomputable def gy:Code:=(Tryz.f5.body).getD .skip
def jl (w0:World) (e:Ending) (w':World):Prop:=e= .returned (.bool true)∧Below w0.heap.size w0 w'
set_option maxRecDepth 100000
set_option maxHeartbeats 16000000
theorem Rr (sc sc2 us rs nm:Bs) (kd va x0 x1 x2 x3 x4 x5 x6 x7:Nat) (r:Nat) (fu:Bs) (g1 g2 g3:Nat) (w0 w:World) {u0 u1 u2 u3 u4 u5 u6 u7 u8 u9 aa ab ac ad ae af ag ah ai aj ak al am an ao ap aq ar au av aw ax ay az aA aB aC aD aE aF aG aH aI aJ aK aL aM aN aO aP aQ aR aS aT aU aV aW aX aY aZ ba bb bc bd be bf bg bh bi bj bk bl bm bn bo bp bq br bs bt bu bv bw bx bz bA bB bC bD bE bF bG bH bI bJ bK bL bM bN bO bP bQ bR bS bT bU bV bW bX bY bZ ca cb cc cd ce cf cg ch ci cj ck cl cm cn co cp cq cr cs ct cu cv cw cx cy cz cA cB cC cD cE cF cG cH cI cJ cK cL cM cN cO cP cQ cR cS cT cU cV cW cX cY cZ da db dc dd de df dg dh di dj dk dl dm dn dp dq dr ds dt du dv dw dx dy dz dA dB dC dD dE dF dG dH dI dJ dK dL dM dN dO:Value} (hw:yk ⟨kd,nm,va,[x0,x1,x2,x3,x4,x5,x6,x7]⟩) (hB:Base6 w0) (hA:Below w0.heap.size w0 w) (b1:BlkL w g1 62 (za ⟨sc,us,⟨kd,nm,va,[x0,x1,x2,x3,x4,x5,x6,x7]⟩,-1,rs⟩)) (b2:BlkL w g2 34 (zm ⟨2,r,fu⟩)) (b3:BlkL w g3 62 (za ⟨sc2,us,⟨kd,nm,va,[x0,x1,x2,x3,x4,x5,x6,x7]⟩,-1,rs⟩))
  (h80:zq sc=80) (h443:zq sc2=443) :
  Code.wp Tryz.prog (wh 12 gy) (bodyPost Tryz.prog Tryz.f5 (jl w0)) ⟨#[u0,u1,u2,u3,u4,u5,u6,u7,u8,u9,aa,ab,ac,ad,ae,af,ag,.pointer (some ⟨g1,0,none⟩),ah,.pointer (some ⟨g2,0,none⟩),ai,.pointer (some ⟨g3,0,none⟩),aj,ak,al,am,an,ao,ap,aq,ar,au,av,aw,ax,ay,az,aA,aB,aC,aD,aE,aF,aG,aH,aI,aJ,aK,aL,aM,aN,aO,aP,aQ,aR,aS,aT,aU,aV,aW,aX,aY,aZ,ba,bb,bc,bd,be,bf,bg,bh,bi,bj,bk,bl,bm,bn,bo,bp,bq,br,bs,bt,bu,bv,bw,bx,bz,bA,bB,bC,bD,bE,bF,bG,bH,bI,bJ,bK,bL,bM,bN,bO,bP,bQ,bR,bS,bT,bU,bV,bW,bX,bY,bZ,ca,cb,cc,cd,ce,cf,cg,ch,ci,cj,ck,cl,cm,cn,co,cp,cq,cr,cs,ct,cu,cv,cw,cx,cy,cz,cA,cB,cC,cD,cE,cF,cG,cH,cI,cJ,cK,cL,cM,cN,cO,cP,cQ,cR,cS,cT,cU,cV,cW,cX,cY,cZ,da,db,dc,dd,de,df,dg,dh,di,dj,dk,dl,dm,dn,dp,dq,dr,ds,dt,du,dv,dw,dx,dy,dz,dA,dB,dC,dD,dE,dF,dG,dH,dI,dJ,dK,dL,dM,dN,dO],[]⟩ w:=by
 conv=>arg 2;whnf
 have HAW:=KZ9 (fun W (h:Below w0.heap.size w0 W)=>tQ W (hB.below h));have HNI:=KZ9 (show decide (zq sc2=80)=false by rw [h443];decide)

 have HIN:=KZ9 (fun W=>vi ⟨sc2,us,⟨kd,nm,va,[x0,x1,x2,x3,x4,x5,x6,x7]⟩,-1,rs⟩ W);have HP1:=KZ9 (fun (W:World)=>vX ⟨sc,us,⟨kd,nm,va,[x0,x1,x2,x3,x4,x5,x6,x7]⟩,-1,rs⟩ W hw);have HP3:=KZ9 (fun (W:World)=>vX ⟨sc2,us,⟨kd,nm,va,[x0,x1,x2,x3,x4,x5,x6,x7]⟩,-1,rs⟩ W hw);rw [show vk ⟨sc,us,⟨kd,nm,va,[x0,x1,x2,x3,x4,x5,x6,x7]⟩,-1,rs⟩=80 from by unfold vk;simp [h80]] at HP1;rw [show vk ⟨sc2,us,⟨kd,nm,va,[x0,x1,x2,x3,x4,x5,x6,x7]⟩,-1,rs⟩=443 from by unfold vk;simp [h443]] at HP3;clear h80 h443;have HB1:=KZ9 b1;have HB3:=KZ9 b3;have HA:=KZ9 hA;obtain ⟨q0,q1,q2,q3,q4,q5,q6,q7,q8,q9,q10,q11,q12,q13,q14⟩:=BlkL.fs15 (fun x:xy w=>(b1.below (by exact b1.lt) x.2));obtain ⟨r0,r1,r2,r3,r4,r5,r6,r7,r8,r9,r10,r11,r12,r13,r14⟩:=BlkL.fs15 (fun x:xy w=>(b3.below (by exact b3.lt) x.2));have c0:=b2.c 0 _ rfl
 clear b1 b2 b3 hA hw hB;go_wp2_with fail
 clear c0;refine yA w (by kernel_rfl) (by kernel_rfl) (Below.refl _ _) ?_;repeat (go_big_quiet_step (fail))
 go_big_quiet_step (exact Calls.later (HP1.out _))
 repeat (go_big_quiet_step (fail))
 go_big_quiet_step (exact Calls.later (HP3.out _))
 repeat (go_big_quiet_step (fail))
 refine wpQuiet_nil ?_;intro w5 hw';obtain ⟨⟨w6,hb6⟩,hw6⟩:=hw';have hb5:Below w.heap.size w w5:=hw6▸hb6;clear hw6 hb6 q0 r0 q1 r1 q2 r2 q3 r3 q4 r4 q5 r5 q6 r6 q7 r7 q8 r8 q9 r9 q10 r10 q11 r11 q12 r12 q13 r13 q14 r14 HP1 HP3;have d1:=HB1.out.below HB1.out.lt hb5;have d3:=HB3.out.below HB3.out.lt hb5;have HA5:=KZ9 (HA.out.trans (hb5.mono HA.out.size));have p13:=d1.c 13 _ rfl;obtain ⟨y0,y1,y2,y3,y4,y5,y6,y7,y8,y9,y10,y11,y12,y13,y14⟩:=BlkL.cs15 d3;clear hb5 d1 d3 HB1 HB3 HA;go_wp2_with fail
 all_goals try omega
 refine (HIN.out _).mono ?_;rintro e w6 ⟨rfl,hb6⟩;rw [HNI.out];have HA6:=KZ9 (HA5.out.trans (hb6.mono HA5.out.size));clear hb6 HA5 p13 y0 y1 y2 y3 y4 y5 y6 y7 y8 y9 y10 y11 y12 y13 y14;go_wp2_with fail
 all_goals try omega
 refine (HAW.out _ HA6.out).mono ?_;rintro e w7 ⟨rfl,hb7⟩;have HA7:=KZ9 (HA6.out.trans (hb7.mono HA6.out.size));clear hb7 HA6;go_wp2
 all_goals try omega
 go_ret;exact ⟨rfl,HA7.out⟩
theorem Rq (sc sc2 us rs nm:Bs) (kd va x0 x1 x2 x3 x4 x5 x6 x7:Nat) (r:Nat) (fu:Bs) (g1 g2 g3:Nat) (w0 w:World) {u0 u1 u2 u3 u4 u5 u6 u7 u8 u9 aa ab ac ad ae af ag ah ai aj ak al am an ao ap aq ar au av aw ax ay az aA aB aC aD aE aF aG aH aI aJ aK aL aM aN aO aP aQ aR aS aT aU aV aW aX aY aZ ba bb bc bd be bf bg bh bi bj bk bl bm bn bo bp bq br bs bt bu bv bw bx bz bA bB bC bD bE bF bG bH bI bJ bK bL bM bN bO bP bQ bR bS bT bU bV bW bX bY bZ ca cb cc cd ce cf cg ch ci cj ck cl cm cn co cp cq cr cs ct cu cv cw cx cy cz cA cB cC cD cE cF cG cH cI cJ cK cL cM cN cO cP cQ cR cS cT cU cV cW cX cY cZ da db dc dd de df dg dh di dj dk dl dm dn dp dq dr ds dt du dv dw dx dy dz dA dB dC dD dE dF dG dH dI dJ dK dL dM dN dO:Value} (hw:yk ⟨kd,nm,va,[x0,x1,x2,x3,x4,x5,x6,x7]⟩) (hB:Base6 w0) (hA:Below w0.heap.size w0 w) (b1:BlkL w g1 62 (za ⟨sc,us,⟨kd,nm,va,[x0,x1,x2,x3,x4,x5,x6,x7]⟩,443,rs⟩)) (b2:BlkL w g2 34 (zm ⟨2,r,fu⟩)) (b3:BlkL w g3 62 (za ⟨sc2,us,⟨kd,nm,va,[x0,x1,x2,x3,x4,x5,x6,x7]⟩,-1,rs⟩))
  (h80:zq sc=80) (h443:zq sc2=443) :
  Code.wp Tryz.prog (wh 12 gy) (bodyPost Tryz.prog Tryz.f5 (jl w0)) ⟨#[u0,u1,u2,u3,u4,u5,u6,u7,u8,u9,aa,ab,ac,ad,ae,af,ag,.pointer (some ⟨g1,0,none⟩),ah,.pointer (some ⟨g2,0,none⟩),ai,.pointer (some ⟨g3,0,none⟩),aj,ak,al,am,an,ao,ap,aq,ar,au,av,aw,ax,ay,az,aA,aB,aC,aD,aE,aF,aG,aH,aI,aJ,aK,aL,aM,aN,aO,aP,aQ,aR,aS,aT,aU,aV,aW,aX,aY,aZ,ba,bb,bc,bd,be,bf,bg,bh,bi,bj,bk,bl,bm,bn,bo,bp,bq,br,bs,bt,bu,bv,bw,bx,bz,bA,bB,bC,bD,bE,bF,bG,bH,bI,bJ,bK,bL,bM,bN,bO,bP,bQ,bR,bS,bT,bU,bV,bW,bX,bY,bZ,ca,cb,cc,cd,ce,cf,cg,ch,ci,cj,ck,cl,cm,cn,co,cp,cq,cr,cs,ct,cu,cv,cw,cx,cy,cz,cA,cB,cC,cD,cE,cF,cG,cH,cI,cJ,cK,cL,cM,cN,cO,cP,cQ,cR,cS,cT,cU,cV,cW,cX,cY,cZ,da,db,dc,dd,de,df,dg,dh,di,dj,dk,dl,dm,dn,dp,dq,dr,ds,dt,du,dv,dw,dx,dy,dz,dA,dB,dC,dD,dE,dF,dG,dH,dI,dJ,dK,dL,dM,dN,dO],[]⟩ w:=by
 conv=>arg 2;whnf
 have HAW:=KZ9 (fun W (h:Below w0.heap.size w0 W)=>tQ W (hB.below h));have HNI:=KZ9 (show decide (zq sc2=80)=false by rw [h443];decide)

 have HIN:=KZ9 (fun W=>vi ⟨sc2,us,⟨kd,nm,va,[x0,x1,x2,x3,x4,x5,x6,x7]⟩,-1,rs⟩ W);have HP1:=KZ9 (fun (W:World)=>vX ⟨sc,us,⟨kd,nm,va,[x0,x1,x2,x3,x4,x5,x6,x7]⟩,443,rs⟩ W hw);have HP3:=KZ9 (fun (W:World)=>vX ⟨sc2,us,⟨kd,nm,va,[x0,x1,x2,x3,x4,x5,x6,x7]⟩,-1,rs⟩ W hw);rw [show vk ⟨sc,us,⟨kd,nm,va,[x0,x1,x2,x3,x4,x5,x6,x7]⟩,443,rs⟩=443 from by unfold vk;simp] at HP1;rw [show vk ⟨sc2,us,⟨kd,nm,va,[x0,x1,x2,x3,x4,x5,x6,x7]⟩,-1,rs⟩=443 from by unfold vk;simp [h443]] at HP3;clear h80 h443;have HB1:=KZ9 b1;have HB3:=KZ9 b3;have HA:=KZ9 hA;obtain ⟨q0,q1,q2,q3,q4,q5,q6,q7,q8,q9,q10,q11,q12,q13,q14⟩:=BlkL.fs15 (fun x:xy w=>(b1.below (by exact b1.lt) x.2));obtain ⟨r0,r1,r2,r3,r4,r5,r6,r7,r8,r9,r10,r11,r12,r13,r14⟩:=BlkL.fs15 (fun x:xy w=>(b3.below (by exact b3.lt) x.2));have c0:=b2.c 0 _ rfl
 clear b1 b2 b3 hA hw hB;go_wp2_with fail
 clear c0;refine yA w (by kernel_rfl) (by kernel_rfl) (Below.refl _ _) ?_;repeat (go_big_quiet_step (fail))
 go_big_quiet_step (exact Calls.later (HP1.out _))
 repeat (go_big_quiet_step (fail))
 go_big_quiet_step (exact Calls.later (HP3.out _))
 repeat (go_big_quiet_step (fail))
 refine wpQuiet_nil ?_;intro w5 hw';obtain ⟨⟨w6,hb6⟩,hw6⟩:=hw';have hb5:Below w.heap.size w w5:=hw6▸hb6;clear hw6 hb6 q0 r0 q1 r1 q2 r2 q3 r3 q4 r4 q5 r5 q6 r6 q7 r7 q8 r8 q9 r9 q10 r10 q11 r11 q12 r12 q13 r13 q14 r14 HP1 HP3;have d1:=HB1.out.below HB1.out.lt hb5;have d3:=HB3.out.below HB3.out.lt hb5;have HA5:=KZ9 (HA.out.trans (hb5.mono HA.out.size));have p13:=d1.c 13 _ rfl;obtain ⟨y0,y1,y2,y3,y4,y5,y6,y7,y8,y9,y10,y11,y12,y13,y14⟩:=BlkL.cs15 d3;clear hb5 d1 d3 HB1 HB3 HA;go_wp2_with fail
 all_goals try omega
 refine (HIN.out _).mono ?_;rintro e w6 ⟨rfl,hb6⟩;rw [HNI.out];have HA6:=KZ9 (HA5.out.trans (hb6.mono HA5.out.size));clear hb6 HA5 p13 y0 y1 y2 y3 y4 y5 y6 y7 y8 y9 y10 y11 y12 y13 y14;go_wp2_with fail
 all_goals try omega
 refine (HAW.out _ HA6.out).mono ?_;rintro e w7 ⟨rfl,hb7⟩;have HA7:=KZ9 (HA6.out.trans (hb7.mono HA6.out.size));clear hb7 HA6;go_wp2
 all_goals try omega
 go_ret;exact ⟨rfl,HA7.out⟩
theorem Rp (sc sc2 us rs nm:Bs) (kd va x0 x1 x2 x3 x4 x5 x6 x7:Nat) (r:Nat) (fu:Bs) (g1 g2 g3:Nat) (w0 w:World) {u0 u1 u2 u3 u4 u5 u6 u7 u8 u9 aa ab ac ad ae af ag ah ai aj ak al am an ao ap aq ar au av aw ax ay az aA aB aC aD aE aF aG aH aI aJ aK aL aM aN aO aP aQ aR aS aT aU aV aW aX aY aZ ba bb bc bd be bf bg bh bi bj bk bl bm bn bo bp bq br bs bt bu bv bw bx bz bA bB bC bD bE bF bG bH bI bJ bK bL bM bN bO bP bQ bR bS bT bU bV bW bX bY bZ ca cb cc cd ce cf cg ch ci cj ck cl cm cn co cp cq cr cs ct cu cv cw cx cy cz cA cB cC cD cE cF cG cH cI cJ cK cL cM cN cO cP cQ cR cS cT cU cV cW cX cY cZ da db dc dd de df dg dh di dj dk dl dm dn dp dq dr ds dt du dv dw dx dy dz dA dB dC dD dE dF dG dH dI dJ dK dL dM dN dO:Value} (hw:yk ⟨kd,nm,va,[x0,x1,x2,x3,x4,x5,x6,x7]⟩) (hB:Base6 w0) (hA:Below w0.heap.size w0 w) (b1:BlkL w g1 62 (za ⟨sc,us,⟨kd,nm,va,[x0,x1,x2,x3,x4,x5,x6,x7]⟩,80,rs⟩)) (b2:BlkL w g2 34 (zm ⟨2,r,fu⟩)) (b3:BlkL w g3 62 (za ⟨sc2,us,⟨kd,nm,va,[x0,x1,x2,x3,x4,x5,x6,x7]⟩,80,rs⟩))
  (h80:zq sc=80) (h443:zq sc2=443) :
  Code.wp Tryz.prog (wh 12 gy) (bodyPost Tryz.prog Tryz.f5 (jl w0)) ⟨#[u0,u1,u2,u3,u4,u5,u6,u7,u8,u9,aa,ab,ac,ad,ae,af,ag,.pointer (some ⟨g1,0,none⟩),ah,.pointer (some ⟨g2,0,none⟩),ai,.pointer (some ⟨g3,0,none⟩),aj,ak,al,am,an,ao,ap,aq,ar,au,av,aw,ax,ay,az,aA,aB,aC,aD,aE,aF,aG,aH,aI,aJ,aK,aL,aM,aN,aO,aP,aQ,aR,aS,aT,aU,aV,aW,aX,aY,aZ,ba,bb,bc,bd,be,bf,bg,bh,bi,bj,bk,bl,bm,bn,bo,bp,bq,br,bs,bt,bu,bv,bw,bx,bz,bA,bB,bC,bD,bE,bF,bG,bH,bI,bJ,bK,bL,bM,bN,bO,bP,bQ,bR,bS,bT,bU,bV,bW,bX,bY,bZ,ca,cb,cc,cd,ce,cf,cg,ch,ci,cj,ck,cl,cm,cn,co,cp,cq,cr,cs,ct,cu,cv,cw,cx,cy,cz,cA,cB,cC,cD,cE,cF,cG,cH,cI,cJ,cK,cL,cM,cN,cO,cP,cQ,cR,cS,cT,cU,cV,cW,cX,cY,cZ,da,db,dc,dd,de,df,dg,dh,di,dj,dk,dl,dm,dn,dp,dq,dr,ds,dt,du,dv,dw,dx,dy,dz,dA,dB,dC,dD,dE,dF,dG,dH,dI,dJ,dK,dL,dM,dN,dO],[]⟩ w:=by
 conv=>arg 2;whnf
 have HAW:=KZ9 (fun W (h:Below w0.heap.size w0 W)=>tQ W (hB.below h));have HNI:=KZ9 (show decide (zq sc2=80)=false by rw [h443];decide)

 have HIN:=KZ9 (fun W=>vi ⟨sc2,us,⟨kd,nm,va,[x0,x1,x2,x3,x4,x5,x6,x7]⟩,80,rs⟩ W);have HP1:=KZ9 (fun (W:World)=>vX ⟨sc,us,⟨kd,nm,va,[x0,x1,x2,x3,x4,x5,x6,x7]⟩,80,rs⟩ W hw);have HP3:=KZ9 (fun (W:World)=>vX ⟨sc2,us,⟨kd,nm,va,[x0,x1,x2,x3,x4,x5,x6,x7]⟩,80,rs⟩ W hw);rw [show vk ⟨sc,us,⟨kd,nm,va,[x0,x1,x2,x3,x4,x5,x6,x7]⟩,80,rs⟩=80 from by unfold vk;simp] at HP1;rw [show vk ⟨sc2,us,⟨kd,nm,va,[x0,x1,x2,x3,x4,x5,x6,x7]⟩,80,rs⟩=80 from by unfold vk;simp] at HP3;clear h80 h443;have HB1:=KZ9 b1;have HB3:=KZ9 b3;have HA:=KZ9 hA;obtain ⟨q0,q1,q2,q3,q4,q5,q6,q7,q8,q9,q10,q11,q12,q13,q14⟩:=BlkL.fs15 (fun x:xy w=>(b1.below (by exact b1.lt) x.2));obtain ⟨r0,r1,r2,r3,r4,r5,r6,r7,r8,r9,r10,r11,r12,r13,r14⟩:=BlkL.fs15 (fun x:xy w=>(b3.below (by exact b3.lt) x.2));have c0:=b2.c 0 _ rfl
 clear b1 b2 b3 hA hw hB;go_wp2_with fail
 clear c0;refine yA w (by kernel_rfl) (by kernel_rfl) (Below.refl _ _) ?_;repeat (go_big_quiet_step (fail))
 go_big_quiet_step (exact Calls.later (HP1.out _))
 repeat (go_big_quiet_step (fail))
 go_big_quiet_step (exact Calls.later (HP3.out _))
 repeat (go_big_quiet_step (fail))
 refine wpQuiet_nil ?_;intro w5 hw';obtain ⟨⟨w6,hb6⟩,hw6⟩:=hw';have hb5:Below w.heap.size w w5:=hw6▸hb6;clear hw6 hb6 q0 r0 q1 r1 q2 r2 q3 r3 q4 r4 q5 r5 q6 r6 q7 r7 q8 r8 q9 r9 q10 r10 q11 r11 q12 r12 q13 r13 q14 r14 HP1 HP3;have d1:=HB1.out.below HB1.out.lt hb5;have d3:=HB3.out.below HB3.out.lt hb5;have HA5:=KZ9 (HA.out.trans (hb5.mono HA.out.size));have p13:=d1.c 13 _ rfl;obtain ⟨y0,y1,y2,y3,y4,y5,y6,y7,y8,y9,y10,y11,y12,y13,y14⟩:=BlkL.cs15 d3;clear hb5 d1 d3 HB1 HB3 HA;go_wp2_with fail
 all_goals try omega
 refine (HIN.out _).mono ?_;rintro e w6 ⟨rfl,hb6⟩;rw [HNI.out];have HA6:=KZ9 (HA5.out.trans (hb6.mono HA5.out.size));clear hb6 HA5 p13 y0 y1 y2 y3 y4 y5 y6 y7 y8 y9 y10 y11 y12 y13 y14;go_wp2_with fail
 all_goals try omega
 refine (HAW.out _ HA6.out).mono ?_;rintro e w7 ⟨rfl,hb7⟩;have HA7:=KZ9 (HA6.out.trans (hb7.mono HA6.out.size));clear hb7 HA6;go_wp2
 all_goals try omega
 go_ret;exact ⟨rfl,HA7.out⟩
theorem Ro (sc sc2 us rs nm:Bs) (kd va x0 x1 x2 x3 x4 x5 x6 x7:Nat) (pt2:Int) (r:Nat) (fu:Bs) (g1 g2 g3:Nat) (w0 w:World) {u0 u1 u2 u3 u4 u5 u6 u7 u8 u9 aa ab ac ad ae af ag ah ai aj ak al am an ao ap aq ar au av aw ax ay az aA aB aC aD aE aF aG aH aI aJ aK aL aM aN aO aP aQ aR aS aT aU aV aW aX aY aZ ba bb bc bd be bf bg bh bi bj bk bl bm bn bo bp bq br bs bt bu bv bw bx bz bA bB bC bD bE bF bG bH bI bJ bK bL bM bN bO bP bQ bR bS bT bU bV bW bX bY bZ ca cb cc cd ce cf cg ch ci cj ck cl cm cn co cp cq cr cs ct cu cv cw cx cy cz cA cB cC cD cE cF cG cH cI cJ cK cL cM cN cO cP cQ cR cS cT cU cV cW cX cY cZ da db dc dd de df dg dh di dj dk dl dm dn dp dq dr ds dt du dv dw dx dy dz dA dB dC dD dE dF dG dH dI dJ dK dL dM dN dO:Value} (hw:yk ⟨kd,nm,va,[x0,x1,x2,x3,x4,x5,x6,x7]⟩) (hB:Base6 w0) (hA:Below w0.heap.size w0 w) (b1:BlkL w g1 62 (za ⟨sc,us,⟨kd,nm,va,[x0,x1,x2,x3,x4,x5,x6,x7]⟩,pt2,rs⟩)) (b2:BlkL w g2 34 (zm ⟨2,r,fu⟩)) (b3:BlkL w g3 62 (za ⟨sc2,us,⟨kd,nm,va,[x0,x1,x2,x3,x4,x5,x6,x7]⟩,pt2,rs⟩))
  (h80:zq sc=80) (h443:zq sc2=443) (h1:pt2≠ -1) (h3:pt2≠80) :
  Code.wp Tryz.prog (wh 12 gy) (bodyPost Tryz.prog Tryz.f5 (jl w0)) ⟨#[u0,u1,u2,u3,u4,u5,u6,u7,u8,u9,aa,ab,ac,ad,ae,af,ag,.pointer (some ⟨g1,0,none⟩),ah,.pointer (some ⟨g2,0,none⟩),ai,.pointer (some ⟨g3,0,none⟩),aj,ak,al,am,an,ao,ap,aq,ar,au,av,aw,ax,ay,az,aA,aB,aC,aD,aE,aF,aG,aH,aI,aJ,aK,aL,aM,aN,aO,aP,aQ,aR,aS,aT,aU,aV,aW,aX,aY,aZ,ba,bb,bc,bd,be,bf,bg,bh,bi,bj,bk,bl,bm,bn,bo,bp,bq,br,bs,bt,bu,bv,bw,bx,bz,bA,bB,bC,bD,bE,bF,bG,bH,bI,bJ,bK,bL,bM,bN,bO,bP,bQ,bR,bS,bT,bU,bV,bW,bX,bY,bZ,ca,cb,cc,cd,ce,cf,cg,ch,ci,cj,ck,cl,cm,cn,co,cp,cq,cr,cs,ct,cu,cv,cw,cx,cy,cz,cA,cB,cC,cD,cE,cF,cG,cH,cI,cJ,cK,cL,cM,cN,cO,cP,cQ,cR,cS,cT,cU,cV,cW,cX,cY,cZ,da,db,dc,dd,de,df,dg,dh,di,dj,dk,dl,dm,dn,dp,dq,dr,ds,dt,du,dv,dw,dx,dy,dz,dA,dB,dC,dD,dE,dF,dG,dH,dI,dJ,dK,dL,dM,dN,dO],[]⟩ w:=by
 conv=>arg 2;whnf
 have HAW:=KZ9 (fun W (h:Below w0.heap.size w0 W)=>tQ W (hB.below h));have HNI:=KZ9 (show decide (zq sc2=80)=false by rw [h443];decide);have e1:decide (pt2=80)=false:=KZ8 h3;have e2:(pt2==80)=false:=by simpa using h3
 have e3:(pt2 != 80)=true:=by simpa using h3
 have HIN:=KZ9 (fun W=>vi ⟨sc2,us,⟨kd,nm,va,[x0,x1,x2,x3,x4,x5,x6,x7]⟩,pt2,rs⟩ W);have HP1:=KZ9 (fun (W:World)=>vX ⟨sc,us,⟨kd,nm,va,[x0,x1,x2,x3,x4,x5,x6,x7]⟩,pt2,rs⟩ W hw);have HP3:=KZ9 (fun (W:World)=>vX ⟨sc2,us,⟨kd,nm,va,[x0,x1,x2,x3,x4,x5,x6,x7]⟩,pt2,rs⟩ W hw);rw [show vk ⟨sc,us,⟨kd,nm,va,[x0,x1,x2,x3,x4,x5,x6,x7]⟩,pt2,rs⟩=pt2 from by unfold vk;simp [h1]] at HP1;rw [show vk ⟨sc2,us,⟨kd,nm,va,[x0,x1,x2,x3,x4,x5,x6,x7]⟩,pt2,rs⟩=pt2 from by unfold vk;simp [h1]] at HP3;clear h80 h443 h1 h3;have HB1:=KZ9 b1;have HB3:=KZ9 b3;have HA:=KZ9 hA;obtain ⟨q0,q1,q2,q3,q4,q5,q6,q7,q8,q9,q10,q11,q12,q13,q14⟩:=BlkL.fs15 (fun x:xy w=>(b1.below (by exact b1.lt) x.2));obtain ⟨r0,r1,r2,r3,r4,r5,r6,r7,r8,r9,r10,r11,r12,r13,r14⟩:=BlkL.fs15 (fun x:xy w=>(b3.below (by exact b3.lt) x.2))
 have c0:=b2.c 0 _ rfl;clear b1 b2 b3 hA hw hB;go_wp2_with fail
 clear c0;refine yA w (by kernel_rfl) (by kernel_rfl) (Below.refl _ _) ?_;repeat (go_big_quiet_step (fail))
 go_big_quiet_step (exact Calls.later (HP1.out _))
 repeat (go_big_quiet_step (fail))
 go_big_quiet_step (exact Calls.later (HP3.out _))
 repeat (go_big_quiet_step (fail))
 refine wpQuiet_nil ?_;intro w5 hw';obtain ⟨⟨w6,hb6⟩,hw6⟩:=hw';have hb5:Below w.heap.size w w5:=hw6▸hb6;clear hw6 hb6 q0 r0 q1 r1 q2 r2 q3 r3 q4 r4 q5 r5 q6 r6 q7 r7 q8 r8 q9 r9 q10 r10 q11 r11 q12 r12 q13 r13 q14 r14 HP1 HP3;have d1:=HB1.out.below HB1.out.lt hb5;have d3:=HB3.out.below HB3.out.lt hb5;have HA5:=KZ9 (HA.out.trans (hb5.mono HA.out.size));have p13:=d1.c 13 _ rfl;obtain ⟨y0,y1,y2,y3,y4,y5,y6,y7,y8,y9,y10,y11,y12,y13,y14⟩:=BlkL.cs15 d3;clear hb5 d1 d3 HB1 HB3 HA;go_wp2_with fail
 all_goals try omega
 refine (HIN.out _).mono ?_;rintro e w6 ⟨rfl,hb6⟩;rw [HNI.out];have HA6:=KZ9 (HA5.out.trans (hb6.mono HA5.out.size));clear hb6 HA5 p13 y0 y1 y2 y3 y4 y5 y6 y7 y8 y9 y10 y11 y12 y13 y14;go_wp2_with fail
 all_goals try omega
 refine (HAW.out _ HA6.out).mono ?_;rintro e w7 ⟨rfl,hb7⟩;have HA7:=KZ9 (HA6.out.trans (hb7.mono HA6.out.size));clear hb7 HA6;go_wp2
 all_goals try omega
 go_ret;exact ⟨rfl,HA7.out⟩
theorem UO (sc us rs nm:Bs) (kd va x0 x1 x2 x3 x4 x5 x6 x7:Nat) (pt:Int) (r:Nat) (fu:Bs) (g1 g2 g3:Nat) (w0 w:World) {u0 u1 u2 u3 u4 u5 u6 u7 u8 u9 aa ab ac ad ae af ag ah ai aj ak al am an ao ap aq ar au av aw ax ay az aA aB aC aD aE aF aG aH aI aJ aK aL aM aN aO aP aQ aR aS aT aU aV aW aX aY aZ ba bb bc bd be bf bg bh bi bj bk bl bm bn bo bp bq br bs bt bu bv bw bx bz bA bB bC bD bE bF bG bH bI bJ bK bL bM bN bO bP bQ bR bS bT bU bV bW bX bY bZ ca cb cc cd ce cf cg ch ci cj ck cl cm cn co cp cq cr cs ct cu cv cw cx cy cz cA cB cC cD cE cF cG cH cI cJ cK cL cM cN cO cP cQ cR cS cT cU cV cW cX cY cZ da db dc dd de df dg dh di dj dk dl dm dn dp dq dr ds dt du dv dw dx dy dz dA dB dC dD dE dF dG dH dI dJ dK dL dM dN dO:Value} (hB:Base6 w0) (hA:Below w0.heap.size w0 w) (b1:BlkL w g1 62 (za ⟨sc,us,⟨kd,nm,va,[x0,x1,x2,x3,x4,x5,x6,x7]⟩,pt,rs⟩)) (b2:BlkL w g2 34 (zm ⟨1,r,fu⟩)) (b3:BlkL w g3 62 (za ⟨sc,us,⟨kd,nm,va,[x0,x1,x2,x3,x4,x5,x6,x7]⟩,pt,rs⟩)) :
  Code.wp Tryz.prog (wh 12 gy) (bodyPost Tryz.prog Tryz.f5 (jl w0)) ⟨#[u0,u1,u2,u3,u4,u5,u6,u7,u8,u9,aa,ab,ac,ad,ae,af,ag,.pointer (some ⟨g1,0,none⟩),ah,.pointer (some ⟨g2,0,none⟩),ai,.pointer (some ⟨g3,0,none⟩),aj,ak,al,am,an,ao,ap,aq,ar,au,av,aw,ax,ay,az,aA,aB,aC,aD,aE,aF,aG,aH,aI,aJ,aK,aL,aM,aN,aO,aP,aQ,aR,aS,aT,aU,aV,aW,aX,aY,aZ,ba,bb,bc,bd,be,bf,bg,bh,bi,bj,bk,bl,bm,bn,bo,bp,bq,br,bs,bt,bu,bv,bw,bx,bz,bA,bB,bC,bD,bE,bF,bG,bH,bI,bJ,bK,bL,bM,bN,bO,bP,bQ,bR,bS,bT,bU,bV,bW,bX,bY,bZ,ca,cb,cc,cd,ce,cf,cg,ch,ci,cj,ck,cl,cm,cn,co,cp,cq,cr,cs,ct,cu,cv,cw,cx,cy,cz,cA,cB,cC,cD,cE,cF,cG,cH,cI,cJ,cK,cL,cM,cN,cO,cP,cQ,cR,cS,cT,cU,cV,cW,cX,cY,cZ,da,db,dc,dd,de,df,dg,dh,di,dj,dk,dl,dm,dn,dp,dq,dr,ds,dt,du,dv,dw,dx,dy,dz,dA,dB,dC,dD,dE,dF,dG,dH,dI,dJ,dK,dL,dM,dN,dO],[]⟩ w:=by
 conv=>arg 2;whnf
 have HAW:=KZ9 (tQ w (hB.below hA));have HA:=KZ9 hA;have hq:∀ W,(Op.equalIn 10000 62 (.agg #[.string (mk sc),.string (mk us),.int .i64 (kd:Int),.string (mk nm),.int .u32 (va:Int),.int .u16 (x0:Int),.int .u16 (x1:Int),.int .u16 (x2:Int),.int .u16 (x3:Int),.int .u16 (x4:Int),.int .u16 (x5:Int),.int .u16 (x6:Int),.int .u16 (x7:Int),.int .i64 pt,.string (mk rs)]) (.agg #[.string (mk sc),.string (mk us),.int .i64 (kd:Int),.string (mk nm),.int .u32 (va:Int),.int .u16 (x0:Int),.int .u16 (x1:Int),.int .u16 (x2:Int),.int .u16 (x3:Int),.int .u16 (x4:Int),.int .u16 (x5:Int),.int .u16 (x6:Int),.int .u16 (x7:Int),.int .i64 pt,.string (mk rs)])).run Tryz.prog W= .ok true W:=fun W=>by
  have:=Z7 ⟨sc,us,⟨kd,nm,va,[x0,x1,x2,x3,x4,x5,x6,x7]⟩,pt,rs⟩ ⟨sc,us,⟨kd,nm,va,[x0,x1,x2,x3,x4,x5,x6,x7]⟩,pt,rs⟩ rfl rfl W;rw [KZ7 rfl] at this;exact this
 obtain ⟨q0,q1,q2,q3,q4,q5,q6,q7,q8,q9,q10,q11,q12,q13,q14⟩:=BlkL.cs15 b1;obtain ⟨r0,r1,r2,r3,r4,r5,r6,r7,r8,r9,r10,r11,r12,r13,r14⟩:=BlkL.cs15 b3;have c0:=b2.c 0 _ rfl;clear b1 b2 b3 hA hB;go_wp2_with fail
 all_goals try omega
 refine HAW.out.mono ?_;rintro e w7 ⟨rfl,hb7⟩;have HA7:=KZ9 (HA.out.trans (hb7.mono HA.out.size));clear hb7 HA;go_wp2
 all_goals try omega
 go_ret;exact ⟨rfl,HA7.out⟩
theorem Rs (sc sc2 us rs nm:Bs) (kd va x0 x1 x2 x3 x4 x5 x6 x7:Nat) (pt pt2:Int) (a r:Nat) (fu:Bs) (g1 g2:Nat) (w0 w:World) {u0 u1 u2 u3 u4 u5 u6 u7 u8 u9 aa ab ac ad ae af ag ah ai aj ak al am an ao ap aq ar au av aw ax ay az aA aB aC aD aE aF aG aH aI aJ aK aL aM aN aO aP aQ aR aS aT aU aV aW aX aY aZ ba bb bc bd be bf bg bh bi bj bk bl bm bn bo bp bq br bs bt bu bv bw bx bz bA bB bC bD bE bF bG bH bI bJ bK bL bM bN bO bP bQ bR bS bT bU bV bW bX bY bZ ca cb cc cd ce cf cg ch ci cj ck cl cm cn co cp cq cr cs ct cu cv cw cx cy cz cA cB cC cD cE cF cG cH cI cJ cK cL cM cN cO cP cQ cR cS cT cU cV cW cX cY cZ da db dc dd de df dg dh di dj dk dl dm dn dp dq dr ds dt du dv dw dx dy dz dA dB dC dD dE dF dG dH dI dJ dK dL dM dN dO dP:Value} (hw:yk ⟨kd,nm,va,[x0,x1,x2,x3,x4,x5,x6,x7]⟩) (hB:Base6 w0) (hA:Below w0.heap.size w0 w) (b1:BlkL w g1 62 (za ⟨sc,us,⟨kd,nm,va,[x0,x1,x2,x3,x4,x5,x6,x7]⟩,pt,rs⟩)) (b2:BlkL w g2 34 (zm ⟨a,r,fu⟩)) (hfl:fu.length≤100000) (hfu:uA fu=some ⟨sc2,us,⟨kd,nm,va,[x0,x1,x2,x3,x4,x5,x6,x7]⟩,pt2,rs⟩)
  (hcase:(a=1∧sc2=sc∧pt2=pt)∨(a=2∧zq sc=80∧zq sc2=443∧((pt= -1∧pt2= -1)∨(pt=443∧pt2= -1)∨(pt≠ -1∧pt≠443∧pt2=pt)))) :
  Code.wp Tryz.prog (wh 10 gy) (bodyPost Tryz.prog Tryz.f5 (jl w0)) ⟨#[u0,u1,u2,u3,u4,u5,u6,u7,u8,u9,aa,ab,ac,ad,ae,af,ag,.pointer (some ⟨g1,0,none⟩),ah,.pointer (some ⟨g2,0,none⟩),ai,aj,ak,al,am,an,ao,ap,aq,ar,au,av,aw,ax,ay,az,aA,aB,aC,aD,aE,aF,aG,aH,aI,aJ,aK,aL,aM,aN,aO,aP,aQ,aR,aS,aT,aU,aV,aW,aX,aY,aZ,ba,bb,bc,bd,be,bf,bg,bh,bi,bj,bk,bl,bm,bn,bo,bp,bq,br,bs,bt,bu,bv,bw,bx,bz,bA,bB,bC,bD,bE,bF,bG,bH,bI,bJ,bK,bL,bM,bN,bO,bP,bQ,bR,bS,bT,bU,bV,bW,bX,bY,bZ,ca,cb,cc,cd,ce,cf,cg,ch,ci,cj,ck,cl,cm,cn,co,cp,cq,cr,cs,ct,cu,cv,cw,cx,cy,cz,cA,cB,cC,cD,cE,cF,cG,cH,cI,cJ,cK,cL,cM,cN,cO,cP,cQ,cR,cS,cT,cU,cV,cW,cX,cY,cZ,da,db,dc,dd,de,df,dg,dh,di,dj,dk,dl,dm,dn,dp,dq,dr,ds,dt,du,dv,dw,dx,dy,dz,dA,dB,dC,dD,dE,dF,dG,dH,dI,dJ,dK,dL,dM,dN,dO,dP],[]⟩ w:=by
 conv=>arg 2;whnf
 have HW8:=KZ9 hw;have HPA:=KZ9 (by
  have:=Zj (mk fu) w (by rw [zh];omega);rw [zj,hfu] at this;exact this)
 have HBA:=KZ9 (fun W (h:Below w0.heap.size w0 W)=>hB.below h);have HB:=KZ9 hB;have HCA:=KZ9 hcase;have B1:=KZ9 b1;have B2:=KZ9 b2;have HA:=KZ9 hA;have c2:=b2.c 2 _ rfl;clear hw hfu hfl hcase b1 b2 hA hB;apply wp_seq_k;intro K1 hK1;have HK1:=KZ9 hK1;clear hK1;go_wp2_with fail
 all_goals try omega
 refine HPA.out.mono ?_;rintro e w1 ⟨⟨v1,ec,rfl,hcase⟩,hb1⟩;obtain ⟨rfl,hue⟩:ec=0∧some (⟨sc2,us,⟨kd,nm,va,[x0,x1,x2,x3,x4,x5,x6,x7]⟩,pt2,rs⟩:UrlP)=some v1:=by
  rcases hcase with h | ⟨_,_,h⟩
  ·exact h
  cases h
 obtain rfl:⟨sc2,us,⟨kd,nm,va,[x0,x1,x2,x3,x4,x5,x6,x7]⟩,pt2,rs⟩=v1:=by injection hue
 clear hcase hue HPA;have hs1:=hb1.size;have hY:=(BlkL.new w1 62 (za zr)).setRow (za ⟨sc2,us,⟨kd,nm,va,[x0,x1,x2,x3,x4,x5,x6,x7]⟩,pt2,rs⟩);have l1:=B1.out.lt;have l2:=B2.out.lt;have hd1:=((B1.out.below l1 hb1).alloc (.cells (za zr).toArray 62)).setRow_other (show g1≠w1.heap.size by omega) (za ⟨sc2,us,⟨kd,nm,va,[x0,x1,x2,x3,x4,x5,x6,x7]⟩,pt2,rs⟩).toArray;have hd2:=((B2.out.below l2 hb1).alloc (.cells (za zr).toArray 62)).setRow_other (show g2≠w1.heap.size by omega) (za ⟨sc2,us,⟨kd,nm,va,[x0,x1,x2,x3,x4,x5,x6,x7]⟩,pt2,rs⟩).toArray;have hsz0:=HA.out.size;have hA2:=below_setRow ((HA.out.trans (hb1.mono hsz0)).alloc (by omega) (.cells (za zr).toArray 62)) (show w0.heap.size≤w1.heap.size by omega) (za ⟨sc2,us,⟨kd,nm,va,[x0,x1,x2,x3,x4,x5,x6,x7]⟩,pt2,rs⟩).toArray
 obtain ⟨W2,hW2⟩:=KZ6 ((w1.alloc (.cells (za zr).toArray 62)).setRow w1.heap.size (za ⟨sc2,us,⟨kd,nm,va,[x0,x1,x2,x3,x4,x5,x6,x7]⟩,pt2,rs⟩).toArray);rw [←hW2] at hY hd1 hd2 hA2;have HW2:Hid ((w1.alloc (.cells #[.string ⟨#[]⟩,.string ⟨#[]⟩,.int .i64 0,.string ⟨#[]⟩,.int .u32 0,.int .u16 0,.int .u16 0,.int .u16 0,.int .u16 0,.int .u16 0,.int .u16 0,.int .u16 0,.int .u16 0,.int .i64 0,.string ⟨#[]⟩] 62)).setRow w1.heap.size (za ⟨sc2,us,⟨kd,nm,va,[x0,x1,x2,x3,x4,x5,x6,x7]⟩,pt2,rs⟩).toArray=W2):=KZ9 hW2.symm;have HN1:=KZ9 (heap_alloc_new w1 (.cells (za zr).toArray 62));have HI3:=KZ9 (zS (u:=⟨sc2,us,⟨kd,nm,va,[x0,x1,x2,x3,x4,x5,x6,x7]⟩,pt2,rs⟩) rfl);have HB1:=KZ9 hd1;have HB2:=KZ9 hd2;have HB3:=KZ9 hY;have HA3:=KZ9 hA2;have HIN:=KZ9 (vi ⟨sc,us,⟨kd,nm,va,[x0,x1,x2,x3,x4,x5,x6,x7]⟩,pt,rs⟩ W2)
 clear hY hd1 hd2 hA2 hb1 hW2 B1 B2 HA c2;go_wp2_with (refine wpList_store_row rfl 62 (.tmp 21) (.tmp 121) rfl w1.heap.size (za ⟨sc2,us,⟨kd,nm,va,[x0,x1,x2,x3,x4,x5,x6,x7]⟩,pt2,rs⟩).toArray rfl rfl 62 _ HN1.out HI3.out rfl (ze (yj _)) ?_)
 all_goals try omega
 apply HK1.out;clear HK1;rw [HW2.out];clear HW2 HN1 HI3;apply wp_seq_k;intro K2 hK2;have HK2:=KZ9 hK2;clear hK2;have hqh:∀ W,(Op.equalIn 10000 60 (.agg #[.int .i64 (kd:Int),.string (mk nm),.int .u32 (va:Int),.int .u16 (x0:Int),.int .u16 (x1:Int),.int .u16 (x2:Int),.int .u16 (x3:Int),.int .u16 (x4:Int),.int .u16 (x5:Int),.int .u16 (x6:Int),.int .u16 (x7:Int)]) (.agg #[.int .i64 (kd:Int),.string (mk nm),.int .u32 (va:Int),.int .u16 (x0:Int),.int .u16 (x1:Int),.int .u16 (x2:Int),.int .u16 (x3:Int),.int .u16 (x4:Int),.int .u16 (x5:Int),.int .u16 (x6:Int),.int .u16 (x7:Int)])).run Tryz.prog W= .ok true W:=fun W=>by
  have:=X7 9996 ⟨kd,nm,va,[x0,x1,x2,x3,x4,x5,x6,x7]⟩ ⟨kd,nm,va,[x0,x1,x2,x3,x4,x5,x6,x7]⟩ rfl rfl W;rw [KZ7 rfl] at this;exact this
 have c1:=HB1.out;have c3:=HB3.out;rcases HCA.out with ⟨rfl,rfl,rfl⟩ | ⟨rfl,h80,h443,hpt⟩
 ·clear HCA HBA;have hq:∀ W,(Op.equalIn 10000 62 (.agg #[.string (mk sc2),.string (mk us),.int .i64 (kd:Int),.string (mk nm),.int .u32 (va:Int),.int .u16 (x0:Int),.int .u16 (x1:Int),.int .u16 (x2:Int),.int .u16 (x3:Int),.int .u16 (x4:Int),.int .u16 (x5:Int),.int .u16 (x6:Int),.int .u16 (x7:Int),.int .i64 pt2,.string (mk rs)]) (.agg #[.string (mk sc2),.string (mk us),.int .i64 (kd:Int),.string (mk nm),.int .u32 (va:Int),.int .u16 (x0:Int),.int .u16 (x1:Int),.int .u16 (x2:Int),.int .u16 (x3:Int),.int .u16 (x4:Int),.int .u16 (x5:Int),.int .u16 (x6:Int),.int .u16 (x7:Int),.int .i64 pt2,.string (mk rs)])).run Tryz.prog W= .ok true W:=fun W=>by
   have:=Z7 ⟨sc2,us,⟨kd,nm,va,[x0,x1,x2,x3,x4,x5,x6,x7]⟩,pt2,rs⟩ ⟨sc2,us,⟨kd,nm,va,[x0,x1,x2,x3,x4,x5,x6,x7]⟩,pt2,rs⟩ rfl rfl W;rw [KZ7 rfl] at this;exact this
  obtain ⟨ins,hins⟩:=KZ6 (decide (zq sc2=80));have HI80:=KZ9 hins.symm;clear hins;cases ins
  ·have q0:=c1.c 0 _ rfl;have q1:=c1.c 1 _ rfl;have q2:=c1.c 2 _ rfl;have q3:=c1.c 3 _ rfl;have q4:=c1.c 4 _ rfl;have q5:=c1.c 5 _ rfl;have q6:=c1.c 6 _ rfl;have q7:=c1.c 7 _ rfl;have q8:=c1.c 8 _ rfl;have q9:=c1.c 9 _ rfl;have q10:=c1.c 10 _ rfl;have q11:=c1.c 11 _ rfl;have q12:=c1.c 12 _ rfl;have q13:=c1.c 13 _ rfl;have q14:=c1.c 14 _ rfl;obtain ⟨r0,r1,r2,r3,r4,r5,r6,r7,r8,r9,r10,r11,r12,r13,r14⟩:=BlkL.cs15 c3;clear c1 c3;go_wp2_with fail
   all_goals try omega
   refine HIN.out.mono ?_;rintro e w4 ⟨rfl,hb4⟩;rw [HI80.out];have HA4:=KZ9 (HA3.out.trans (hb4.mono (by have:=HA3.out.size;omega)));have HE1:=KZ9 (HB1.out.below HB1.out.lt hb4);have HE2:=KZ9 (HB2.out.below HB2.out.lt hb4);have HE3:=KZ9 (HB3.out.below HB3.out.lt hb4);have e1:=HE1.out;have e3:=HE3.out;clear hb4 HA3 HB1 HB2 HB3 q0 r0 q1 r1 q2 r2 q3 r3 q4 r4 q5 r5 q6 r6 q7 r7 q8 r8 q9 r9 q10 r10 q11 r11 q12 r12 q13 r13 q14 r14;obtain ⟨q0,q1,q2,q3,q4,q5,q6,q7,q8,q9,q10,q11,q12,q13,q14⟩:=BlkL.cs15 e1;obtain ⟨r0,r1,r2,r3,r4,r5,r6,r7,r8,r9,r10,r11,r12,r13,r14⟩:=BlkL.cs15 e3;clear e1 e3;go_wp2_with fail
   all_goals try omega
   apply HK2.out;exact UO _ _ _ _ _ _ _ _ _ _ _ _ _ _ _ _ _ _ _ _ _ _ HB.out HA4.out HE1.out HE2.out HE3.out
  have q0:=c1.c 0 _ rfl;have q1:=c1.c 1 _ rfl;have q2:=c1.c 2 _ rfl;have q3:=c1.c 3 _ rfl;have q4:=c1.c 4 _ rfl;have q5:=c1.c 5 _ rfl;have q6:=c1.c 6 _ rfl;have q7:=c1.c 7 _ rfl;have q8:=c1.c 8 _ rfl;have q9:=c1.c 9 _ rfl;have q10:=c1.c 10 _ rfl;have q11:=c1.c 11 _ rfl;have q12:=c1.c 12 _ rfl;have q13:=c1.c 13 _ rfl;have q14:=c1.c 14 _ rfl;obtain ⟨r0,r1,r2,r3,r4,r5,r6,r7,r8,r9,r10,r11,r12,r13,r14⟩:=BlkL.cs15 c3;clear c1 c3;go_wp2_with fail
  all_goals try omega
  refine HIN.out.mono ?_;rintro e w4 ⟨rfl,hb4⟩;rw [HI80.out];have HA4:=KZ9 (HA3.out.trans (hb4.mono (by have:=HA3.out.size;omega)));have HE1:=KZ9 (HB1.out.below HB1.out.lt hb4);have HE2:=KZ9 (HB2.out.below HB2.out.lt hb4);have HE3:=KZ9 (HB3.out.below HB3.out.lt hb4);have e1:=HE1.out;have e3:=HE3.out;clear hb4 HA3 HB1 HB2 HB3 q0 r0 q1 r1 q2 r2 q3 r3 q4 r4 q5 r5 q6 r6 q7 r7 q8 r8 q9 r9 q10 r10 q11 r11 q12 r12 q13 r13 q14 r14;obtain ⟨q0,q1,q2,q3,q4,q5,q6,q7,q8,q9,q10,q11,q12,q13,q14⟩:=BlkL.cs15 e1;obtain ⟨r0,r1,r2,r3,r4,r5,r6,r7,r8,r9,r10,r11,r12,r13,r14⟩:=BlkL.cs15 e3;clear e1 e3;go_wp2_with fail
  all_goals try omega
  apply HK2.out;exact UO _ _ _ _ _ _ _ _ _ _ _ _ _ _ _ _ _ _ _ _ _ _ HB.out HA4.out HE1.out HE2.out HE3.out
 have HI80:=KZ9 (show decide (zq sc=80)=true from KZ7 h80);have H80:=KZ9 h80;have H443:=KZ9 h443;have HPT:=KZ9 hpt;clear h80 h443 hpt HCA HBA;obtain ⟨q0,q1,q2,q3,q4,q5,q6,q7,q8,q9,q10,q11,q12,q13,q14⟩:=BlkL.cs15 c1;obtain ⟨r0,r1,r2,r3,r4,r5,r6,r7,r8,r9,r10,r11,r12,r13,r14⟩:=BlkL.cs15 c3;clear c1 c3;go_wp2_with fail
 all_goals try omega
 refine HIN.out.mono ?_;rintro e w4 ⟨rfl,hb4⟩;rw [HI80.out];have HA4:=KZ9 (HA3.out.trans (hb4.mono (by have:=HA3.out.size;omega)));have HE1:=KZ9 (HB1.out.below HB1.out.lt hb4);have HE2:=KZ9 (HB2.out.below HB2.out.lt hb4);have HE3:=KZ9 (HB3.out.below HB3.out.lt hb4);have e1:=HE1.out;have e3:=HE3.out;clear hb4 HA3 HB1 HB2 HB3 q0 r0 q1 r1 q2 r2 q3 r3 q4 r4 q5 r5 q6 r6 q7 r7 q8 r8 q9 r9 q10 r10 q11 r11 q12 r12 q13 r13 q14 r14;obtain ⟨q0,q1,q2,q3,q4,q5,q6,q7,q8,q9,q10,q11,q12,q13,q14⟩:=BlkL.cs15 e1;obtain ⟨r0,r1,r2,r3,r4,r5,r6,r7,r8,r9,r10,r11,r12,r13,r14⟩:=BlkL.cs15 e3;clear e1 e3;go_wp2_with fail
 all_goals try omega
 apply HK2.out;rcases HPT.out with ⟨rfl,rfl⟩ | ⟨rfl,rfl⟩ | ⟨h1,h2,rfl⟩
 ·exact Rr _ _ _ _ _ _ _ _ _ _ _ _ _ _ _ _ _ _ _ _ _ _ HW8.out HB.out HA4.out HE1.out HE2.out HE3.out H80.out H443.out
 ·exact Rq _ _ _ _ _ _ _ _ _ _ _ _ _ _ _ _ _ _ _ _ _ _ HW8.out HB.out HA4.out HE1.out HE2.out HE3.out H80.out H443.out
 by_cases h3:pt2=80
 ·subst h3;exact Rp _ _ _ _ _ _ _ _ _ _ _ _ _ _ _ _ _ _ _ _ _ _ HW8.out HB.out HA4.out HE1.out HE2.out HE3.out H80.out H443.out
 exact Ro _ _ _ _ _ _ _ _ _ _ _ _ _ _ _ _ _ _ _ _ _ _ _ HW8.out HB.out HA4.out HE1.out HE2.out HE3.out H80.out H443.out h1 h3
theorem TA (b off j:Nat):(⟨b,off,none⟩:Addr).add j=⟨b,off+j,none⟩:=by
 unfold Addr.add;split
 ·rename_i h;rw [h];rfl
 rfl
theorem jm (w:World) (ty:TypeId) (base:Nat) (v:Value) (n:Nat) (xs:List Value) (hown:w.ownsRow base 9 1 v n xs) (xv:Value) (r:List Bs) (hr:Strs w xv r) (h1:n+r.length≤1000000) (hb:base≤w.heap.size) :
  ∃ v' w',(Builtin.append_ #[39,39] ty #[v,xv]).run Tryz.prog w= .ok v' w'∧w'.ownsRow base 9 1 v' (n+r.length) (xs++zy r)∧w.grownBy w' v.ownBlock:=by
 obtain ⟨iS0,iS⟩:=info_parts pg;obtain ⟨ar,c,rfl,hn,hm,hc⟩:=hr.open;rcases Nat.eq_zero_or_pos r.length with h0 | hpos
 ·obtain rfl:r=[]:=List.eq_nil_of_length_eq_zero h0;refine ⟨v,w,?_,by simpa [zy] using hown,⟨rfl,rfl,rfl,Nat.le_refl _,fun _ _ _=>rfl⟩⟩;rcases hown.2 with ⟨rfl,rfl⟩ | ⟨g,cap,cur,rfl,_,_,hnc,_⟩<;>cases ar <;>
   simp [Builtin.append_,run_underlying Tryz.underlying39,sizeOf,typeInfo,iS.1,Builtin.lenOf,Builtin.firstCells,loadCells,loadCellsFrom,storeCells, *]
 obtain ⟨b,off,rfl,hlt,hcell⟩:=hc hpos;have hnews:∀ j u,(zy r)[j]? =some u→w.cell? ((⟨b,off,none⟩:Addr).add j)=some u:=by
  intro j u hj;obtain ⟨h,e⟩:=List.getElem?_eq_some_iff.1 hj;have hjl:j<r.length:=by simpa using h
  rw [TA,hcell j hjl,←e];simp [zy]
 obtain ⟨v',w',h2,h3,h4,_⟩:=run_append_own (P:=Tryz.prog) w base 39 ty 9 iS0 (.string ByteArray.empty) 1 16 Tryz.underlying39 iS.1 iS.2.1 iS.2.2.1 iS.2.2.2 rfl (by decide) v n xs hown ⟨b,off,none⟩ r.length c (zy r) (by simp) hnews (by
  intro u hu;unfold zy at hu;obtain ⟨x,_,rfl⟩:=List.mem_map.1 hu;rfl) (by unfold maxLen;omega) (by omega) hb
 exact ⟨v',w',h2,h3,h4⟩
end Go.Proofs.YtjbciamhhfcdoaaGreatDoor
namespace Go.Proofs.YtjbciamhhfcdoaaGreatDoor
open Go.RowKit Go.Sort Hs
theorem R2 (l:Bs):encStr l= .string (mk l):=rfl
theorem jb {w:World} {base g cap:Nat} {H:List Bs} (ho:w.ownsRow base 9 1 (.slice (some ⟨g,0,none⟩) H.length cap) H.length (zy H)):Holds encStr w g 0 H.toArray:=by
 intro j hj;have hj2:j<H.length:=by simpa using hj
 rw [Nat.zero_add];refine ⟨?_,ho.frozenAt j⟩;rw [ho.cellAt j (by omega)];have e:H.toArray[j]! =H[j]:=by rw [getElem!_pos H.toArray j (by simpa using hj2)];simp
 rw [e];simp [zy,hj2,R2]
theorem Z1 {base:Nat} {w:World} {blk:Nat} (hb:base≤blk) (hs:base≤w.heap.size) (d:Array Bs) (n:Nat) (os:Array Obj):Below base w (grow (putRow encStr (Sort.ahead w n) blk 0 d) os):=by
 refine ⟨rfl,rfl,rfl,?_,fun j hj=> ?_⟩
 ·rw [size_grow,size_putRow];exact Nat.le_add_right _ _
 rw [heap_grow_old _ _ (by rw [size_putRow];show j<w.heap.size;omega)];unfold putRow mapBlock;show (w.heap.modify blk _)[j]? =w.heap[j]?;rw [Array.getElem?_modify,if_neg (by omega)]
theorem PL (H:List Bs) (hv:Value) (base:Nat) (w:World) (ho:w.ownsRow base 9 1 hv H.length (zy H)) (hbase:base≤w.heap.size) (hl:H.length≤100):Calls Tryz.prog 50 #[hv] w fun e w'=>e= .returned (.tuple #[])∧∃ H':List Bs,H'.length=H.length∧w'.ownsRow base 9 1 hv H'.length (zy H')∧Below base w w':=by
 rcases ho.2 with ⟨rfl,h0⟩ | ⟨g,cap,cur,rfl,hg,hgh,hn,hm,hcs,htk⟩
 ·rw [h0] at ho;refine (Tryz.slices_Sort_string_none none 0 w).mono ?_;rintro e w' ⟨rfl,rfl⟩;exact ⟨rfl,H,rfl,by rw [h0];exact ho,Below.refl _ _⟩
 have hgl:g<w.heap.size:=(Array.getElem?_eq_some_iff.1 hgh).1;refine (Tryz.slices_Sort_string g 0 cap H w (jb ho) hgl (by omega)).mono ?_;rintro e w' ⟨rfl,n,os,rfl⟩;refine ⟨rfl,H.mergeSort fun x y=>decide (x≤y),List.length_mergeSort _,?_,Z1 hg hbase _ n os⟩;rw [List.length_mergeSort];exact ownsRow_sorted (List.length_mergeSort _) hg hgh hn hm (by omega)
theorem Sx {w w':World} {p:Addr} (h:w'.heap[p.block]? =w.heap[p.block]?):w'.cell? p=w.cell? p:=by
 unfold World.cell?;rw [h]
def Jn (base:Nat) (w:World) (v:Value) (l:List Bs):Prop:=(∀ w'',(∀ j,base≤j→w''.heap[j]? =w.heap[j]?)→w''.heap.size=w.heap.size→Strs w'' v l)∧∃ a n c,v= .slice a n c
theorem QL (H:List Bs) (hv:Value) (base:Nat) (w:World) (ho:w.ownsRow base 9 1 hv H.length (zy H)) (hbase:base≤w.heap.size) (hl:H.length≤100):Calls Tryz.prog 51 #[hv] w fun e w'=>∃ v' H',e= .returned v'∧Jn base w' v' H'∧Below base w w':=by
 rcases ho.2 with ⟨rfl,h0⟩ | ⟨g,cap,cur,rfl,hg,hgh,hn,hm,hcs,htk⟩
 ·refine (Tryz.slices_Compact_string_empty none 0 w).mono ?_;rintro e w' ⟨rfl,rfl⟩;exact ⟨_,[],rfl,⟨fun _ _ _=>Row.nil _ _,_,_,_,rfl⟩,Below.refl _ _⟩
 have hgl:g<w.heap.size:=(Array.getElem?_eq_some_iff.1 hgh).1;have hH:=jb ho;have hlen:(Lib.compact H).length≤H.length:=Lib.compact_length_le H;refine (Tryz.slices_Compact_string g 0 cap H w hH (by omega) hn).mono ?_;rintro e w' ⟨rfl,q,rfl⟩;have hK:Holds encStr (putRow encStr (Sort.ahead w q) g 0 (Lib.compact H++List.replicate (H.length - (Lib.compact H).length) []).toArray) g 0 (Lib.compact H++List.replicate (H.length - (Lib.compact H).length) []).toArray:=holds_putRow encStr (Sort.ahead w q) g 0 H.toArray _ hH (by simp;omega);refine ⟨_,Lib.compact H,rfl,⟨fun w'' h1 h2=>⟨by simp,_,cap,rfl,by omega,hm,.inr ⟨g,0,rfl,by rw [h2,size_putRow];exact hgl,fun j u hj=> ?_⟩⟩,_,_,_,rfl⟩,?_⟩
 ·have hjl:j<(Lib.compact H).length:=by have:=(List.getElem?_eq_some_iff.1 hj).1;simpa [zy] using this
  have:=(hK j (by simp;omega)).1;rw [Sx (h1 g hg)];rw [this];rw [←hj];rw [getElem!_pos _ j (by simp;omega)];simp [zy,List.getElem_append_left,hjl,R2]
 have:=Z1 hg hbase (Lib.compact H++List.replicate (H.length - (Lib.compact H).length) []).toArray q #[]
 rwa [grow_empty] at this
end Go.Proofs.YtjbciamhhfcdoaaGreatDoor
namespace Go.Proofs.YtjbciamhhfcdoaaGreatDoor
open Go.RowKit Hs
theorem py {ops:Array Oper} {o:Oper} {a:Act} {w:World} {K:Act→World→Prop} {Q:Exit→Act→World→Prop} {E:Prop} (hgd:o.guard=none) (s x:Operand)
  (ho:o.op= .call { callee:= .builtin .append,args:=#[s,x],argTypes:=#[39,39] })
  (base:Nat) (v:Value) (n:Nat) (xs:List Value) (hs:a.eval s=v) (hown:w.ownsRow base 9 1 v n xs) (xv:Value) (hx:a.eval x=xv) (r:List Bs) (hr:Strs w xv r) (h1:n+r.length≤1000000) (hb:base≤w.heap.size)
  (h:∀ v' w',w'.ownsRow base 9 1 v' (n+r.length) (xs++zy r)→w.grownBy w' v.ownBlock→K (a.put o.dst v') w'):if Region.wanted o (yielded ops a.tmps)=true then Oper.wp Tryz.prog o a w K Q else E:=by
 have hw:Region.wanted o (yielded ops a.tmps)=true:=by simp [Region.wanted,hgd]
 rw [if_pos hw];obtain ⟨v',w',hrun,h2,h3⟩:=jm w o.type base v n xs hown xv r hr h1 hb;unfold Oper.wp execOp;simp only [ho,resolve,invoke,builtin,Sem.run_bind,Sem.run_pure,Result.andThen_ok,List.map_toArray,List.map_cons,List.map_nil,hs,hx,hrun];exact h v' w' h2 h3
theorem VF {w w':World} {base:Nat} {e:TypeId} {size n:Nat} {v:Value} {xs:List Value} (h:w.ownsRow base e size v n xs) (hb:Below w.heap.size w w'):w'.ownsRow base e size v n xs :=
 h.kept (row:=none) ⟨hb.os,hb.tape,hb.output,hb.size,fun k hk _=>hb.block k hk⟩ (by cases hv:v.ownBlock<;>simp)
structure CS (w:World) (z k:Nat) (s p u b:Bool) (hv:Value) (H:List Bs) (wx:World):Prop where
 c0:BlkL wx z 41 [.bool false,.bool false,.bool false,.bool false,.slice none 0 0]
 c1:BlkL wx (z+1) 41 [.bool s,.bool p,.bool u,.bool b,hv]
 row:wx.ownsRow (z+2) 9 1 hv H.length (zy H)
 len:H.length≤k
 bel:Below z w wx
section
variable {w wx wy : World} {z k : Nat} {s p u b : Bool} {hv : Value} {H : List Bs}
theorem CS.size (h:CS w z k s p u b hv H wx):z+2≤wx.heap.size:=h.c1.lt
theorem CS.below (h:CS w z k s p u b hv H wx) (hb:Below wx.heap.size wx wy):CS w z k s p u b hv H wy :=
 have hs:=h.size
 ⟨h.c0.below (by omega) hb,h.c1.below (by omega) hb,VF h.row hb,h.len,h.bel.trans (hb.mono (by omega))⟩
theorem CS.alloc (h:CS w z k s p u b hv H wx) (o:Obj):CS w z k s p u b hv H (wx.alloc o):=h.below ((Below.refl _ _).alloc (Nat.le_refl _) o)
theorem CS.drew (h:CS w z k s p u b hv H wx):CS w z k s p u b hv H wx.drew:=h.below (Below.refl _ _).drew
theorem CS.row_set (h:CS w z k s p u b hv H wx) (j:Nat) (v:Value):(wx.setCell ⟨z+1,j,none⟩ v).ownsRow (z+2) 9 1 hv H.length (zy H) :=
 h.row.kept (xV wx (z+1) j v) (vP h.row (Nat.lt_succ_self _))
theorem CS.set0 (h:CS w z k s p u b hv H wx) (v:Bool):CS w z k v p u b hv H (wx.setCell ⟨z+1,0,none⟩ (.bool v)) :=
 ⟨h.c0.other (by omega) _ _,h.c1.set 0 (by simp) _,h.row_set _ _,h.len,h.bel.trans (zW _ _ _ _ (by omega))⟩
theorem CS.set1 (h:CS w z k s p u b hv H wx) (v:Bool):CS w z k s v u b hv H (wx.setCell ⟨z+1,1,none⟩ (.bool v)) :=
 ⟨h.c0.other (by omega) _ _,h.c1.set 1 (by simp) _,h.row_set _ _,h.len,h.bel.trans (zW _ _ _ _ (by omega))⟩
theorem CS.set2 (h:CS w z k s p u b hv H wx) (v:Bool):CS w z k s p v b hv H (wx.setCell ⟨z+1,2,none⟩ (.bool v)) :=
 ⟨h.c0.other (by omega) _ _,h.c1.set 2 (by simp) _,h.row_set _ _,h.len,h.bel.trans (zW _ _ _ _ (by omega))⟩
theorem CS.set3 (h:CS w z k s p u b hv H wx) (v:Bool):CS w z k s p u v hv H (wx.setCell ⟨z+1,3,none⟩ (.bool v)) :=
 ⟨h.c0.other (by omega) _ _,h.c1.set 3 (by simp) _,h.row_set _ _,h.len,h.bel.trans (zW _ _ _ _ (by omega))⟩
theorem CS.ne (h:CS w z k s p u b hv H wx) {j:Nat} (hj:j<z+2):some j≠hv.ownBlock:=fun e=>by
 have:=(h.row.lt j e.symm).1;omega
theorem CS.app (h:CS w z k s p u b hv H wx) {v':Value} {x:Bs} (hA:wy.ownsRow (z+2) 9 1 v' (H.length+[x].length) (zy H++zy [x])) (gA:wx.grownBy wy hv.ownBlock):CS w z (k+1) s p u b v' (H++[x]) (wy.setCell ⟨z+1,4,none⟩ v'):=by
 have hl:(H++[x]).length=H.length+[x].length:=by simp
 have hc:zy (H++[x])=zy H++zy [x]:=by simp [zy]
 refine ⟨(h.c0.grown gA (h.ne (by omega))).other (by omega) _ _,(h.c1.grown gA (h.ne (by omega))).set 4 (by simp) _,?_,by have:=h.len;simp;omega,?_⟩
 ·rw [hl,hc];exact hA.kept (xV wy (z+1) 4 v') (vP hA (Nat.lt_succ_self _))
 exact (h.bel.grown gA (by have:=h.size;omega) (fun j hj=>by have:=(h.row.lt j hj).1;omega)).trans (zW _ _ _ _ (by omega))
end
def WU (w:World) (e:Ending) (w':World):Prop:=((∃ n:Int,n≠0∧e= .returned (.tuple #[.agg (ya ⟨false,false,false,false,[]⟩ (.slice none 0 0)).toArray,.int .i64 n]))∨∃ c hv,e= .returned (.tuple #[.agg (ya c hv).toArray,.int .i64 0])∧Strs w' hv c.hosts)∧Below w.heap.size w w'
theorem Frs.open {w:World} {v:Value} {l:List (Bs × List Bs)} (h:Frs w v l):∃ a cap,v= .slice a l.length cap∧l.length≤cap∧cap≤maxLen ∧
  ∀ (hn:0<l.length),∃ b off,a=some ⟨b,off,none⟩∧b<w.heap.size∧∀ j (hj:j<l.length),w.cell? ⟨b,off+j*2,none⟩=some (.string (mk l[j].1))∧∃ cv,w.cell? ⟨b,off+j*2+1,none⟩=some cv∧Strs w cv l[j].2:=h
theorem gH {α:Type} (f:α→Bool) (l:List α) (k:Nat) (hk:k<l.length):(l.drop k).all f=(f l[k]&&(l.drop (k+1)).all f):=by rw [List.drop_eq_getElem_cons hk,List.all_cons]
set_option maxRecDepth 20000
set_option maxHeartbeats 4000000
theorem T9 (v:Value) (T:List PinP) (m:Int) (w:World) (hT:Pins w v T) (hs:∀ p∈T,p.host.length≤maxLen) (hm:0≤m):Calls Tryz.prog 14 #[v,.int .i64 m] w fun e w'=>e= .returned (.bool (decide ((T.length:Int)≤m)&&T.all fun p=>decide (p.host.length≤300)))∧w=w':=by
 obtain ⟨a,cap,rfl,h1,h2,hc⟩:=hT.open;unfold maxLen at h2;have HC:=KZ9 hc;have HS:=KZ9 hs;obtain ⟨n,hn⟩:=KZ6 T.length;have HN:=KZ9 hn;rw [←hn] at h1 ⊢;clear hc hT hn hs;by_cases hbig:m<(n:Int)
 ·have g1:decide (m<(n:Int))=true:=KZ7 hbig;have hfin:Hid ((decide ((n:Int)≤m)&&T.all fun p=>decide (p.host.length≤300))=false):=KZ9 (by rw [KZ8 (by omega)];rfl);clear hbig;go_enter Tryz.func14,Tryz.ntmps14
  go_wp2
  all_goals try omega
  go_ret;rw [hfin.out];exact ⟨rfl,rfl⟩
 have g1:decide (m<(n:Int))=false:=KZ8 hbig;have hfin:Hid ((decide ((n:Int)≤m)&&T.all fun p=>decide (p.host.length≤300))=T.all fun p=>decide (p.host.length≤300)):=KZ9 (by rw [KZ7 (by omega)];rfl);clear hbig;go_enter Tryz.func14,Tryz.ntmps14
 go_wp2;go_loop [5] (fun iv=>∃ k:Nat,iv= .int .i64 k∧k≤n∧Hid ((T.all fun p=>decide (p.host.length≤300))=(T.drop k).all fun p=>decide (p.host.length≤300))) (fun iv=>n - (intOf iv).toNat)
 case atStart=>exact ⟨0,rfl,by omega,KZ9 (by rw [List.drop_zero])⟩
 case round =>
  obtain ⟨k,rfl,hk,hI⟩:=hrel;by_cases hlt:k<n
  ·have hkT:k<T.length:=by rw [←HN.out];exact hlt
   obtain ⟨b,off,rfl,hb,hcc⟩:=HC.out (by omega);obtain ⟨c0,_,_⟩:=hcc k hkT;have hst:=gH (fun p:PinP=>decide (p.host.length≤300)) T k hkT;have hsx:T[k].host.length≤9223372036854775807:=HS.out T[k] (List.getElem_mem hkT);obtain ⟨t,ht⟩:=KZ6 (T[k].host);rw [←ht] at c0 hst hsx;have hsz:(mk t).size=t.length:=zh t;by_cases hl:t.length≤300
   ·have g2:decide ((300:Int)<(t.length:Int))=false:=KZ8 (by omega);have hI2:=KZ9 (hI.out.trans (hst.trans (by rw [KZ7 hl,Bool.true_and])));clear hst ht hI hcc hl;go_wp2
    all_goals try omega
    go_round
    case rel=>exact ⟨k+1,by go_num,by omega,hI2⟩
    case measure=>simp [intOf];omega
   have g2:decide ((300:Int)<(t.length:Int))=true:=KZ7 (by omega);have hI2:=KZ9 (hI.out.trans (hst.trans (by rw [KZ8 hl,Bool.false_and])));clear hst ht hI hcc hl;go_wp2
   all_goals try omega
   (try rw [Exit.noGoto_ret])
   go_ret;rw [hfin.out,hI2.out];exact ⟨rfl,rfl⟩
  have hI2:Hid ((T.all fun p=>decide (p.host.length≤300))=true):=KZ9 (by rw [hI.out,List.drop_of_length_le (by rw [←HN.out];omega)];rfl);clear hI;go_wp2
  all_goals try omega
  go_ret;rw [hfin.out,hI2.out];exact ⟨rfl,rfl⟩
theorem Sa (v:Value) (T:List EntP) (m:Int) (w:World) (hT:Ents w v T) (hs:∀ p∈T,p.host.length≤maxLen) (hm:0≤m):Calls Tryz.prog 15 #[v,.int .i64 m] w fun e w'=>e= .returned (.bool (decide ((T.length:Int)≤m)&&T.all fun p=>decide (p.host.length≤300)))∧w=w':=by
 obtain ⟨a,cap,rfl,h1,h2,hc⟩:=hT.open;unfold maxLen at h2;have HC:=KZ9 hc;have HS:=KZ9 hs;obtain ⟨n,hn⟩:=KZ6 T.length;have HN:=KZ9 hn;rw [←hn] at h1 ⊢;clear hc hT hn hs;by_cases hbig:m<(n:Int)
 ·have g1:decide (m<(n:Int))=true:=KZ7 hbig;have hfin:Hid ((decide ((n:Int)≤m)&&T.all fun p=>decide (p.host.length≤300))=false):=KZ9 (by rw [KZ8 (by omega)];rfl);clear hbig;go_enter Tryz.func15,Tryz.ntmps15
  go_wp2
  all_goals try omega
  go_ret;rw [hfin.out];exact ⟨rfl,rfl⟩
 have g1:decide (m<(n:Int))=false:=KZ8 hbig;have hfin:Hid ((decide ((n:Int)≤m)&&T.all fun p=>decide (p.host.length≤300))=T.all fun p=>decide (p.host.length≤300)):=KZ9 (by rw [KZ7 (by omega)];rfl);clear hbig;go_enter Tryz.func15,Tryz.ntmps15
 go_wp2;go_loop [5] (fun iv=>∃ k:Nat,iv= .int .i64 k∧k≤n∧Hid ((T.all fun p=>decide (p.host.length≤300))=(T.drop k).all fun p=>decide (p.host.length≤300))) (fun iv=>n - (intOf iv).toNat)
 case atStart=>exact ⟨0,rfl,by omega,KZ9 (by rw [List.drop_zero])⟩
 case round =>
  obtain ⟨k,rfl,hk,hI⟩:=hrel;by_cases hlt:k<n
  ·have hkT:k<T.length:=by rw [←HN.out];exact hlt
   obtain ⟨b,off,rfl,hb,hcc⟩:=HC.out (by omega);obtain ⟨c0,_⟩:=hcc k hkT;have hst:=gH (fun p:EntP=>decide (p.host.length≤300)) T k hkT;have hsx:T[k].host.length≤9223372036854775807:=HS.out T[k] (List.getElem_mem hkT);obtain ⟨t,ht⟩:=KZ6 (T[k].host);rw [←ht] at c0 hst hsx;have hsz:(mk t).size=t.length:=zh t;by_cases hl:t.length≤300
   ·have g2:decide ((300:Int)<(t.length:Int))=false:=KZ8 (by omega);have hI2:=KZ9 (hI.out.trans (hst.trans (by rw [KZ7 hl,Bool.true_and])));clear hst ht hI hcc hl;go_wp2
    all_goals try omega
    go_round
    case rel=>exact ⟨k+1,by go_num,by omega,hI2⟩
    case measure=>simp [intOf];omega
   have g2:decide ((300:Int)<(t.length:Int))=true:=KZ7 (by omega);have hI2:=KZ9 (hI.out.trans (hst.trans (by rw [KZ8 hl,Bool.false_and])));clear hst ht hI hcc hl;go_wp2
   all_goals try omega
   (try rw [Exit.noGoto_ret])
   go_ret;rw [hfin.out,hI2.out];exact ⟨rfl,rfl⟩
  have hI2:Hid ((T.all fun p=>decide (p.host.length≤300))=true):=KZ9 (by rw [hI.out,List.drop_of_length_le (by rw [←HN.out];omega)];rfl);clear hI;go_wp2
  all_goals try omega
  go_ret;rw [hfin.out,hI2.out];exact ⟨rfl,rfl⟩
def s5 (f:Bs × List Bs):Bool:=decide (f.1.length≤3000)&&(decide (f.2.length≤6)&&f.2.all fun t=>decide ((t.length:Int)≤5000))
set_option maxHeartbeats 8000000
theorem X2 (v:Value) (T:List (Bs × List Bs)) (w:World) (hT:Frs w v T) (hs:∀ p∈T,p.1.length≤maxLen∧∀ y∈p.2,y.length≤maxLen):Calls Tryz.prog 13 #[v] w fun e w'=>e= .returned (.bool (decide (T.length≤20)&&T.all s5))∧w=w':=by
 obtain ⟨a,cap,rfl,h1,h2,hc⟩:=hT.open;unfold maxLen at h2;have HC:=KZ9 hc;have HS:=KZ9 hs;obtain ⟨n,hn⟩:=KZ6 T.length;have HN:=KZ9 hn;rw [←hn] at h1 ⊢;clear hc hT hn hs;by_cases hbig:20<n
 ·have g1:decide ((20:Int)<(n:Int))=true:=KZ7 (by omega);have hfin:Hid ((decide (n≤20)&&T.all s5)=false):=KZ9 (by rw [KZ8 (by omega)];rfl);clear hbig;go_enter Tryz.func13,Tryz.ntmps13
  go_wp2
  all_goals try omega
  go_ret;rw [hfin.out];exact ⟨rfl,rfl⟩
 have g1:decide ((20:Int)<(n:Int))=false:=KZ8 (by omega);have hfin:Hid ((decide (n≤20)&&T.all s5)=T.all s5):=KZ9 (by rw [KZ7 (by omega)];rfl);clear hbig;go_enter Tryz.func13,Tryz.ntmps13
 go_wp2;go_loop [3] (fun iv=>∃ k:Nat,iv= .int .i64 k∧k≤n∧Hid (T.all s5=(T.drop k).all s5)) (fun iv=>n - (intOf iv).toNat)
 case atStart=>exact ⟨0,rfl,by omega,KZ9 (by rw [List.drop_zero])⟩
 case round =>
  obtain ⟨k,rfl,hk,hI⟩:=hrel;by_cases hlt:k<n
  ·have hkT:k<T.length:=by rw [←HN.out];exact hlt
   obtain ⟨b,off,rfl,hb,hcc⟩:=HC.out (by omega);obtain ⟨c0,cv,c1,hst1⟩:=hcc k hkT;have hst:=gH s5 T k hkT;have hsx:=HS.out T[k] (List.getElem_mem hkT);obtain ⟨⟨t,cs⟩,ht⟩:∃ t,t=T[k]:=⟨_,rfl⟩;rw [←ht] at c0 hst hst1 hsx;simp only at c0 hst1 hsx;have hsx1:t.length≤9223372036854775807:=hsx.1;have hshort:=VU 5000 cv cs w hst1 hsx.2;obtain ⟨a3,cap3,rfl,j1,j2,_⟩:=hst1.open;unfold maxLen at j2;have hsz:(mk t).size=t.length:=zh t;have hdef:s5 (t,cs)=(decide (t.length≤3000)&&(decide (cs.length≤6)&&cs.all fun t=>decide ((t.length:Int)≤5000))):=rfl;obtain ⟨sh,hsh⟩:=KZ6 (cs.all fun t=>decide ((t.length:Int)≤5000));rw [←hsh] at hdef hshort;obtain ⟨cn,hcn⟩:=KZ6 cs.length;rw [←hcn] at hdef hshort c1 j1;rw [hdef] at hst;have HSH:=KZ9 hshort;clear hshort hst1 hsx hdef hsh hcn ht hcc;by_cases hl:t.length≤3000
   ·have g2:decide ((3000:Int)<(t.length:Int))=false:=KZ8 (by omega);rw [KZ7 hl] at hst;by_cases hl2:cn≤6
    ·have g3:decide ((6:Int)<(cn:Int))=false:=KZ8 (by omega);rw [KZ7 hl2] at hst;have HI2:=KZ9 (hI.out.trans hst);clear hst hI hl hl2;go_wp2_with fail
     all_goals try omega
     refine HSH.out.mono ?_;rintro e w' ⟨rfl,rfl⟩;cases sh
     ·go_wp2
      all_goals try omega
      (try rw [Exit.noGoto_ret])
      go_ret;rw [hfin.out,HI2.out];exact ⟨rfl,rfl⟩
     go_wp2
     all_goals try omega
     go_round
     case rel=>exact ⟨k+1,by go_num,by omega,KZ9 (HI2.out.trans (by rfl))⟩
     case measure=>simp [intOf];omega
    have g3:decide ((6:Int)<(cn:Int))=true:=KZ7 (by omega);rw [KZ8 hl2] at hst;have HI2:=KZ9 (hI.out.trans hst);clear hst hI hl hl2;go_wp2
    all_goals try omega
    (try rw [Exit.noGoto_ret])
    go_ret;rw [hfin.out,HI2.out];exact ⟨rfl,rfl⟩
   have g2:decide ((3000:Int)<(t.length:Int))=true:=KZ7 (by omega);rw [KZ8 hl] at hst;have HI2:=KZ9 (hI.out.trans hst);clear hst hI hl;go_wp2
   all_goals try omega
   (try rw [Exit.noGoto_ret])
   go_ret;rw [hfin.out,HI2.out];exact ⟨rfl,rfl⟩
  have hI2:Hid (T.all s5=true):=KZ9 (by rw [hI.out,List.drop_of_length_le (by rw [←HN.out];omega)];rfl);clear hI;go_wp2
  all_goals try omega
  go_ret;rw [hfin.out,hI2.out];exact ⟨rfl,rfl⟩
def SQ (fs:List (Bs × List Bs)):Prop:=∀ p∈fs,p.1.length≤3000∧p.2.length≤6∧∀ y∈p.2,y.length≤maxLen
theorem PA (v:Value) (vs:List Bs) (w:World) (hv:Strs w v vs) (hl:vs.length≤1000) (hs:∀ x∈vs,x.length≤maxLen):Calls Tryz.prog 46 #[v] w fun e w'=>∃ (p b:Bool) (a:Option Addr) (n c:Nat) (d:Int),e= .returned (.tuple #[.agg #[.bool p,.bool b,.slice a n c],.int .i64 d])∧Below w.heap.size w w':=by
 refine (ZT v vs w hv hl hs).mono ?_;rintro e w' ⟨u,rfl,ho,hb⟩;obtain ⟨a,c,rfl⟩:=uq ho;exact ⟨_,_,a,_,c,_,rfl,hb⟩
def Uw (u:UrlP):Prop:=yk u.host∧rK u
theorem WY {l:Bs} {u:UrlP} (h:uA l=some u) (hl:l.length≤3000):Uw u:=by
 obtain ⟨hc,hs⟩:=js h;have h2:=pp hc;exact ⟨gw hc,by omega,by omega,by omega,by omega,WK hc⟩
theorem Qg (w:World):CS w w.heap.size 0 true false false false (.slice none 0 0) [] ((w.alloc (.cells #[.bool false,.bool false,.bool false,.bool false,.slice none 0 0] 41)).alloc (.cells #[.bool true,.bool false,.bool false,.bool false,.slice none 0 0] 41)):=by
 refine ⟨(BlkL.new w 41 [.bool false,.bool false,.bool false,.bool false,.slice none 0 0]).alloc _,?_,World.ownsRow_nil _ _ _ _,Nat.le_refl _,((Below.refl _ w).alloc (Nat.le_refl _) _).alloc (by simp) _⟩;have:=BlkL.new (w.alloc (.cells #[.bool false,.bool false,.bool false,.bool false,.slice none 0 0] 41)) 41 [.bool true,.bool false,.bool false,.bool false,.slice none 0 0];simp only [World.size_alloc] at this;exact this
theorem CS.more {w wx:World} {z k:Nat} {s p u b:Bool} {hv:Value} {H:List Bs} (h:CS w z k s p u b hv H wx):CS w z (k+1) s p u b hv H wx:=⟨h.c0,h.c1,h.row,by have:=h.len;omega,h.bel⟩
theorem SP (w:World) (x:Bs) (T:TypeId):Strs (w.alloc (.cells #[.string (mk x)] T)) (.slice (some ⟨w.heap.size,0,none⟩) 1 1) [x]:=by
 have:=jM w [mk x] T (by simp [maxLen]);simp only [List.map_cons,List.map_nil,zj] at this;exact this
theorem CS.setRow {w wx:World} {z k:Nat} {s p u b:Bool} {hv:Value} {H:List Bs} (h:CS w z k s p u b hv H wx) (cs cs2:List Value) (T:TypeId):CS w z k s p u b hv H ((wx.alloc (.cells cs.toArray T)).setRow wx.heap.size cs2.toArray) :=
 h.below (below_setRow ((Below.refl _ _).alloc (Nat.le_refl _) _) (Nat.le_refl _) _)
theorem Qq (v:Value) (fs:List (Bs × List Bs)) (w:World) (hB:Base6 w) (hF:Frs w v fs) (hs:SQ fs):Calls Tryz.prog 18 #[v] w (WU w):=by
 obtain ⟨a,cap,rfl,h1,h2,hc⟩:=hF.open;unfold maxLen at h2;have HC:=KZ9 hc;have HS:=KZ9 hs;have HBS:=KZ9 hB;obtain ⟨z,hz⟩:=KZ6 w.heap.size;have HZ:=KZ9 hz;obtain ⟨n,hn⟩:=KZ6 fs.length;have HN:=KZ9 hn;rw [←hn] at h1 ⊢;have hst:=Qg w;rw [←hz] at hst;obtain ⟨W0,hW0⟩:=KZ6 ((w.alloc (.cells #[.bool false,.bool false,.bool false,.bool false,.slice none 0 0] 41)).alloc (.cells #[.bool true,.bool false,.bool false,.bool false,.slice none 0 0] 41));rw [←hW0] at hst;have HW0:Hid ((w.alloc (.cells #[.bool false,.bool false,.bool false,.bool false,.slice none 0 0] 41)).alloc (.cells #[.bool true,.bool false,.bool false,.bool false,.slice none 0 0] 41)=W0):=KZ9 hW0.symm;have HST:=KZ9 hst;have HOT:=KZ9 (fun (u:UrlP) (W:World) (h:Below w.heap.size w W) (ho:Uw u)=>Yw u W (hB.below h) ho.1 ho.2 (qR _));have HSP:=KZ9 (fun s W=>tA s W)
 have HPA:=KZ9 (fun (l:Bs) (W:World) (h:Below w.heap.size w W) (hl:l.length≤3000)=>by
  have:=Yc (mk l) W (hB.below h).1 (by rw [zh];omega) (qR _);rw [zj] at this;exact this)
 have HHF:=KZ9 (fun (h:HostP) (W:World) (hb:Below w.heap.size w W) (hw:yk h) (hn:h.name.length≤20000)=>ga h W (hB.below hb) hw (by omega));have HCM:=KZ9 (fun v vs W=>PA v vs W);have HUO:=KZ9 (fun l u=>@WY l u);have HU0:=KZ9 (show (za zr)=[.string ⟨#[]⟩,.string ⟨#[]⟩,.int .i64 0,.string ⟨#[]⟩,.int .u32 0,.int .u16 0,.int .u16 0,.int .u16 0,.int .u16 0,.int .u16 0,.int .u16 0,.int .u16 0,.int .u16 0,.int .i64 0,.string ⟨#[]⟩] from rfl);have HI0:=KZ9 (fun (u:UrlP) (h:yk u.host)=>zS (u:=u) h.1);have HSS:=KZ9 (fun H v base W=>PL H v base W);have HSC:=KZ9 (fun H v base W=>QL H v base W);clear hst hB hF hs hc hn hW0 hz;by_cases hbig:n=0∨16<n
 ·have HB0:=KZ9 (BlkL.new w 41 [.bool false,.bool false,.bool false,.bool false,.slice none 0 0]);rw [←HZ.out] at HB0;have HA0:=KZ9 ((Below.refl w.heap.size w).alloc (Nat.le_refl _) (.cells #[.bool false,.bool false,.bool false,.bool false,.slice none 0 0] 41));have g1:(decide ((n:Int)=0)||decide ((16:Int)<(n:Int)))=true:=by
   rcases hbig with h | h
   ·rw [KZ7 (show (n:Int)=0 by omega)];rfl
   rw [KZ7 (show (16:Int)<(n:Int) by omega)];simp
  obtain ⟨WA,hWA⟩:=KZ6 (w.alloc (.cells #[.bool false,.bool false,.bool false,.bool false,.slice none 0 0] 41));have HWA:Hid (w.alloc (.cells #[.bool false,.bool false,.bool false,.bool false,.slice none 0 0] 41)=WA):=KZ9 hWA.symm;rw [←hWA] at HB0 HA0;have b0:=HB0.out;have hfin:Calls Tryz.prog 18 #[.slice a n cap] w (WU w):=by
   rcases hbig with h | h
   ·subst h;clear g1 b0 hWA;go_enter Tryz.func18,Tryz.ntmps18
    go_wp2_with fail
    all_goals try omega
    rw [HWA.out,←HZ.out];have b0:=HB0.out;go_wp2;refine bodyPost_ret (zf rfl _ _ z 41 _ _ rfl HB0.out Tryz.underlying41 rfl wP) rfl ?_;exact ⟨.inl ⟨3,by decide,rfl⟩,HA0.out⟩
   have g2:decide ((n:Int)=0)=false:=KZ8 (by omega);have g3:decide ((16:Int)<(n:Int))=true:=KZ7 (by omega);clear g1 b0 hWA;go_enter Tryz.func18,Tryz.ntmps18
   go_wp2_with fail
   all_goals try omega
   rw [HWA.out,←HZ.out];refine bodyPost_ret (zf rfl _ _ z 41 _ _ rfl HB0.out Tryz.underlying41 rfl wP) rfl ?_;exact ⟨.inl ⟨3,by decide,rfl⟩,HA0.out⟩
  exact hfin
 have hn0:0<n:=by omega
 have g1:decide ((n:Int)=0)=false:=KZ8 (by omega);have g2:decide ((16:Int)<(n:Int))=false:=KZ8 (by omega);have hn16:n≤16:=by omega
 clear hbig;go_enter Tryz.func18,Tryz.ntmps18
 go_wp2_with fail
 all_goals try omega
 rw [HW0.out,←HZ.out];clear HW0;go_loopw [5,23] (fun tv iv wr=>∃ (k:Nat) (o s p u b:Bool) (hv:Value) (H:List Bs),tv= .bool o∧iv= .int .i64 k∧k≤n∧Hid (CS w z k s p u b hv H wr)) (fun _ iv _=>n - (intOf iv).toNat)
 case atStart=>exact ⟨0,_,_,_,_,_,_,_,rfl,rfl,by omega,HST⟩
 case round =>
  obtain ⟨k,o5,s,p,up,bl,hv,H,rfl,rfl,hk,hcs⟩:=hrel;have hbl:=hcs.out.bel;have hszr:=hcs.out.size;obtain ⟨xa0,xc0,rfl⟩:=uq hcs.out.row;by_cases hlt:k<n
  ·have hkF:k<fs.length:=by rw [←HN.out];exact hlt
   obtain ⟨b,off,rfl,hb,hcc⟩:=HC.out (by omega);obtain ⟨c0',cv,c1',hst1⟩:=hcc k hkF;have hsx:=HS.out fs[k] (List.getElem_mem hkF);obtain ⟨⟨l,vs⟩,ht⟩:∃ t,t=fs[k]:=⟨_,rfl⟩;rw [←ht] at c0' hst1 hsx;simp only at c0' hst1 hsx;have c0:=(hbl.cell (p:=⟨b,off+k*2,none⟩) (by rw [HZ.out];exact hb)).trans c0';have c1:=(hbl.cell (p:=⟨b,off+k*2+1,none⟩) (by rw [HZ.out];exact hb)).trans c1';have hop:=hst1.open;obtain ⟨a3,cap3,rfl,j1,j2,_⟩:=hop;unfold maxLen at j2;obtain ⟨m,hm⟩:=KZ6 vs.length;rw [←hm] at c1 j1 hst1;have HST1:=KZ9 hst1;have HLV:=KZ9 hsx;have HCF:=KZ9 (hcs.out.alloc (.cells #[.string (mk l),.slice a3 m cap3] 76));have HNF:=KZ9 (BlkL.new wr 76 [.string (mk l),.slice a3 m cap3]);have HPAR:=KZ9 (HPA.out l (wr.alloc (.cells #[.string (mk l),.slice a3 m cap3] 76)) (HZ.out▸HCF.out.bel) hsx.1);clear hcc c0' c1' hst1 hsx ht hm;go_wp2_with fail
   all_goals try omega
   refine HPAR.out.mono ?_;rintro e w1 ⟨⟨u1,ec,rfl,hcase⟩,hb1⟩;have hs1:=hb1.size;have HUC:=KZ9 hcase;have HC1:=KZ9 (HCF.out.below hb1);have HF1:=KZ9 (HNF.out.below (by simp) hb1);have f1:=HF1.out.c 1 _ rfl;have HUK:Hid (Uw u1):=KZ9 (by
    rcases hcase with ⟨_,h⟩ | ⟨_,rfl,_⟩
    ·exact HUO.out l u1 h HLV.out.1
    exact ⟨⟨rfl,by decide,by decide⟩,by decide,by decide,by decide,by decide,.inr ⟨0,rfl,by decide⟩⟩)
   have HN1:=KZ9 (heap_alloc_new w1 (.cells (za zr).toArray 62));have hY:=(BlkL.new w1 62 (za zr)).setRow (za u1);have hC2:=HC1.out.setRow (za zr) (za u1) 62;have hF2:=(HF1.out.alloc (.cells (za zr).toArray 62)).setRow_other (show wr.heap.size≠w1.heap.size by simp at hs1;omega) (za u1).toArray;obtain ⟨W2,hW2⟩:=KZ6 ((w1.alloc (.cells (za zr).toArray 62)).setRow w1.heap.size (za u1).toArray);rw [←hW2] at hY hC2 hF2;have hs2:W2.heap.size=w1.heap.size+1:=by rw [hW2];simp [World.setRow]
   have HW2:Hid ((w1.alloc (.cells #[.string ⟨#[]⟩,.string ⟨#[]⟩,.int .i64 0,.string ⟨#[]⟩,.int .u32 0,.int .u16 0,.int .u16 0,.int .u16 0,.int .u16 0,.int .u16 0,.int .u16 0,.int .u16 0,.int .u16 0,.int .i64 0,.string ⟨#[]⟩] 62)).setRow w1.heap.size (za u1).toArray=W2):=KZ9 hW2.symm;have HY:=KZ9 hY;have HC2:=KZ9 hC2;have f2:=hF2.c 1 _ rfl;have HI1:=KZ9 (HI0.out u1 HUK.out.1);have HSZ1:=KZ9 (show (za zr).toArray.size=(za u1).toArray.size by rw [List.size_toArray,List.size_toArray,xl HUK.out.1.1];rfl);clear hY hC2 hF2 hW2 hcase hb1 f1 HPAR hcs c0 c1;go_upto_region 9 with (refine wpList_store_row rfl 62 (.tmp 8) (.tmp 31) rfl w1.heap.size (za u1).toArray rfl rfl 62 _ HN1.out HI1.out HSZ1.out (ze (yj _)) ?_)
   all_goals try omega
   rw [HW2.out];clear HW2 HN1;by_cases hec:ec=0;rotate_left
   ·have g3:decide (ec=0)=false:=KZ8 hec;go_wp2_with (refine wpList_store_row rfl 41 (.tmp 2) (.tmp 35) rfl z #[.bool false,.bool false,.bool false,.bool false,.slice none 0 0] rfl rfl 41 _ HC2.out.c0 wP rfl (by simp [Value.oneCell']) ?_)
    all_goals try omega
    (try rw [Exit.noGoto_ret])
    refine bodyPost_ret (zf rfl _ _ z 41 _ _ rfl (HC2.out.c0.setRow [.bool false,.bool false,.bool false,.bool false,.slice none 0 0]) Tryz.underlying41 rfl wP) rfl ?_;exact ⟨.inl ⟨ec,hec,rfl⟩,HZ.out▸below_setRow HC2.out.bel (Nat.le_refl _) _⟩
   subst hec;go_wp2_with fail
   all_goals try omega
   refine (HCM.out _ vs _ (HST1.out.below (HZ.out▸HC2.out.bel)) (by have:=HLV.out.2.1;omega) HLV.out.2.2).mono ?_;rintro e w3 ⟨pb,bb,xa,xn,xc,cd,rfl,hb3⟩;have hs3:=hb3.size;have hY3:=(HY.out.below (by omega) hb3).alloc (.cells #[.bool pb,.bool bb,.slice xa xn xc] 98);have hC3:=(HC2.out.below hb3).alloc (.cells #[.bool pb,.bool bb,.slice xa xn xc] 98);have hN3:=BlkL.new w3 98 [.bool pb,.bool bb,.slice xa xn xc];obtain ⟨W4,hW4⟩:=KZ6 (w3.alloc (.cells #[.bool pb,.bool bb,.slice xa xn xc] 98));have hs4:W4.heap.size=w3.heap.size+1:=by rw [hW4];simp
   have HW4:Hid (w3.alloc (.cells #[.bool pb,.bool bb,.slice xa xn xc] 98)=W4):=KZ9 hW4.symm;rw [←hW4] at hY3 hC3 hN3;have HY3:=KZ9 hY3;have HC3:=KZ9 hC3;have HN3:=KZ9 hN3;clear hY3 hC3 hN3 hW4 hb3 HC2 HY f2;go_upto_region 12 with fail
   all_goals try omega
   rw [HW4.out];clear HW4;by_cases hcd:cd=0;rotate_left
   ·have g3:decide (cd=0)=false:=KZ8 hcd;go_wp2_with (refine wpList_store_row rfl 41 (.tmp 2) (.tmp 45) rfl z #[.bool false,.bool false,.bool false,.bool false,.slice none 0 0] rfl rfl 41 _ HC3.out.c0 wP rfl (by simp [Value.oneCell']) ?_)
    all_goals try omega
    (try rw [Exit.noGoto_ret])
    refine bodyPost_ret (zf rfl _ _ z 41 _ _ rfl (HC3.out.c0.setRow [.bool false,.bool false,.bool false,.bool false,.slice none 0 0]) Tryz.underlying41 rfl wP) rfl ?_;exact ⟨.inl ⟨cd,hcd,rfl⟩,HZ.out▸below_setRow HC3.out.bel (Nat.le_refl _) _⟩
   subst hcd;obtain ⟨sc,us,⟨kd,nm,va,v6⟩,pt,rs⟩:=u1;obtain ⟨a0,a1,a2,a3',a4,a5,a6,a7,rfl⟩:=se HUK.out.1.1;have HOT4:=KZ9 (HOT.out _ W4 (HZ.out▸HC3.out.bel) HUK.out);obtain ⟨tr,htr⟩:=KZ6 (xL ⟨sc,us,⟨kd,nm,va,[a0,a1,a2,a3',a4,a5,a6,a7]⟩,pt,rs⟩);rw [←htr] at HOT4;obtain ⟨ab,hab⟩:=KZ6 (((mk sc).toList==([97,98,111,117,116]:Bs)));have e4:=hab.symm;clear hab htr;have y0:=HY3.out.c 0 _ rfl;go_upto_if 49 with fail
   all_goals try omega
   go_cut [5] (fun v wx=>∃ o:Bool,v= .bool o∧Below W4.heap.size W4 wx)
   case first =>
    have y1:=HY3.out.c 1 _ rfl;have y2:=HY3.out.c 2 _ rfl;have y3:=HY3.out.c 3 _ rfl;have y4:=HY3.out.c 4 _ rfl;have y5:=HY3.out.c 5 _ rfl;have y6:=HY3.out.c 6 _ rfl;have y7:=HY3.out.c 7 _ rfl;have y8:=HY3.out.c 8 _ rfl;have y9:=HY3.out.c 9 _ rfl;have y10:=HY3.out.c 10 _ rfl;have y11:=HY3.out.c 11 _ rfl;have y12:=HY3.out.c 12 _ rfl;have y13:=HY3.out.c 13 _ rfl;have y14:=HY3.out.c 14 _ rfl;clear e4;cases ab
    ·go_wp2_with fail
     all_goals try omega
     refine (HSP.out _ _).mono ?_;rintro e w5 ⟨rfl,rfl⟩;obtain ⟨sp,hsp⟩:=KZ6 (decide (0<zq (un (mk sc))));rw [←hsp];clear hsp;cases sp
     ·go_wp2_with fail
      all_goals try omega
      go_meet;exact ⟨_,rfl,Below.refl _ _⟩
     go_wp2_with fail
     all_goals try omega
     refine HOT4.out.mono ?_;rintro e w5 ⟨rfl,hb5⟩;go_wp2_with fail
     all_goals try omega
     go_meet;exact ⟨_,rfl,hb5⟩
    go_wp2_with fail
    all_goals try omega
    go_meet;exact ⟨_,rfl,Below.refl _ _⟩
   obtain ⟨o,rfl,hb5⟩:=hcut;obtain ⟨UL,hUL⟩:=KZ6 (za ⟨sc,us,⟨kd,nm,va,[a0,a1,a2,a3',a4,a5,a6,a7]⟩,pt,rs⟩);have HUL:=KZ9 hUL;rw [←hUL] at HY3;have HALL:=KZ9 (And.intro (HC3.out.below hb5) (And.intro (HY3.out.below (by omega) hb5) (HN3.out.below (by omega) hb5)));have HSZ9:=KZ9 (show z+2≤w1.heap.size∧w1.heap.size<w3.heap.size by have:=HC1.out.size;omega);clear hb5 hUL y0 HC3 HY3 HN3 e4 HOT4;go_upto_region 16 with fail
   all_goals try omega
   go_cut [] (fun wx=>∃ v:Bool,CS w z k v p up bl (.slice xa0 H.length xc0) H wx∧BlkL wx w1.heap.size 62 UL∧BlkL wx w3.heap.size 98 [.bool pb,.bool bb,.slice xa xn xc])
   case first =>
    obtain ⟨hC,hY,hN⟩:=HALL.out;have HC9:=KZ9 hC;have HY9:=KZ9 hY;have HN9:=KZ9 hN;have d0:=hC.c1.c 0 _ rfl;have d1:=hC.c1.f 0;have d2:=hN.c 0 _ rfl;have d3:=hN.c 1 _ rfl;have hsz9:=HSZ9.out;clear hC hY hN HALL;cases s<;>cases o <;>
    ·go_wp2
     all_goals try omega
     go_meet;exact ⟨_,HC9.out.set0 _,HY9.out.other (by omega) _ _,HN9.out.other (by omega) _ _⟩
   clear HALL;obtain ⟨v0,hall⟩:=hcut;have HALL:=KZ9 hall;clear hall
   rename World=>wd0
   go_upto_region 17 with fail
   all_goals try omega
   go_cut [] (fun wx=>∃ v:Bool,CS w z k v0 v up bl (.slice xa0 H.length xc0) H wx∧BlkL wx w1.heap.size 62 UL∧BlkL wx w3.heap.size 98 [.bool pb,.bool bb,.slice xa xn xc])
   case first =>
    obtain ⟨hC,hY,hN⟩:=HALL.out;have HC9:=KZ9 hC;have HY9:=KZ9 hY;have HN9:=KZ9 hN;have d0:=hC.c1.c 1 _ rfl;have d1:=hC.c1.f 1;have d2:=hN.c 0 _ rfl;have d3:=hN.c 1 _ rfl;have hsz9:=HSZ9.out;clear hC hY hN HALL;cases p<;>cases o <;>
    ·go_wp2
     all_goals try omega
     go_meet;exact ⟨_,HC9.out.set1 _,HY9.out.other (by omega) _ _,HN9.out.other (by omega) _ _⟩
   clear HALL;obtain ⟨v1,hall⟩:=hcut;have HALL:=KZ9 hall;clear hall
   rename World=>wd1
   go_upto_region 18 with fail
   all_goals try omega
   go_cut [] (fun wx=>∃ v:Bool,CS w z k v0 v1 v bl (.slice xa0 H.length xc0) H wx∧BlkL wx w1.heap.size 62 UL∧BlkL wx w3.heap.size 98 [.bool pb,.bool bb,.slice xa xn xc])
   case first =>
    obtain ⟨hC,hY,hN⟩:=HALL.out;have HC9:=KZ9 hC;have HY9:=KZ9 hY;have HN9:=KZ9 hN;have d0:=hC.c1.c 2 _ rfl;have d1:=hC.c1.f 2;have d2:=hN.c 0 _ rfl;have d3:=hN.c 1 _ rfl;have hsz9:=HSZ9.out;clear hC hY hN HALL;cases up<;>cases pb <;>
    ·go_wp2
     all_goals try omega
     go_meet;exact ⟨_,HC9.out.set2 _,HY9.out.other (by omega) _ _,HN9.out.other (by omega) _ _⟩
   clear HALL;obtain ⟨v2,hall⟩:=hcut;have HALL:=KZ9 hall;clear hall
   rename World=>wd2
   go_upto_region 19 with fail
   all_goals try omega
   go_cut [] (fun wx=>∃ v:Bool,CS w z k v0 v1 v2 v (.slice xa0 H.length xc0) H wx∧BlkL wx w1.heap.size 62 UL∧BlkL wx w3.heap.size 98 [.bool pb,.bool bb,.slice xa xn xc])
   case first =>
    obtain ⟨hC,hY,hN⟩:=HALL.out;have HC9:=KZ9 hC;have HY9:=KZ9 hY;have HN9:=KZ9 hN;have d0:=hC.c1.c 3 _ rfl;have d1:=hC.c1.f 3;have d2:=hN.c 0 _ rfl;have d3:=hN.c 1 _ rfl;have hsz9:=HSZ9.out;clear hC hY hN HALL;cases bl<;>cases bb <;>
    ·go_wp2
     all_goals try omega
     go_meet;exact ⟨_,HC9.out.set3 _,HY9.out.other (by omega) _ _,HN9.out.other (by omega) _ _⟩
   clear HALL;obtain ⟨v3,hall⟩:=hcut;have HALL:=KZ9 hall;clear hall
   rename World=>wd3
   obtain ⟨hC,hY,hN⟩:=HALL.out;have HC9:=KZ9 hC;have n0:=hN.c 0 _ rfl;have HY9:=KZ9 (HUL.out▸hY);have y0:=HY9.out.c 0 _ rfl;clear hC hY hN HALL HSZ9;cases pb
   ·go_wp2
    all_goals try omega
    go_roundw
    case rel=>exact ⟨k+1,_,_,_,_,_,_,_,rfl,by go_num,by omega,KZ9 HC9.out.more⟩
    case measure=>simp [intOf];omega
   go_wp2_with fail
   all_goals try omega
   refine (HSP.out _ _).mono ?_;rintro e w5 ⟨rfl,rfl⟩;obtain ⟨sp,hsp⟩:=KZ6 (decide (0<zq (un (mk sc))));rw [←hsp];clear hsp;cases sp
   ·go_wp2
    all_goals try omega
    go_roundw
    case rel=>exact ⟨k+1,_,_,_,_,_,_,_,rfl,by go_num,by omega,KZ9 HC9.out.more⟩
    case measure=>simp [intOf];omega
   go_upto_region 21 with fail
   all_goals try omega
   obtain ⟨hh,hhh⟩:∃ hh:HostP,hh=⟨kd,nm,va,[a0,a1,a2,a3',a4,a5,a6,a7]⟩:=⟨_,rfl⟩;have hhf:=HHF.out ⟨kd,nm,va,[a0,a1,a2,a3',a4,a5,a6,a7]⟩ wd3.drew (HZ.out▸HC9.out.drew.bel) HUK.out.1 HUK.out.2.2.2.1;obtain ⟨ht,hht⟩:=KZ6 (yd ⟨kd,nm,va,[a0,a1,a2,a3',a4,a5,a6,a7]⟩);rw [←hht] at hhf;have HFM:=KZ9 hhf;have y2:=HY9.out.c 2 _ rfl;have y3:=HY9.out.c 3 _ rfl;have y4:=HY9.out.c 4 _ rfl;have y5:=HY9.out.c 5 _ rfl;have y6:=HY9.out.c 6 _ rfl;have y7:=HY9.out.c 7 _ rfl;have y8:=HY9.out.c 8 _ rfl;have y9:=HY9.out.c 9 _ rfl;have y10:=HY9.out.c 10 _ rfl;have y11:=HY9.out.c 11 _ rfl;have y12:=HY9.out.c 12 _ rfl;have k4:=HC9.out.c1.c 4 _ rfl;have m4:=HC9.out.c1.f 4;clear hhf hht hhh hh y0 n0;have HFQ:=KZ9 True.intro
   go_region_law (first | (refine py (by rfl) _ _ (by rfl) (z+2) (.slice xa0 H.length xc0) H.length (zy H) (by rfl) (hCq.alloc _).row _ (by rfl) [ht] (SP _ _ _) (by have:=hCq.len;simp;omega) (by have:=(hCq.alloc (.cells #[.string (mk ht)] 9)).size;exact this) ?_;intro vA wA hA gA;obtain ⟨a',c',rfl⟩:=uq hA;have hB':=(hCq.alloc _).c1.grown gA (hCq.ne (by omega));have uu:=hB'.c 4 _ rfl;have tt:=hB'.f 4;have HAPP:=KZ9 ((hCq.alloc _).app hA gA);clear hA gA hB') | (have _hf:=HFQ.out;clear HFQ;go_simp;go_at_call 49;refine HFM.out.mono ?_;rintro e wq ⟨rfl,hbq⟩;have hCq:=HC9.out.drew.below hbq;have kq:=hCq.c1.c 4 _ rfl;have mq:=hCq.c1.f 4;have kz:=fun o=>(hCq.alloc o).c1.c 4 _ rfl;have mz:=fun o=>(hCq.alloc o).c1.f 4;clear hbq))
   all_goals
    go_wp2
    all_goals try omega
    go_roundw
    case rel=>exact ⟨k+1,_,_,_,_,_,_,_,rfl,by go_num,by omega,KZ9 HAPP.out⟩
    case measure=>simp [intOf];omega
  have HCSH:=KZ9 hcs.out;have k4:=hcs.out.c1.c 4 _ rfl;have HOW:=KZ9 hcs.out.row;have hHn:H.length≤16:=by have:=hcs.out.len;omega
  clear HST HOT HSP HPA HHF HCM HUO HU0 HI0 HC HS HBS hcs hbl;go_wp2_with fail
  all_goals try omega
  refine (HSS.out H _ (z+2) wr HOW.out hszr (by omega)).mono ?_;rintro e w6 ⟨rfl,H',hlH,ho6,hb6⟩;have HO6:=KZ9 ho6;have c16:=HCSH.out.c1.below (by omega) hb6;have HC6:=KZ9 c16;have HZ6:=KZ9 (HCSH.out.c0.below (by omega) hb6);have HA6:=KZ9 (HCSH.out.bel.trans (hb6.mono (by omega)));have hs6:=hb6.size;have k5:=c16.c 4 _ rfl;clear ho6 c16 hb6 k4 HCSH HOW;go_wp2_with fail
  all_goals try omega
  refine (HSC.out H' _ (z+2) w6 HO6.out (by omega) (by omega)).mono ?_;rintro e w7 ⟨v',H2,rfl,hS,hb7⟩;have hs7:=hb7.size;have c17:=HC6.out.below (by omega) hb7;have hvc:=c17.set 4 (by simp) v';have hz7:=(HZ6.out.below (by omega) hb7).other (show z≠z+1 by omega) 4 v';have HA7:=KZ9 ((HA6.out.trans (hb7.mono (by omega))).trans (zW w7 (z+1) 4 v' (show z≤z+1 by omega)));have m4:=c17.f 4;have k4:=c17.c 4 _ rfl;obtain ⟨a9,n9,c9,rfl⟩:=hS.2;have HS7:=KZ9 hS.1;obtain ⟨W8,hW8⟩:=KZ6 (w7.setCell ⟨z+1,4,none⟩ (.slice a9 n9 c9));have HW8:Hid (w7.setCell ⟨z+1,4,none⟩ (.slice a9 n9 c9)=W8):=KZ9 hW8.symm;rw [←hW8] at hvc hz7 HA7;have hS8:Strs W8 (.slice a9 n9 c9) H2∧∀ w'',(∀ j,z+2≤j→w''.heap[j]? =W8.heap[j]?)→w''.heap.size=W8.heap.size→Strs w'' (.slice a9 n9 c9) H2:=by
   have hh:∀ j,z+2≤j→W8.heap[j]? =w7.heap[j]? :=fun j hj=>by rw [hW8];exact Below.heap_setCell w7 ⟨z+1,4,none⟩ _ j (by simp;omega)
   have hz:W8.heap.size=w7.heap.size:=by rw [hW8];simp
   exact ⟨HS7.out _ hh hz,fun w'' h1 h2=>HS7.out _ (fun j hj=>(h1 j hj).trans (hh j hj)) (h2.trans hz)⟩
  have HS8:=KZ9 hS8.2;have HC8:=KZ9 hvc;have HZ8:=KZ9 hz7;clear hS hS8 hb7 hW8 HS7 hvc hz7 c17 k5 HC6 HZ6 HA6 HO6;go_upto_region 25 with fail
  all_goals try omega
  rw [HW8.out];clear HW8 k4 m4;go_wp2_with (first
   | refine wpList_load_row rfl 41 (.tmp 4) rfl (z+1) rfl 41 _ _ _ HC8.out Tryz.underlying41 rfl wP ?_
   | refine wpList_store_row rfl 41 (.tmp 2) (.tmp 106) rfl z (ya ⟨s,p,up,bl,H2⟩ (.slice a9 n9 c9)).toArray rfl rfl 41 _ HZ8.out wP rfl (by simp [ya,Value.oneCell']) ?_)
  all_goals try omega
  refine bodyPost_ret (zf rfl _ _ z 41 _ _ rfl (HZ8.out.setRow (ya ⟨s,p,up,bl,H2⟩ (.slice a9 n9 c9))) Tryz.underlying41 rfl wP) rfl ?_;refine ⟨.inr ⟨⟨s,p,up,bl,H2⟩,_,rfl,HS8.out _ (fun j hj=>setRow_other W8 z j _ (by omega)) (by simp [World.setRow])⟩,HZ.out▸below_setRow HA7.out (Nat.le_refl _) _⟩
theorem Tq {l:Bs} {u:UrlP} (h:uA l=some u) (hl:l.length≤1500):Uw (zH u):=by
 obtain ⟨hc,hn⟩:=js h;have h3:=Uj hc;have h2:=pp h3;have h4:=WZ u;exact ⟨gw h3,by omega,by omega,by omega,by omega,WK h3⟩
theorem U5 {u:UrlP} (h:CanU u) (hl:(u.scheme.length+u.user.length)+u.rest.length≤1700):(yt u).length≤100000:=by
 rw [gx h];have:=Y9 h;omega
set_option maxRecDepth 100000
set_option maxHeartbeats 16000000
theorem TC (d:Int) (w:World):Calls Tryz.prog 20 #[.int .i64 d] w fun e w'=>e= .returned (.bool (wz d))∧w=w':=by
 by_cases h1:1≤d
 ·have g1:decide (1≤d)=true:=KZ7 h1;have hdef:wz d=decide (d≤22):=by unfold wz;simp [h1]
  have HD:=KZ9 hdef;clear hdef;go_enter Tryz.func20,Tryz.ntmps20
  go_wp2
  all_goals try omega
  go_ret;rw [HD.out];exact ⟨by first | rfl | (congr 2;simp),rfl⟩
 have g1:decide (1≤d)=false:=KZ8 h1;have hdef:wz d=false:=by unfold wz;simp [h1]
 have HD:=KZ9 hdef;clear hdef;go_enter Tryz.func20,Tryz.ntmps20
 go_wp2
 all_goals try omega
 go_ret;rw [HD.out];exact ⟨rfl,rfl⟩
theorem Ji (sc us rs nm:Bs) (kd va x0 x1 x2 x3 x4 x5 x6 x7:Nat) (pt:Int) (l:Bs) (d now:Int) (img:Bool) (cs cp cu cb:Bool) (hos:List Bs) (hv:Value) (q q2:Option Addr) (T:List PinP) (L:List EntP) (g0 gc g1:Nat) (w0 w:World) {u0 u1 u3 u4 u5 u7 u8 u9 aa ab ac ad ae af ag ah ai aj ak al am an ao ap aq ar au av aw ax ay az aA aB aC aD aE aF aG aH aI aJ aK aL aM aN aO aP aQ aR aS aT aU aV aW aX aY aZ ba bb bd be bf bg bh bi bj bk bl bm bn bo bp bq br bs bt bu bv bw bx bz bA bB bC bD bE bF bG bH bI bJ bK bL bM bN bO bP bQ bR bS bT bU bV bW bX bY bZ ca cc cd ce cf cg ch ci cj ck cl cm cn co cq cr ct cv cw cx cy cz cA cB cC cD cE cF cG cH cI cJ cK cL cM cN cO cP cQ cR cS cT cU cV cW cX cY cZ da db dc dd de df dg dh di dj dk dl dm dn dp dq dr ds dt du dv dw dx dy dz dA dB dC dD dE dF dG dH dI dJ dK dL dM dN dO dP dQ dR dS:Value} (hl:l.length≤1500) (hu:uA l=some ⟨sc,us,⟨kd,nm,va,[x0,x1,x2,x3,x4,x5,x6,x7]⟩,pt,rs⟩) (hB:Base6 w0) (hA:Below w0.heap.size w0 w) (ht:TL w q q2 T L) (hS:Strs w hv hos) (b0:BlkL w g0 38 (ub l d img)) (bc:BlkL w gc 41 (ya ⟨cs,cp,cu,cb,hos⟩ hv)) (b1:BlkL w g1 62 (za ⟨sc,us,⟨kd,nm,va,[x0,x1,x2,x3,x4,x5,x6,x7]⟩,pt,rs⟩)) :
  Code.wp Tryz.prog (wh 7 gy) (bodyPost Tryz.prog Tryz.f5 (jl w0)) ⟨#[u0,u1,.int .i64 now,u3,u4,u5,.pointer (some ⟨g0,0,none⟩),u7,u8,u9,aa,.pointer q,ab,.pointer q2,ac,.pointer (some ⟨gc,0,none⟩),ad,.pointer (some ⟨g1,0,none⟩),ae,af,ag,ah,ai,aj,ak,al,am,an,ao,ap,aq,ar,au,av,aw,ax,ay,az,aA,aB,aC,aD,aE,aF,aG,aH,aI,aJ,aK,aL,aM,aN,aO,aP,aQ,aR,aS,aT,aU,aV,aW,aX,aY,aZ,ba,bb,bd,be,bf,bg,bh,bi,bj,bk,bl,bm,bn,bo,bp,bq,br,bs,bt,bu,bv,bw,bx,bz,bA,bB,bC,bD,bE,bF,bG,bH,bI,bJ,bK,bL,bM,bN,bO,bP,bQ,bR,bS,bT,bU,bV,bW,bX,bY,bZ,ca,cc,cd,ce,cf,cg,ch,ci,cj,ck,cl,cm,cn,co,cq,cr,ct,cv,cw,cx,cy,cz,cA,cB,cC,cD,cE,cF,cG,cH,cI,cJ,cK,cL,cM,cN,cO,cP,cQ,cR,cS,cT,cU,cV,cW,cX,cY,cZ,da,db,dc,dd,de,df,dg,dh,di,dj,dk,dl,dm,dn,dp,dq,dr,ds,dt,du,dv,dw,dx,dy,dz,dA,dB,dC,dD,dE,dF,dG,dH,dI,dJ,dK,dL,dM,dN,dO,dP,dQ,dR,dS],[]⟩ w:=by
 conv=>arg 2;whnf
 have HOK:=KZ9 (WY hu (by omega));have HUP:=KZ9 (Tq hu hl);obtain ⟨hcan,hlen⟩:=js hu;have hag:=Ud hu hl;have hul:=WZ ⟨sc,us,⟨kd,nm,va,[x0,x1,x2,x3,x4,x5,x6,x7]⟩,pt,rs⟩;have hval:=ZW hcan;have hm:=pN l d img ⟨cs,cp,cu,cb,hos⟩ hv now q q2 T L ⟨sc,us,⟨kd,nm,va,[x0,x1,x2,x3,x4,x5,x6,x7]⟩,pt,rs⟩ w (hB.below hA) (by omega) (qR _) hu HOK.out.1 HOK.out.2 (qR _) HUP.out.1 HUP.out.2 (qR _) hS hval ht;have hfl1:=U5 hcan (by omega);have hfl2:=U5 (Uj hcan) (by omega);have hru:=Vk ⟨sc,us,⟨kd,nm,va,[x0,x1,x2,x3,x4,x5,x6,x7]⟩,pt,rs⟩ d img ⟨cs,cp,cu,cb,hos⟩ (rJ now T L (⟨sc,us,⟨kd,nm,va,[x0,x1,x2,x3,x4,x5,x6,x7]⟩,pt,rs⟩:UrlP).host)
 obtain ⟨RV,hRV⟩:=KZ6 (vh ⟨sc,us,⟨kd,nm,va,[x0,x1,x2,x3,x4,x5,x6,x7]⟩,pt,rs⟩ d img ⟨cs,cp,cu,cb,hos⟩ (rJ now T L (⟨sc,us,⟨kd,nm,va,[x0,x1,x2,x3,x4,x5,x6,x7]⟩,pt,rs⟩:UrlP).host));rw [←hRV] at hru hm;have HRU:=KZ9 hru;have HAG:=KZ9 hag;have HFL1:=KZ9 hfl1;have HFL2:=KZ9 hfl2;have HB:=KZ9 hB;have HA:=KZ9 hA;have HAW:=KZ9 (fun W (h:Below w0.heap.size w0 W)=>tQ W (hB.below h));have HTR:=KZ9 (fun W=>TD ⟨sc,us,⟨kd,nm,va,[x0,x1,x2,x3,x4,x5,x6,x7]⟩,pt,rs⟩ W HOK.out.1 HOK.out.2);have HV27:=KZ9 (fun W=>TC d W);have B0:=KZ9 b0;have B1:=KZ9 b1;obtain ⟨r0,r1,r2⟩:=BlkL.cs3 b0;obtain ⟨s0,s1,s2,s3,s4⟩:=BlkL.cs5 bc;have hSo:=hS.open;obtain ⟨ha1,hc1,rfl,_,_,_⟩:=hSo;obtain ⟨hon,hhon⟩:=KZ6 hos.length;rw [←hhon] at s4 hm;clear hu hl hB hA ht hS b0 bc b1 hcan hlen hag hul hval hfl1 hfl2 hru hRV hhon;apply wp_seq_k;intro K1 hK1
 have HK1:=KZ9 hK1;clear hK1;by_cases hvd:wz d=true;rotate_left
 ·rw [if_neg hvd,if_neg hvd] at hm;have HM:=KZ9 hm;have HVF:=KZ9 (show wz d=false by simpa using hvd);rw [HVF.out] at HV27;clear hm hvd HRU;go_wp2_with fail
  all_goals try omega
  refine HM.out.mono ?_;rintro e w1 ⟨rfl,hb1⟩;have hs1:=hb1.size;have HI3:=KZ9 yr;have hY:=(BlkL.new w1 34 (zm wi)).setRow (zm wi);have l1:=B1.out.lt;have hd1:=((B1.out.below l1 hb1).alloc (.cells (zm wi).toArray 34)).setRow_other (show g1≠w1.heap.size by omega) (zm wi).toArray;have l0:=B0.out.lt;have hd0:=((B0.out.below l0 hb1).alloc (.cells (zm wi).toArray 34)).setRow_other (show g0≠w1.heap.size by omega) (zm wi).toArray;have hsz0:=HA.out.size;have hA2:=below_setRow ((HA.out.trans (hb1.mono hsz0)).alloc (by omega) (.cells (zm wi).toArray 34)) (show w0.heap.size≤w1.heap.size by omega) (zm wi).toArray;obtain ⟨W2,hW2⟩:=KZ6 ((w1.alloc (.cells (zm wi).toArray 34)).setRow w1.heap.size (zm wi).toArray);rw [←hW2] at hY hd1 hd0 hA2;have HW2:Hid ((w1.alloc (.cells #[.int .i64 0,.int .i64 0,.string ⟨#[]⟩] 34)).setRow w1.heap.size (zm wi).toArray=W2):=KZ9 hW2.symm
  have HN1:=KZ9 (heap_alloc_new w1 (.cells (zm wi).toArray 34));have HB0:=KZ9 hd0;have HB1:=KZ9 hd1;have HB2:=KZ9 hY;have HA3:=KZ9 hA2;clear hY hd1 hd0 hA2 hb1 hW2 B1 B0 HA HM r0 r1 r2 s0 s1 s2 s3 s4;go_wp2_with (refine wpList_store_row rfl 34 (.tmp 19) (.tmp 88) rfl w1.heap.size (zm wi).toArray rfl rfl 34 _ HN1.out HI3.out rfl (ze (sy _)) ?_)
  all_goals try omega
  apply HK1.out;clear HK1;rw [HW2.out];clear HW2 HN1 HI3;apply wp_seq_k;intro K2 hK2;have HK2:=KZ9 hK2;clear hK2;have c1:=HB0.out.c 1 _ rfl;go_wp2_with fail
  all_goals try omega
  refine (HV27.out _).mono ?_;rintro e w2 ⟨rfl,rfl⟩;go_wp2_with fail
  all_goals try omega
  refine (HAW.out _ HA3.out).mono ?_;rintro e w7 ⟨rfl,hb7⟩;have HA7:=KZ9 (HA3.out.trans (hb7.mono HA3.out.size));clear hb7 HA3;go_wp2
  all_goals try omega
  go_ret;exact ⟨rfl,HA7.out⟩
 rw [if_pos hvd,if_pos hvd] at hm;clear hvd HV27;rcases HRU.out with ⟨h80,r,rfl⟩ | ⟨r,rfl⟩ | ⟨htf,rfl⟩
 ·have HM:=KZ9 hm;have HUK:=KZ9 (SI (u:=⟨sc,us,⟨kd,nm,va,[x0,x1,x2,x3,x4,x5,x6,x7]⟩,pt,rs⟩) h80);have H80:=KZ9 h80;clear hm HRU h80;obtain ⟨vv,hvv⟩:=KZ6 (zH ⟨sc,us,⟨kd,nm,va,[x0,x1,x2,x3,x4,x5,x6,x7]⟩,pt,rs⟩);rw [←hvv] at HM HUK HAG HFL2 HUP;clear hvv;obtain ⟨sc2,us2,h2,pt2,rs2⟩:=vv;obtain ⟨e1,e2,e3,H443,HPP⟩:=HUK.out;simp only at e1 e2 e3 H443 HPP;subst e1 e2 e3;have H443':=KZ9 H443;have HPP':=KZ9 HPP;clear HUK H443 HPP;obtain ⟨fu,hfu⟩:=KZ6 (yt ⟨sc2,us2,⟨kd,nm,va,[x0,x1,x2,x3,x4,x5,x6,x7]⟩,pt2,rs2⟩);rw [←hfu] at HM HAG HFL2;clear hfu;go_wp2_with fail
  all_goals try omega
  refine HM.out.mono ?_;rintro e w1 ⟨rfl,hb1⟩;have hs1:=hb1.size;have HI3:=KZ9 yr;have hY:=(BlkL.new w1 34 (zm wi)).setRow (zm ⟨2,r,fu⟩);have l1:=B1.out.lt;have hd1:=((B1.out.below l1 hb1).alloc (.cells (zm wi).toArray 34)).setRow_other (show g1≠w1.heap.size by omega) (zm ⟨2,r,fu⟩).toArray;have l0:=B0.out.lt;have hd0:=((B0.out.below l0 hb1).alloc (.cells (zm wi).toArray 34)).setRow_other (show g0≠w1.heap.size by omega) (zm ⟨2,r,fu⟩).toArray;have hsz0:=HA.out.size;have hA2:=below_setRow ((HA.out.trans (hb1.mono hsz0)).alloc (by omega) (.cells (zm wi).toArray 34)) (show w0.heap.size≤w1.heap.size by omega) (zm ⟨2,r,fu⟩).toArray;obtain ⟨W2,hW2⟩:=KZ6 ((w1.alloc (.cells (zm wi).toArray 34)).setRow w1.heap.size (zm ⟨2,r,fu⟩).toArray);rw [←hW2] at hY hd1 hd0 hA2
  have HW2:Hid ((w1.alloc (.cells #[.int .i64 0,.int .i64 0,.string ⟨#[]⟩] 34)).setRow w1.heap.size (zm ⟨2,r,fu⟩).toArray=W2):=KZ9 hW2.symm;have HN1:=KZ9 (heap_alloc_new w1 (.cells (zm wi).toArray 34));have HB0:=KZ9 hd0;have HB1:=KZ9 hd1;have HB2:=KZ9 hY;have HA3:=KZ9 hA2;clear hY hd1 hd0 hA2 hb1 hW2 B1 B0 HA HM r0 r1 r2 s0 s1 s2 s3 s4;go_wp2_with (refine wpList_store_row rfl 34 (.tmp 19) (.tmp 88) rfl w1.heap.size (zm ⟨2,r,fu⟩).toArray rfl rfl 34 _ HN1.out HI3.out rfl (ze (sy _)) ?_)
  all_goals try omega
  apply HK1.out;clear HK1;rw [HW2.out];clear HW2 HN1 HI3;apply wp_seq_k;intro K2 hK2;have HK2:=KZ9 hK2;clear hK2;go_wp2_with fail
  all_goals try omega
  apply HK2.out;clear HK2;apply wp_seq_k;intro K3 hK3;have HK3:=KZ9 hK3;clear hK3;have c0:=HB2.out.c 0 _ rfl;go_wp2_with fail
  all_goals try omega
  apply HK3.out;exact Rs _ _ _ _ _ _ _ _ _ _ _ _ _ _ _ _ _ _ _ _ _ _ _ _ HOK.out.1 HB.out HA3.out HB1.out HB2.out HFL2.out HAG.out.2 (.inr ⟨rfl,H80.out,H443'.out,HPP'.out⟩)
 ·have HM:=KZ9 hm;clear hm HRU;obtain ⟨fu,hfu⟩:=KZ6 (yt ⟨sc,us,⟨kd,nm,va,[x0,x1,x2,x3,x4,x5,x6,x7]⟩,pt,rs⟩);rw [←hfu] at HM HAG HFL1;clear hfu;go_wp2_with fail
  all_goals try omega
  refine HM.out.mono ?_;rintro e w1 ⟨rfl,hb1⟩;have hs1:=hb1.size;have HI3:=KZ9 yr;have hY:=(BlkL.new w1 34 (zm wi)).setRow (zm ⟨1,r,fu⟩);have l1:=B1.out.lt;have hd1:=((B1.out.below l1 hb1).alloc (.cells (zm wi).toArray 34)).setRow_other (show g1≠w1.heap.size by omega) (zm ⟨1,r,fu⟩).toArray;have l0:=B0.out.lt;have hd0:=((B0.out.below l0 hb1).alloc (.cells (zm wi).toArray 34)).setRow_other (show g0≠w1.heap.size by omega) (zm ⟨1,r,fu⟩).toArray;have hsz0:=HA.out.size;have hA2:=below_setRow ((HA.out.trans (hb1.mono hsz0)).alloc (by omega) (.cells (zm wi).toArray 34)) (show w0.heap.size≤w1.heap.size by omega) (zm ⟨1,r,fu⟩).toArray;obtain ⟨W2,hW2⟩:=KZ6 ((w1.alloc (.cells (zm wi).toArray 34)).setRow w1.heap.size (zm ⟨1,r,fu⟩).toArray);rw [←hW2] at hY hd1 hd0 hA2
  have HW2:Hid ((w1.alloc (.cells #[.int .i64 0,.int .i64 0,.string ⟨#[]⟩] 34)).setRow w1.heap.size (zm ⟨1,r,fu⟩).toArray=W2):=KZ9 hW2.symm;have HN1:=KZ9 (heap_alloc_new w1 (.cells (zm wi).toArray 34));have HB0:=KZ9 hd0;have HB1:=KZ9 hd1;have HB2:=KZ9 hY;have HA3:=KZ9 hA2;clear hY hd1 hd0 hA2 hb1 hW2 B1 B0 HA HM r0 r1 r2 s0 s1 s2 s3 s4;go_wp2_with (refine wpList_store_row rfl 34 (.tmp 19) (.tmp 88) rfl w1.heap.size (zm ⟨1,r,fu⟩).toArray rfl rfl 34 _ HN1.out HI3.out rfl (ze (sy _)) ?_)
  all_goals try omega
  apply HK1.out;clear HK1;rw [HW2.out];clear HW2 HN1 HI3;apply wp_seq_k;intro K2 hK2;have HK2:=KZ9 hK2;clear hK2;go_wp2_with fail
  all_goals try omega
  apply HK2.out;clear HK2;apply wp_seq_k;intro K3 hK3;have HK3:=KZ9 hK3;clear hK3;have c0:=HB2.out.c 0 _ rfl;go_wp2_with fail
  all_goals try omega
  apply HK3.out;exact Rs _ _ _ _ _ _ _ _ _ _ _ _ _ _ _ _ _ _ _ _ _ _ _ _ HOK.out.1 HB.out HA3.out HB1.out HB2.out HFL1.out HAG.out.1 (.inl ⟨rfl,rfl,rfl⟩)
 have HM:=KZ9 hm;rw [htf] at HTR;clear hm HRU htf;go_wp2_with fail
 all_goals try omega
 refine HM.out.mono ?_;rintro e w1 ⟨rfl,hb1⟩;have hs1:=hb1.size;have HI3:=KZ9 yr;have hY:=(BlkL.new w1 34 (zm wi)).setRow (zm ⟨3,5,[]⟩);have l1:=B1.out.lt;have hd1:=((B1.out.below l1 hb1).alloc (.cells (zm wi).toArray 34)).setRow_other (show g1≠w1.heap.size by omega) (zm ⟨3,5,[]⟩).toArray;have l0:=B0.out.lt;have hd0:=((B0.out.below l0 hb1).alloc (.cells (zm wi).toArray 34)).setRow_other (show g0≠w1.heap.size by omega) (zm ⟨3,5,[]⟩).toArray;have hsz0:=HA.out.size;have hA2:=below_setRow ((HA.out.trans (hb1.mono hsz0)).alloc (by omega) (.cells (zm wi).toArray 34)) (show w0.heap.size≤w1.heap.size by omega) (zm ⟨3,5,[]⟩).toArray;obtain ⟨W2,hW2⟩:=KZ6 ((w1.alloc (.cells (zm wi).toArray 34)).setRow w1.heap.size (zm ⟨3,5,[]⟩).toArray);rw [←hW2] at hY hd1 hd0 hA2
 have HW2:Hid ((w1.alloc (.cells #[.int .i64 0,.int .i64 0,.string ⟨#[]⟩] 34)).setRow w1.heap.size (zm ⟨3,5,[]⟩).toArray=W2):=KZ9 hW2.symm;have HN1:=KZ9 (heap_alloc_new w1 (.cells (zm wi).toArray 34));have HB0:=KZ9 hd0;have HB1:=KZ9 hd1;have HB2:=KZ9 hY;have HA3:=KZ9 hA2;clear hY hd1 hd0 hA2 hb1 hW2 B1 B0 HA HM r0 r1 r2 s0 s1 s2 s3 s4;go_wp2_with (refine wpList_store_row rfl 34 (.tmp 19) (.tmp 88) rfl w1.heap.size (zm ⟨3,5,[]⟩).toArray rfl rfl 34 _ HN1.out HI3.out rfl (ze (sy _)) ?_)
 all_goals try omega
 apply HK1.out;clear HK1;rw [HW2.out];clear HW2 HN1 HI3;apply wp_seq_k;intro K2 hK2;have HK2:=KZ9 hK2;clear hK2;go_wp2_with fail
 all_goals try omega
 apply HK2.out;clear HK2;apply wp_seq_k;intro K3 hK3;have HK3:=KZ9 hK3;clear hK3;have c0:=HB2.out.c 0 _ rfl;have e1:((mk ([]:Bs)).toList==([]:Bs))=true:=by rw [toList_mk'];rfl
 have c2:=HB2.out.c 2 _ rfl;have d1:=HB1.out;obtain ⟨q0,q1,q2,q3,q4,q5,q6,q7,q8,q9,q10,q11,q12,q13,q14⟩:=BlkL.cs15 d1;clear d1;go_wp2_with fail
 all_goals try omega
 refine (HTR.out _).mono ?_;rintro e w4 ⟨rfl,hb4⟩;have HA4:=KZ9 (HA3.out.trans (hb4.mono HA3.out.size));clear hb4 HA3 c0 c2 q0 q1 q2 q3 q4 q5 q6 q7 q8 q9 q10 q11 q12 q13 q14;go_wp2_with fail
 all_goals try omega
 refine (HAW.out _ HA4.out).mono ?_;rintro e w7 ⟨rfl,hb7⟩;have HA7:=KZ9 (HA4.out.trans (hb7.mono HA4.out.size));clear hb7 HA4;go_wp2
 all_goals try omega
 go_ret;exact ⟨rfl,HA7.out⟩
theorem QV (w:World):Calls Tryz.prog 9 #[.int .i64 1000] w fun e w'=>e= .returned (.tuple #[.pointer (some ⟨w.heap.size,0,none⟩),.int .i64 0])∧w'=w.alloc (.cells #[.slice none 0 0,.int .i64 1000] 78):=by
 go_enter Tryz.func9,Tryz.ntmps9
 go_wp2
 all_goals try omega
 go_ret2;exact ⟨rfl,rfl⟩
theorem Q7 (l:List PinP):∀ v∈pcs l,v.oneCell'=true:=by
 intro v hv;unfold pcs at hv;obtain ⟨p,_,hp⟩:=List.mem_flatMap.1 hv;exact ky p v hp
theorem pK {w:World} {base:Nat} {e:TypeId} {size n:Nat} {v:Value} {xs:List Value} (h:w.ownsRow base e size v n xs):∃ a cap,v= .slice a n cap:=by
 rcases h.2 with ⟨rfl,rfl⟩ | ⟨g,cap,cur,rfl,_⟩
 ·exact ⟨none,0,rfl⟩
 exact ⟨_,cap,rfl⟩
theorem S8 (v:Value) (T:List PinP) (w:World) (hT:Pins w v T) (hl:T.length≤1000):Calls Tryz.prog 39 #[v] w fun e w'=>∃ a cap,e= .returned (.slice a T.length cap)∧w'.ownsRow w.heap.size 23 3 (.slice a T.length cap) T.length (pcs T)∧Below w.heap.size w w':=by
 obtain ⟨iP0,iP⟩:=info_parts RH;have q45:∀ (w:World) (a:Option Addr) (n c n' c':Nat),(binOp .eql 45 (.slice a n c) (.slice none n' c')).run Tryz.prog w= .ok (.bool a.isNone) w:=fun w a n c n' c'=>Lib.run_eql_slice_nil w _ _ a n c n' c' Tryz.underlying45;obtain ⟨hlen,a,cap,rfl,h1,h2,hc⟩:=hT;unfold maxLen at h2;have hlen2:=hlen;obtain ⟨n,hn⟩:=KZ6 T.length;have HN:=KZ9 hn;rw [←hn] at h1 hl hlen hc ⊢;cases a with
 | none =>
  have hn0:n=0:=by
   rcases hc with h | ⟨b,off,h,_⟩
   ·exact h
   cases h
  subst hn0;have hT0:T=[]:=List.eq_nil_of_length_eq_zero hn.symm;subst hT0;clear hc hlen hlen2 hn HN;go_enter Tryz.func39,Tryz.ntmps39
  go_wp2
  all_goals try omega
  go_ret;exact ⟨none,0,rfl,⟨by simp [pcs],.inl ⟨rfl,rfl⟩⟩,Below.refl _ _⟩
 | some ad =>
  have HL:=KZ9 hlen;have HC:Hid (∀ j u,(pcs T)[j]? =some u→(w.alloc (.cells #[] 23)).cell? (ad.add j)=some u):=KZ9 (fun j u hj=>by
   have hjl:=(List.getElem?_eq_some_iff.1 hj).1;rcases hc with h | ⟨b,off,h,hb,hcell⟩
   ·rw [hlen,h] at hjl;simp at hjl
   injection h with h
   subst h;have hadd:(⟨b,off,none⟩:Addr).add j=⟨b,off+j,none⟩:=by unfold Addr.add;split<;>simp_all
   rw [hadd];exact (((Below.refl _ w).alloc (Nat.le_refl _) (.cells #[] 23)).cell (p:=⟨b,off+j,none⟩) hb).trans (hcell j u hj))
  have HO:=KZ9 (Q7 T);clear hc hlen hlen2 hn;go_enter Tryz.func39,Tryz.ntmps39
  go_wp2_with (at_builtin;refine wpList_append_own _ rfl _ _ 45 rfl w.heap.size 23 iP0 (.agg #[.string ⟨#[]⟩,.bool false,.int .i64 0]) 3 32 Tryz.underlying45 iP.1 iP.2.1 iP.2.2.1 iP.2.2.2 rfl (by decide) _ _ _ rfl (World.ownsRow_made w #[] 0 (Nat.le_refl _) (Nat.zero_le _) rfl) ad n cap (pcs T) rfl HL.out HC.out HO.out (by unfold maxLen;omega) (by omega) (by simp) ?_)
  intro v' w1 hown hgrow hnil;have hown2:w1.ownsRow w.heap.size 23 3 v' n (pcs T):=by simpa using hown
  obtain ⟨a2,cap2,rfl⟩:=pK hown2;have HOW:=KZ9 hown2;go_wp2;go_ret;exact ⟨a2,cap2,rfl,HOW.out,((Below.refl _ w).alloc (Nat.le_refl _) _).grown hgrow (by simp) (by intro k hk;simp [Value.ownBlock] at hk;omega)⟩
def PF (T:List PinP) (w:World) (e:Ending) (w':World):Prop:=((∃ c:Int,c≠0∧e= .returned (.tuple #[.pointer none,.int .i64 c]))∨(∃ q,e= .returned (.tuple #[.pointer q,.int .i64 0])∧TabG w' (.pointer q) T∧(∀ p∈T,qM p=true)∧SortH (T.map (·.host))))∧Below w.heap.size w w'
theorem jW {H:List Bs} (h:∀ j (hj:j+1<H.length),yE H[j] H[j+1]<0):SortH H:=by
 unfold SortH;rw [List.pairwise_iff_getElem];intro i j hi hj hij
 induction j with
 | zero=>omega
 | succ j ih =>
  by_cases e:i=j
  ·subst e;exact h i hj
  exact uD (ih (by omega) (by omega)) (h j hj)
theorem QW (T:List PinP) (v:Value) (w:World) (hB:Base w) (hT:Pins w v T) (hl:T.length≤1000) (hs:∀ p∈T,p.host.length≤100000):Calls Tryz.prog 16 #[v,.int .i64 1000] w (PF T w):=by
 have HT:=KZ9 hT;obtain ⟨a,cap,rfl,h1,h2,hc⟩:=hT.open;unfold maxLen at h2;have HC:=KZ9 hc;have HS:=KZ9 hs;have HB:=KZ9 hB;have HNW:=KZ9 (QV w);obtain ⟨W0,hW0⟩:=KZ6 (w.alloc (.cells #[.slice none 0 0,.int .i64 1000] 78));have hbA:Below w.heap.size w W0:=by rw [hW0];exact (Below.refl _ w).alloc (Nat.le_refl _) _
 have hb0:BlkL W0 w.heap.size 78 [.slice none 0 0,.int .i64 1000]:=by rw [hW0];exact BlkL.new w _ _
 have HW0:=KZ9 hW0.symm;have HBA:=KZ9 hbA;have HB0:=KZ9 hb0;obtain ⟨n,hn⟩:=KZ6 T.length;have HN:=KZ9 hn;rw [←hn] at h1 hl HT ⊢;clear hc hT hs hB hW0 hbA hb0 hn;go_enter Tryz.func16,Tryz.ntmps16
 go_wp2_with fail
 refine HNW.out.mono ?_;rintro e w' ⟨rfl,rfl⟩;rw [HW0.out];clear HW0 HNW;go_wp2_with fail
 all_goals try omega
 go_loopw [26] (fun iv wr=>∃ k:Nat,iv= .int .i64 k∧k≤n∧Hid (Below w.heap.size w wr)∧Hid (BlkL wr w.heap.size 78 [.slice none 0 0,.int .i64 1000])∧Hid ((∀ j (hj:j<T.length),j<k→qM T[j]=true)∧∀ j (hj:j+1<T.length),j+1<k→yE T[j].host T[j+1].host<0)) (fun iv _=>n - (intOf iv).toNat)
 case atStart=>exact ⟨0,rfl,by omega,HBA,HB0,KZ9 ⟨fun j hj h=>by omega,fun j hj h=>by omega⟩⟩
 case round =>
  obtain ⟨k,rfl,hk,hbw,hbt,hI⟩:=hrel;have hbs:=hbt.out.lt;by_cases hlt:k<n
  ·have hkT:k<T.length:=by rw [←HN.out];exact hlt
   obtain ⟨b,off,rfl,hb,hcc⟩:=HC.out (by omega);obtain ⟨k0,k1,k2⟩:=hcc k hkT;have c0:=(hbw.out.cell (p:=⟨b,off+k*3,none⟩) hb).trans k0;have c1:=(hbw.out.cell (p:=⟨b,off+k*3+1,none⟩) hb).trans k1;have c2:=(hbw.out.cell (p:=⟨b,off+k*3+2,none⟩) hb).trans k2;have HCC:=KZ9 hcc;obtain ⟨p,hp⟩:=KZ6 (T[k]);have hpl:p.host.length≤100000:=HS.out p (by rw [hp];exact List.getElem_mem hkT);rw [←hp] at c0 c1 c2;have HP:=KZ9 hp;clear k0 k1 k2 hcc hp;have HNZ:=KZ9 (heap_alloc_new wr (.cells (yf ⟨[],false,0⟩).toArray 23));have hY:=(BlkL.new wr 23 (yf ⟨[],false,0⟩)).setRow (yf p);have hT2:=(hbt.out.alloc (.cells (yf ⟨[],false,0⟩).toArray 23)).setRow_other (show w.heap.size≠wr.heap.size by omega) (yf p).toArray;have hA2:=below_setRow (hbw.out.alloc (by omega) (.cells (yf ⟨[],false,0⟩).toArray 23)) (show w.heap.size≤wr.heap.size by omega) (yf p).toArray
   obtain ⟨W2,hW2⟩:=KZ6 ((wr.alloc (.cells (yf ⟨[],false,0⟩).toArray 23)).setRow wr.heap.size (yf p).toArray);rw [←hW2] at hY hT2 hA2;have hs2:W2.heap.size=wr.heap.size+1:=by rw [hW2];simp [World.setRow]
   have HW2:Hid ((wr.alloc (.cells #[.string ⟨#[]⟩,.bool false,.int .i64 0] 23)).setRow wr.heap.size (yf p).toArray=W2):=KZ9 hW2.symm;have HV:=KZ9 (TR p W2 (HB.out.below hA2) hpl);have HY:=KZ9 hY;have HT2:=KZ9 hT2;have HA2:=KZ9 hA2;clear hW2 hY hT2 hA2;go_upto_region 9 with (refine wpList_store_row rfl 23 (.tmp 9) (.tmp 30) rfl wr.heap.size (yf p).toArray rfl rfl 23 _ HNZ.out si rfl (ze (ky _)) ?_)
   all_goals try omega
   rw [HW2.out];clear HW2 HNZ c0 c1 c2;go_wp2_with (refine wpList_load_row rfl 23 (.tmp 9) rfl wr.heap.size rfl 23 _ _ _ HY.out Tryz.underlying23 rfl si ?_)
   all_goals try omega
   refine HV.out.mono ?_;rintro e w3 ⟨rfl,hb3⟩;have hs3:=hb3.size;have hY3:=HY.out.below (by omega) hb3;have HT3:=KZ9 (HT2.out.below (by omega) hb3);have HA3:=KZ9 (HA2.out.trans (hb3.mono (by omega)));clear hb3 HV HY HT2 HA2;obtain ⟨ok,hok⟩:=KZ6 (qM p);rw [←hok];have HOK:=KZ9 hok;clear hok;cases ok
   ·clear hY3;go_wp2
    all_goals try omega
    (try rw [Exit.noGoto_ret])
    go_ret2;exact ⟨.inl ⟨1,by decide,rfl⟩,HA3.out⟩
   by_cases hk0:k=0
   ·subst hk0;have hI2:Hid ((∀ j (hj:j<T.length),j<0+1→qM T[j]=true)∧∀ j (hj:j+1<T.length),j+1<0+1→yE T[j].host T[j+1].host<0):=KZ9 ⟨fun j hj h=>by
     have:j=0:=by omega
     subst this;rw [←HP.out];exact HOK.out.symm,fun j hj h=>by omega⟩
    clear hY3 hI;go_wp2_with fail
    go_quiet (fail)
    go_wp2
    all_goals try omega
    go_roundw
    case rel=>exact ⟨0+1,by go_num,by omega,KZ9 (below_drewN HA3.out _),KZ9 (HT3.out.drewN _),hI2⟩
    case measure=>simp [intOf];omega
   obtain ⟨j,rfl⟩:∃ j,k=j+1:=⟨k - 1,by omega⟩;have hjT:j<T.length:=by omega
   obtain ⟨k0,_,_⟩:=HCC.out j hjT;have c0:=(HA3.out.cell (p:=⟨b,off+j*3,none⟩) hb).trans k0;have y0:=hY3.c 0 _ rfl;obtain ⟨pv,hpv⟩:=KZ6 (T[j]);have hpvl:pv.host.length≤100000:=HS.out pv (by rw [hpv];exact List.getElem_mem hjT);rw [←hpv] at c0;have hcm:=fun W=>tT (mk pv.host) (mk p.host) W (by rw [zh];exact hpvl) (by rw [zh];exact hpl);simp only [zj] at hcm;obtain ⟨c,hcd⟩:=KZ6 (yE pv.host p.host);simp only [←hcd] at hcm;have HCM:=KZ9 hcm;have HCD:=KZ9 hcd;have HPV:=KZ9 hpv;have hw1:IntKind.i64.wrap (((j+1:Nat):Int) - 1)=(j:Int):=by rw [show ((j+1:Nat):Int) - 1=(j:Int) by omega];exact IntWalk.i64_in _ (by omega)
   have gk:decide ((0:Int)<((j+1:Nat):Int))=true:=KZ7 (by omega);clear hY3 k0 hcm hcd hpv hpvl;by_cases hneg:c<0
   ·have gc:decide ((0:Int)≤c)=false:=KZ8 (by omega);have hI2:Hid ((∀ i (hi:i<T.length),i<(j+1)+1→qM T[i]=true)∧∀ i (hi:i+1<T.length),i+1<(j+1)+1→yE T[i].host T[i+1].host<0):=KZ9 ⟨fun i hi h=>by
      by_cases e:i=j+1
      ·subst e;rw [←HP.out];exact HOK.out.symm
      ·exact hI.out.1 i hi (by omega),fun i hi h=>by
      by_cases e:i=j
      ·subst e;rw [←HP.out,←HPV.out,←HCD.out];exact hneg
      exact hI.out.2 i hi (by omega)⟩
    clear hneg hI;go_wp2_with fail
    go_quiet ((go_at_call 38;exact Calls.quiet_of ((HCM.out _).mono (fun _ _ h=>⟨h.1,h.2⟩))))
    go_wp2
    all_goals try omega
    go_roundw
    case rel=>exact ⟨(j+1)+1,by go_num,by omega,KZ9 (below_drewN HA3.out _),KZ9 (HT3.out.drewN _),hI2⟩
    case measure=>simp [intOf];omega
   have gc:decide ((0:Int)≤c)=true:=KZ7 (by omega);clear hneg hI;go_wp2_with fail
   go_quiet ((go_at_call 38;exact Calls.quiet_of ((HCM.out _).mono (fun _ _ h=>⟨h.1,h.2⟩))))
   go_wp2
   all_goals try omega
   (try rw [Exit.noGoto_ret])
   go_ret2;exact ⟨.inl ⟨8,by decide,rfl⟩,below_drewN HA3.out _⟩
  have hall:(∀ p∈T,qM p=true)∧SortH (T.map (·.host)):=by
   refine ⟨fun p hp=> ?_,jW (fun j hj=> ?_)⟩
   ·obtain ⟨i,hi,rfl⟩:=List.getElem_of_mem hp;exact hI.out.1 i hi (by have:=HN.out;omega)
   rw [List.length_map] at hj;have:=hI.out.2 j hj (by have:=HN.out;omega)
   simpa using this
  have HALL:=KZ9 hall;have hcl:=S8 (.slice a n cap) T wr (Pins.below (by rw [HN.out];rw [HN.out] at HT;exact HT.out) hbw.out) (by rw [←HN.out];exact hl);rw [←HN.out] at hcl;have HCL:=KZ9 hcl;have HTL:=KZ9 hbt;clear hall hcl hI;go_wp2_with fail
  all_goals try omega
  refine HCL.out.mono ?_;rintro e w3 ⟨a2,cap2,rfl,hown,hb3⟩;have hs3:=hb3.size;have HB3:=KZ9 (hbt.out.below hbs hb3);have HA3:=KZ9 (hbw.out.trans (hb3.mono (by omega)));have HOW:=KZ9 hown;have f0:=HB3.out.f 0;have d0:=HB3.out.c 0 _ rfl;clear hb3 hown HCL;go_wp2
  all_goals try omega
  go_ret2;refine ⟨.inr ⟨_,rfl,.inr ⟨w.heap.size,a2,cap2,1000,rfl,?_,?_,HALL.out.2,HS.out,by rw [←HN.out];exact hl⟩,HALL.out.1,HALL.out.2⟩,HA3.out.trans (yV _ w.heap.size 0 _ (Nat.le_refl _))⟩
  ·rw [←HN.out];exact HB3.out.set 0 (by simp) _
  have:=Row.owned (ownsRow_setCell_below HOW.out (a:=⟨w.heap.size,0,none⟩) hbs (.slice a2 n cap2));unfold Pins;rw [←HN.out];exact this
end Go.Proofs.YtjbciamhhfcdoaaGreatDoor
