/- What the proof of TopClock uses, part Clk10. -/
import Derived.Test.YtbnnlkdhpifpeaaGreatDoorClk09
set_option linter.unusedSimpArgs false
set_option linter.unusedVariables false
namespace Go.Proofs.YtbnnlkdhpifpeaaGreatDoor
open Go.RowKit Hs
set_option maxRecDepth 20000
set_option maxHeartbeats 4000000
theorem V3 (I:DK) (n cap h s:Nat) (B w:World) (HPL:∀ W,Calls Tryz.prog 63 #[.int .i64 (n:Int)] W fun e w'=>e= .returned (.tuple #[.agg (uW cap h s).toArray,.int .i64 0])∧Below W.heap.size W w') (hd:DskE I w n (zs (64*n)) (zs (64*n))) (hG:Gnd I B w) (hs:1≤s) (hsh:s<h) (hn:2+h≤n) (h100:h≤100) :
  Calls Tryz.prog 33 #[.pointer (some ⟨I.dd,0,none⟩)] w fun e w'=>e= .returned (.int .i64 0)∧DskE I w' n (wF n) (wF n)∧But I.S w w':=by
 have hb0:Below w.heap.size w (w.alloc (.cells #[.pointer (some ⟨I.dd,0,none⟩)] 25)):=(Below.refl _ w).alloc (Nat.le_refl _) _;have HSE:=KZ9 (jY I _ n _ _ (hd.below hb0));have HPN:=KZ9 HPL;have HSN:=KZ9 (fun W (hW:Below w.heap.size w W)=>VR W (hG.base.1.below hW));have HEN:=KZ9 Rw;have HK0:=KZ9 (BlkL.new w 25 [.pointer (some ⟨I.dd,0,none⟩)]);have k0:=HK0.out.c 0 _ rfl;have HB0:=KZ9 hb0;have HD:=KZ9 hd;clear hb0 hd HPL hG;obtain ⟨L,hL⟩:=KZ6 (uW cap h s);have hL':∃ i1 i2 i3 i4 i5 i6 i7 i8 i9:Int,L=[.int .i64 i1,.int .i64 i2,.int .i64 i3,.int .i64 i4,.int .i64 i5,.int .i64 i6,.int .i64 i7,.int .i64 i8,.int .i64 i9]:=⟨_,_,_,_,_,_,_,_,_,hL⟩;obtain ⟨i1,i2,i3,i4,i5,i6,i7,i8,i9,hL2⟩:=hL';have HL:=KZ9 (hL2.symm.trans hL);rw [←hL,hL2] at HPN;clear hL hL2 L;go_enter Tryz.func33,Tryz.ntmps33
 go_wp2_with fail
 refine HSE.out.mono ?_;rintro e w1 ⟨rfl,rfl⟩;go_wp2_with fail
 refine (HPN.out _).mono ?_;rintro e w1 ⟨rfl,hb1⟩;go_wp2_with fail
 have hk1:=HK0.out.below HK0.out.lt hb1;have HK1:=KZ9 (hk1.alloc (.cells [.int .i64 i1,.int .i64 i2,.int .i64 i3,.int .i64 i4,.int .i64 i5,.int .i64 i6,.int .i64 i7,.int .i64 i8,.int .i64 i9].toArray 146));have HL1:=KZ9 (BlkL.new w1 146 [.int .i64 i1,.int .i64 i2,.int .i64 i3,.int .i64 i4,.int .i64 i5,.int .i64 i6,.int .i64 i7,.int .i64 i8,.int .i64 i9]);have HB1:=KZ9 ((HB0.out.trans (hb1.mono HB0.out.size)).alloc (by have:=hb1.size;have:=HB0.out.size;omega) (.cells [.int .i64 i1,.int .i64 i2,.int .i64 i3,.int .i64 i4,.int .i64 i5,.int .i64 i6,.int .i64 i7,.int .i64 i8,.int .i64 i9].toArray 146));clear hb1 hk1 HSE HPN HK0 HB0 k0;refine (HSN.out _ HB1.out).mono ?_;rintro e w2 ⟨a,c,rfl,ho2,hb2⟩;have HO2:=KZ9 (vr ho2 HB1.out.size);have HK2:=KZ9 (HK1.out.below HK1.out.lt hb2);have HL2:=KZ9 (HL1.out.below HL1.out.lt hb2);have HB2:=KZ9 (HB1.out.trans (hb2.mono HB1.out.size))
 have hv2:Byts w2 (.slice a 2 c) [0,0]:=Byts.owned ho2;have HCR:=KZ9 (tX _ _ w2 hv2 (by simp));clear ho2 hb2 hv2 HSN HK1 HL1 HB1;obtain ⟨q,hq⟩:=KZ6 (wX [0,0]);rw [←hq] at HCR HEN;clear hq;go_wp2_with fail
 refine HCR.out.mono ?_;rintro e w3 ⟨rfl,rfl⟩;go_wp2_with fail
 refine (HEN.out _).mono ?_;rintro e w3 ⟨g3,rfl,hg3,hk3,hb3⟩;have hk:=(HK2.out.below HK2.out.lt hb3).alloc (.cells #[.slice (some ⟨g3,0,none⟩) 64 64] 34);have hl:=(HL2.out.below HL2.out.lt hb3).alloc (.cells #[.slice (some ⟨g3,0,none⟩) 64 64] 34);have k0:=hk.c 0 _ rfl;obtain ⟨l0,l1,l2,l3,l4,l5,l6,l7,l8⟩:=BlkL.cs9 hl;have HB4:=KZ9 ((HB2.out.trans (hb3.mono HB2.out.size)).alloc (by have:=hb3.size;have:=HB2.out.size;omega) (.cells #[.slice (some ⟨g3,0,none⟩) 64 64] 34));have HO4:Hid (Byts (w3.alloc (.cells #[.slice (some ⟨g3,0,none⟩) 64 64] 34)) (.slice a 2 c) [0,0]∧∀ k,(Value.slice a 2 c).ownBlock=some k→w.heap.size≤k):=KZ9 ⟨((Byts.owned HO2.out:Byts w2 (.slice a 2 c) [0,0]).below hb3).below ((Below.refl _ w3).alloc (Nat.le_refl _) _),fun k hk=>(HO2.out.lt k hk).1⟩;have HS4:=KZ9 (hk3.alloc (.cells #[.slice (some ⟨g3,0,none⟩) 64 64] 34));have HG3:Hid (w.heap.size≤g3):=KZ9 (Nat.le_trans HB2.out.size hg3)
 have HQ4:=KZ9 (BlkL.new w3 34 [.slice (some ⟨g3,0,none⟩) 64 64]);have HK4:=KZ9 hk;have HPR:=KZ9 (Xk (some ⟨I.dd,0,none⟩) a 2 c [.int .i64 i1,.int .i64 i2,.int .i64 i3,.int .i64 i4,.int .i64 i5,.int .i64 i6,.int .i64 i7,.int .i64 i8,.int .i64 i9]);clear hk hl hk3 hb3 hg3 HCR HEN HO2 HK2 HL2 HB2;go_wp2_with fail
 clear k0 l0 l1 l2 l3 l4 l5 l6 l7 l8;obtain ⟨W4,hW4⟩:∃ W4,w3.alloc (.cells #[.slice (some ⟨g3,0,none⟩) 64 64] 34)=W4:=⟨_,rfl⟩;have HS5:Hid (w3.heap.size<W4.heap.size):=KZ9 (by rw [←hW4];simp);rw [hW4] at HB4 HO4 HS4 HQ4 HK4 ⊢;clear hW4;refine (HPR.out W4).mono ?_;rintro e w5 ⟨rfl,hw5⟩;have b0:BlkL w5 W4.heap.size 25 [.pointer (some ⟨I.dd,0,none⟩)]:=by rw [hw5];exact (((BlkL.new W4 _ _).alloc _).alloc _).alloc _
 have b1:BlkL w5 (W4.heap.size+1) 146 [.int .i64 i1,.int .i64 i2,.int .i64 i3,.int .i64 i4,.int .i64 i5,.int .i64 i6,.int .i64 i7,.int .i64 i8,.int .i64 i9]:=by
  have h8:=((BlkL.new (W4.alloc (.cells #[.pointer (some ⟨I.dd,0,none⟩)] 25)) 146 [.int .i64 i1,.int .i64 i2,.int .i64 i3,.int .i64 i4,.int .i64 i5,.int .i64 i6,.int .i64 i7,.int .i64 i8,.int .i64 i9]).alloc (.cells #[.int .i64 0] 3)).alloc (.cells #[.slice a 2 c] 34);rw [World.size_alloc] at h8;rw [hw5];exact h8
 have b2:BlkL w5 (W4.heap.size+2) 3 [.int .i64 0]:=by
  have h8:=(BlkL.new ((W4.alloc (.cells #[.pointer (some ⟨I.dd,0,none⟩)] 25)).alloc (.cells [.int .i64 i1,.int .i64 i2,.int .i64 i3,.int .i64 i4,.int .i64 i5,.int .i64 i6,.int .i64 i7,.int .i64 i8,.int .i64 i9].toArray 146)) 3 [.int .i64 0]).alloc (.cells #[.slice a 2 c] 34);rw [World.size_alloc,World.size_alloc] at h8;rw [hw5];exact h8
 have b3:BlkL w5 (W4.heap.size+3) 34 [.slice a 2 c]:=by
  have h8:=BlkL.new (((W4.alloc (.cells #[.pointer (some ⟨I.dd,0,none⟩)] 25)).alloc (.cells [.int .i64 i1,.int .i64 i2,.int .i64 i3,.int .i64 i4,.int .i64 i5,.int .i64 i6,.int .i64 i7,.int .i64 i8,.int .i64 i9].toArray 146)).alloc (.cells #[.int .i64 0] 3)) 34 [.slice a 2 c];rw [World.size_alloc,World.size_alloc,World.size_alloc] at h8;rw [hw5];exact h8
 have hb5:Below W4.heap.size W4 w5:=by rw [hw5];exact ((((Below.refl _ W4).alloc (Nat.le_refl _) _).alloc (by simp) _).alloc (by simp;omega) _).alloc (by simp;omega) _
 obtain ⟨z,hz⟩:∃ z,W4.heap.size=z:=⟨_,rfl⟩;have HZ:=KZ9 hz;have HK5:=KZ9 (HK4.out.below HK4.out.lt hb5);have HQ5:=KZ9 (HQ4.out.below HQ4.out.lt hb5);have HS6:=KZ9 (HS4.out.below HS4.out.lt hb5);have HV5:=KZ9 (HO4.out.1.below hb5);have HB5:=KZ9 (HB4.out.trans (hb5.mono HB4.out.size));rw [hz] at b0 b1 b2 b3 ⊢;have H0:=KZ9 b0;have H1:=KZ9 b1;have H2:=KZ9 b2;have H3:=KZ9 b3;have k0:=HK5.out.c 0 _ rfl;clear hw5 hb5 hz b0 b1 b2 b3 HK4 HQ4 HS4 HB4 HPR;go_wp2_with fail
 obtain ⟨st,hst⟩:=KZ6 (Y6 (.pointer (some ⟨z,0,none⟩)) (.pointer (some ⟨z+1,0,none⟩)) (.pointer (some ⟨z+2,0,none⟩)) (.pointer (some ⟨z+3,0,none⟩)) (.pointer (some ⟨w.heap.size,0,none⟩)) (.pointer (some ⟨w3.heap.size,0,none⟩)) (.pointer (some ⟨I.dd,0,none⟩)));have bg:BlkL (w5.alloc (.cells st.toArray 156)) w5.heap.size 156 st:=BlkL.new _ _ _;have hbA:Below w.heap.size w (w5.alloc (.cells st.toArray 156)):=HB5.out.alloc HB5.out.size _;have h1:=H1.out.alloc (.cells st.toArray 156);rw [HL.out] at h1;have hr:=QV I n cap h s _ a c g3 z (z+1) (z+2) (z+3) w.heap.size w3.heap.size w5.heap.size (HD.out.below hbA) (H0.out.alloc _) h1 (H2.out.alloc _) (H3.out.alloc _) (HK5.out.alloc _) (HQ5.out.alloc _) (HV5.out.below ((Below.refl _ w5).alloc (Nat.le_refl _) _)) (fun k hk hs=>by have h8:=HO4.out.2 k hk;have h9:=HD.out.lt k hs;omega) (HS6.out.alloc _) (hst▸bg) hs hsh hn h100;subst hst;refine hr.mono ?_;rintro e w6 ⟨rfl,hd6,hb6⟩
 have HD6:=KZ9 hd6;have HB6:=KZ9 ((But.of_below I.S hbA).trans hb6);clear hr hd6 hb6 hbA h1 bg k0 H0 H1 H2 H3 HK5 HQ5 HV5 HS6 HB5;go_wp2_with fail
 go_ret;exact ⟨rfl,HD6.out,HB6.out⟩
def yJ (dd cap h s:Nat) (sp:SupP) (lg:Option Addr):List Value:= .pointer (some ⟨dd,0,none⟩)::(uW cap h s++(.int .i64 0::(scells sp++[.pointer lg,.bool false])))
theorem Rv (I:DK) (n F N o m:Nat) (S C:Bs) (w:World) (h:DskE I w n S C) (hN:1≤N) (hF:F+N≤n) (ho:o+m≤64*N) :
  Calls Tryz.prog 192 #[.pointer (some ⟨I.dd,0,none⟩),.agg #[.int .i64 (F:Int),.int .i64 (N:Int)],.int .i64 (o:Int),.int .i64 (m:Int)] w fun e w'=>∃ u,e= .returned (.tuple #[u,.int .i64 0])∧w'.ownsRow w.heap.size 5 1 u m (zc ((C.drop (64*F+o)).take m))∧DskE I w' n S C∧But I.S w w':=by
 obtain ⟨K,hK,hd⟩:=h;refine (Vn I K n F N o m S C w hd hN hF ho hK).mono ?_;rintro e w1 ⟨u,rfl,ho,hd1,hb1⟩;exact ⟨u,rfl,ho,⟨K,fun k hk=>Nat.lt_of_lt_of_le (hK k hk) hb1.size,hd1⟩,hb1⟩
theorem Zs (I:DK) (n cap h s ps gen ep:Nat) (S C:Bs) (lg:Option Addr) (B w:World) (hT:BlkL w ps 188 (yJ I.dd cap h s ⟨gen,0,ep,2,wX [0,0]⟩ lg)) (hd:DskE I w n S C) (hG:Gnd I B w) (hs:1≤s) (hsh:s<h) (hn:2+h≤n) (h100:h≤100) (hC:(C.drop (64*2)).take 2=[0,0]) :
  Calls Tryz.prog 123 #[.pointer (some ⟨ps,0,none⟩)] w fun e w'=>e= .returned (.tuple #[.agg #[.int .i64 0,.slice none 0 0],.int .i64 0])∧DskE I w' n S C∧But I.S w w':=by
 have nps:¬ I.S ps:=hd.other hT (by decide) (by decide);obtain ⟨W0,hW0⟩:∃ W0,w.alloc (.cells #[.int .i64 0,.slice none 0 0] 49)=W0:=⟨_,rfl⟩;have hb0:Below w.heap.size w W0:=by rw [←hW0];exact (Below.refl _ w).alloc (Nat.le_refl _) _
 have hx0:BlkL W0 w.heap.size 49 [.int .i64 0,.slice none 0 0]:=by rw [←hW0];exact BlkL.new w _ _
 have hT0:=hT.below hT.lt hb0;have hs0:w.heap.size<W0.heap.size:=by rw [←hW0];simp
 have HT0:=KZ9 hT0;have HX0:=KZ9 hx0;have HB0:=KZ9 hb0;have HD:=KZ9 hd;have HG:=KZ9 hG;have HW0:=KZ9 hW0;have HC:=KZ9 hC;have HNP:=KZ9 nps;have c2:=hT0.c 2 _ rfl;have c3:=hT0.c 3 _ rfl;have c12:=hT0.c 12 _ rfl;have y2:=World.new_ne W0 _ c2;have y3:=World.new_ne W0 _ c3;have y12:=World.new_ne W0 _ c12;clear hT hd hG hb0 hx0 hT0 hW0 hC nps;go_enter Tryz.func123,Tryz.ntmps123
 go_upto_region 1 with fail
 rw [HW0.out];go_cut [4] (fun s4 wx=>s4= .pointer (some ⟨W0.heap.size,0,none⟩)∧Hid (BlkL wx W0.heap.size 143 [.int .i64 2,.int .i64 (s:Int)])∧Hid (Below W0.heap.size W0 wx))
 case first =>
  go_region_held3 (fun W=>W.cell? ⟨ps,2,none⟩=some (.int .i64 2)∧W.cell? ⟨ps,3,none⟩=some (.int .i64 (s:Int))∧W.cell? ⟨ps,12,none⟩=some (.int .i64 0)) (go_keep) (fail)
  all_goals (
   go_wp2;go_meet;exact ⟨rfl,KZ9 (BlkL.new W0 143 [.int .i64 2,.int .i64 (s:Int)]).drew,KZ9 ((Below.refl _ W0).alloc (Nat.le_refl _) _).drew⟩)
 case rest =>
 obtain ⟨rfl,HE,HB⟩:=hcut;obtain ⟨w1,rfl⟩:=KZ6 wc;clear c2 c3 c12 y2 y3 y12;have hT1:=HT0.out.below HT0.out.lt HB.out;have HSZ:Hid (Calls Tryz.prog 134 #[.agg #[.int .i64 2,.int .i64 (s:Int)]] w1.drew fun e w'=>e= .returned (.int .i64 ((64*s:Nat):Int))∧Below w1.drew.heap.size w1.drew w'):=KZ9 (qQ 2 s w1.drew (by omega));obtain ⟨m,hm⟩:=KZ6 (64*s);rw [←hm] at HSZ;have hm2:decide ((m:Int)<2)=false:=by simp;omega
 have HT1:=KZ9 hT1;have c14:=hT1.c 14 _ rfl;have e0:=HE.out.c 0 _ rfl;have e1:=HE.out.c 1 _ rfl;clear hT1 hm;go_upto_region 1 with fail
 go_cut [26] (fun s26 wx=>s26= .bool false∧Hid (Below w1.heap.size w1 wx))
 case first =>
  go_region_held3 (fun W=>W.cell? ⟨ps,14,none⟩=some (.int .i64 2)∧W.cell? ⟨W0.heap.size,0,none⟩=some (.int .i64 2)∧W.cell? ⟨W0.heap.size,1,none⟩=some (.int .i64 (s:Int))) (go_keep) (first
   | (go_at_call 134;refine HSZ.out.mono ?_;rintro e w2 ⟨rfl,hb1⟩;have hb1':Below w1.heap.size w1 w2:=(Below.refl _ w1).drew.trans hb1;have d14:=(HT1.out.below HT1.out.lt hb1').c 14 _ rfl;have d0:=(HE.out.below HE.out.lt hb1').c 0 _ rfl;have d1:=(HE.out.below HE.out.lt hb1').c 1 _ rfl))
  all_goals (
   go_wp2;go_meet;exact ⟨rfl,KZ9 hb1'⟩)
 case rest =>
 obtain ⟨rfl,HB2⟩:=hcut;obtain ⟨w2,rfl⟩:=KZ6 wc;have HT2:=KZ9 (HT1.out.below HT1.out.lt HB2.out);have HE2:=KZ9 (HE.out.below HE.out.lt HB2.out);have hb02:Below w.heap.size w w2:=HB0.out.trans ((HB.out.mono (by omega)).trans (HB2.out.mono (by have:=HB.out.size;omega)));have hx2:=(HX0.out.below HX0.out.lt HB.out).below (by have:=HB.out.size;have:=HX0.out.lt;omega) HB2.out;have HX2:=KZ9 hx2;have HB02:=KZ9 hb02;have hb2d:Below w.heap.size w w2.drew:=hb02.drew;have HRD:Hid (Calls Tryz.prog 192 #[.pointer (some ⟨I.dd,0,none⟩),.agg #[.int .i64 2,.int .i64 (s:Int)],.int .i64 0,.int .i64 2] w2.drew fun e w'=>∃ u,e= .returned (.tuple #[u,.int .i64 0])∧w'.ownsRow w2.drew.heap.size 5 1 u 2 (zc ((C.drop (64*2+0)).take 2))∧DskE I w' n S C∧But I.S w2.drew w'):=KZ9 (Rv I n 2 s 0 2 S C w2.drew (HD.out.below hb2d) hs (by omega) (by omega));have HLT:=KZ9 HD.out.lt
 have nE:¬ I.S W0.heap.size:=fun hh=>by have:=HLT.out _ hh;omega
 have nX:¬ I.S w.heap.size:=fun hh=>by have:=HLT.out _ hh;omega
 have HNE:=KZ9 nE;have HNX:=KZ9 nX;have c0:=HT2.out.c 0 _ rfl;have c14:=HT2.out.c 14 _ rfl;have e0:=HE2.out.c 0 _ rfl;have e1:=HE2.out.c 1 _ rfl;clear hx2 hb02 hb2d nE nX HSZ hm2 HT1 HE HB HB2 HX0 HB0 HT0 HW0 HD;go_upto_region 1 with fail
 go_cut [5,6] (fun s5 s6 wx=>s6= .int .i64 0∧Hid (wx.ownsRow w2.heap.size 5 1 s5 2 (zc [0,0]))∧Hid (DskE I wx n S C)∧Hid (But I.S w2 wx))
 case first =>
  go_region_held3 (fun W=>W.cell? ⟨ps,0,none⟩=some (.pointer (some ⟨I.dd,0,none⟩))∧W.cell? ⟨ps,14,none⟩=some (.int .i64 2)∧W.cell? ⟨W0.heap.size,0,none⟩=some (.int .i64 2)∧W.cell? ⟨W0.heap.size,1,none⟩=some (.int .i64 (s:Int))) (go_keep) (first
   | (go_at_call 192;refine HRD.out.mono ?_;rintro e w3 ⟨u,rfl,ho3,hd3,hb3⟩;have hb3':But I.S w2 w3:=(But.drew (But.refl I.S w2)).trans hb3;have d0:=(HT2.out.but hb3' HNP.out).c 0 _ rfl;have d14:=(HT2.out.but hb3' HNP.out).c 14 _ rfl;have d2:=(HE2.out.but hb3' HNE.out).c 0 _ rfl;have d3:=(HE2.out.but hb3' HNE.out).c 1 _ rfl))
  all_goals (
   rw [Nat.add_zero,HC.out] at ho3;go_wp2;go_meet;exact ⟨rfl,KZ9 ho3,KZ9 hd3,KZ9 hb3'⟩)
 case rest =>
 obtain ⟨rfl,HO3,HD3,HB3⟩:=hcut;obtain ⟨w3,rfl⟩:=KZ6 wc;obtain ⟨ua,uc,hu⟩:=wL HO3.out;subst hu;have hbt3:But I.S w w3:=(But.of_below I.S HB02.out).trans HB3.out;have hby3:Byts w3 (.slice ua 2 uc) [0,0]:=Byts.owned HO3.out;have HSD:=KZ9 (VS _ w3 (HG.out.step hbt3).base.1 hby3);have HY3:=KZ9 hby3;have HT3:=KZ9 (HT2.out.but HB3.out HNP.out);have HX3:=KZ9 (HX2.out.but HB3.out HNX.out);have HBT3:=KZ9 hbt3;clear hbt3 hby3 HRD c0 c14 e0 e1 HO3 HB3 HT2 HE2 HX2 HB02 HC;go_wp2_with fail
 refine HSD.out.mono ?_;rintro e w4 ⟨rfl,hb4⟩;obtain ⟨W5,hW5⟩:∃ W5,w4.alloc (.cells #[.int .i64 0,.slice none 0 0] 49)=W5:=⟨_,rfl⟩;have hb5:Below w3.heap.size w3 W5:=by rw [←hW5];exact hb4.alloc hb4.size _
 have hz5:BlkL W5 w4.heap.size 49 [.int .i64 0,.slice none 0 0]:=by rw [←hW5];exact BlkL.new w4 _ _
 have HT5:=KZ9 (HT3.out.below HT3.out.lt hb5);have HX5:=KZ9 (HX3.out.below HX3.out.lt hb5);have HD5:=KZ9 (HD3.out.below hb5);have HBT5:=KZ9 (HBT3.out.below hb5);have HCR:=KZ9 (tX _ _ W5.drew ((HY3.out.below hb5).below ((Below.refl _ W5).drew)) (by simp));have HZ5:=KZ9 hz5;have HW5:=KZ9 hW5;have c15:=HT5.out.c 15 _ rfl;have c1:=HT5.out.c 1 _ rfl;have z1:=hz5.c 1 _ rfl;obtain ⟨q,hq⟩:=KZ6 (wX [0,0]);rw [←hq] at HCR c15;have hcp:decide ((cap:Int)<0)=false:=by simp
 have hns:w.heap.size≠w4.heap.size:=by have:=HBT3.out.size;have:=hb4.size;have:=HX3.out.lt;omega
 clear hb4 hb5 hz5 hW5 hq HSD HY3 HT3 HX3 HD3 HBT3;go_upto_region 1 with fail
 rw [HW5.out];go_cut [73] (fun s73 wx=>s73= .bool false∧wx=W5.drew)
 case first =>
  go_region_held3 (fun W=>W.cell? ⟨ps,15,none⟩=some (.int .u32 (q:Int))∧W.cell? ⟨ps,1,none⟩=some (.int .i64 (cap:Int))∧W.cell? ⟨w4.heap.size,1,none⟩=some (.slice none 0 0)) (go_keep) (first
   | (go_at_call 67;refine HCR.out.mono ?_;rintro e w6 ⟨rfl,rfl⟩))
  all_goals (
   go_wp2;go_meet;exact ⟨rfl,rfl⟩)
 case rest =>
 obtain ⟨rfl,rfl⟩:=hcut;have hx:=HX5.out.drew;have hz:=HZ5.out.drew;have hd6:DskE I W5.drew n S C:=HD5.out.below (Below.refl _ W5).drew;have hb6:But I.S w W5.drew:=HBT5.out.drew;clear z1 c15 c1 HCR HW5 HT5 HX5 HZ5 HD5 HBT5;generalize W5.drew=W6 at hx hz hd6 hb6 ⊢;have x0:=hx.c 0 _ rfl;have x1:=hx.c 1 _ rfl;have f0:=hx.f 0;have f1:=hx.f 1;have z0:=hz.c 0 _ rfl;have z1:=hz.c 1 _ rfl;have HX6:=KZ9 hx;have HD6:=KZ9 hd6;have HBT6:=KZ9 hb6;clear hx hz hd6 hb6;go_wp2_with fail
 all_goals try omega
 have hR:=(HX6.out.set 0 (by simp) (.int .i64 0)).set 1 (by simp) (.slice none 0 0);have hbb:But (fun k=>k=w.heap.size) W6 ((W6.setCell ⟨w.heap.size,0,none⟩ (.int .i64 0)).setCell ⟨w.heap.size,1,none⟩ (.slice none 0 0)):=((But.refl (fun k=>k=w.heap.size) W6).set (.inl rfl) 0 _).set (.inl rfl) 1 _;refine bodyPost_ret (zf rfl _ _ w.heap.size 49 _ _ rfl hR Tryz.underlying49 rfl xW) rfl ?_;refine ⟨rfl,HD6.out.typed HX6.out (by decide) (by decide) hbb,?_⟩;exact (HBT6.out.set (.inr (Nat.le_refl _)) 0 _).set (.inr (Nat.le_refl _)) 1 _
theorem pj:(Tryz.prog.info? 155).map (·.size)=some 5:=by kernel_rfl
theorem QF:∀ (n v:Nat),v<256 ^ n→rd (le n v)=v
 | 0,v,h=>by
  have:v=0:=by simpa using h
  rw [this];rfl
 | n+1,v,h=>by
  simp only [le,rd];rw [QF n (v / 256) (by rw [Nat.div_lt_iff_lt_mul (by decide)];rwa [Nat.pow_succ] at h),UInt8.toNat_ofNat_of_lt' (Nat.mod_lt _ (by decide))];exact Nat.mod_add_div v 256
def szero:List Value:=[.int .u64 0,.int .i64 0,.int .u32 0,.int .i64 0,.int .u32 0]
theorem Xh (b:Value) (l:Bs) (w:World) (hb:Byts w b l) (hl:l.length=64) (hne:rd ((l.drop 60).take 4)≠wX (l.take 60)) :
  Calls Tryz.prog 191 #[b] w fun e w'=>e= .returned (.tuple #[.agg szero.toArray,.int .i64 7])∧Below w.heap.size w w':=by
 obtain ⟨a,cap,rfl,h1,h2,hc⟩:=hb.open;unfold maxLen at h2;obtain ⟨g,off,rfl,hg,hcell⟩:=hc (by omega);rw [hl] at h1 hb ⊢;have hc1:=hb.cut 60 4 (cap - 60) (by omega) (by omega) (by omega);have hc2:=hb.cut 0 60 cap (by omega) (by omega) (by omega);have hk0:=BlkL.new w 155 szero;have hb0:=(Below.refl _ w).alloc (Nat.le_refl _) (.cells szero.toArray 155);have HG:=KZ9 (fun W (hW:Below w.heap.size w W)=>TD _ 4 _ W (hc1.below hW) (by omega) (by rw [List.length_take,List.length_drop];omega) (by rw [List.length_take];omega));have HC:=KZ9 (fun W (hW:Below w.heap.size w W)=>tX _ _ W (hc2.below hW) (by rw [List.length_take];omega));rw [List.drop_zero] at HC;rw [List.take_take,Nat.min_self] at HG;have hr:=WH ((l.drop 60).take 4);have hrl:((l.drop 60).take 4).length=4:=by rw [List.length_take,List.length_drop];omega
 rw [hrl] at hr;have hcl:=qT (l.take 60);generalize rd ((l.drop 60).take 4)=x at HG hr hne;generalize wX (l.take 60)=y at HC hcl hne;simp only [szero] at hk0 hb0 ⊢;have wx:IntKind.u32.wrap (x:Int)=(x:Int):=by rw [IntKind.wrap_u32];omega
 have hxy:((x:Int) != (y:Int))=true:=by simp;omega
 simp only [Nat.add_zero] at HC;clear hc1 hc2 hr hrl hcell hc hb hl hne;have HW0:Hid (∃ W,W=w.alloc (.cells #[.int .u64 0,.int .i64 0,.int .u32 0,.int .i64 0,.int .u32 0] 155)):=KZ9 ⟨_,rfl⟩;obtain ⟨W0,hW0⟩:=HW0.out;have hW0':=hW0.symm;clear hW0;rw [show w.alloc (.cells [Value.int .u64 0,.int .i64 0,.int .u32 0,.int .i64 0,.int .u32 0].toArray 155)=W0 from hW0'] at hk0 hb0;have HG1:=KZ9 (HG.out W0.drew (below_drewN hb0 1));have HC1:=KZ9 (HC.out W0.drew (below_drewN hb0 1));have HB0:=KZ9 hb0;have HK0:=KZ9 hk0;clear hb0 hk0;have n60:¬ cap=60:=by omega
 go_enter Tryz.func191,Tryz.ntmps191
 go_upto_region 3 with fail
 all_goals try omega
 have h60:60≤cap:=by omega
 go_cut [12] (fun s wx=>s= .bool true∧wx=W0.drew)
 case first =>
  clear HK0 HB0;go_region_with (first
   | (go_at_call 258;refine HG1.out.mono ?_;rintro e w9 ⟨rfl,rfl⟩)
   | (go_at_call 67;refine HC1.out.mono ?_;rintro e w9 ⟨rfl,rfl⟩))
  all_goals (go_wp2;go_meet;exact ⟨rfl,rfl⟩)
 case rest =>
 obtain ⟨rfl,rfl⟩:=hcut;have hk1:=HK0.out.drew;have hb1:=below_drewN HB0.out 1;change Below w.heap.size w W0.drew at hb1;clear HG1 HC1 HG HC hW0' HW0 HK0 HB0;generalize W0.drew=W1 at hk1 hb1 ⊢;obtain ⟨c0,c1,c2,c3,c4⟩:=BlkL.cs5 hk1;have f0:=hk1.f 0;have f1:=hk1.f 1;have f2:=hk1.f 2;have f3:=hk1.f 3;have f4:=hk1.f 4;have HK1:=KZ9 hk1;have HB1:=KZ9 hb1;clear hk1 hb1;go_wp2
 all_goals try omega
 have hR:=((((HK1.out.set 0 (by simp) (.int .u64 0)).set 1 (by simp) (.int .i64 0)).set 2 (by simp) (.int .u32 0)).set 3 (by simp) (.int .i64 0)).set 4 (by simp) (.int .u32 0);refine bodyPost_ret (zf rfl _ _ w.heap.size 155 _ _ rfl hR Tryz.underlying155 rfl pj) rfl ?_;refine ⟨rfl,?_⟩;exact HB1.out.trans ((ze _ w.heap.size 0 _ (by omega)).trans ((ze _ w.heap.size 1 _ (by omega)).trans ((ze _ w.heap.size 2 _ (by omega)).trans ((ze _ w.heap.size 3 _ (by omega)).trans (ze _ w.heap.size 4 _ (by omega))))))
set_option maxHeartbeats 40000000
theorem VX (b:Value) (s:SupP) (w:World) (hb:Byts w b (tk s)) (hs:YV s) :
  Calls Tryz.prog 191 #[b] w fun e w'=>e= .returned (.tuple #[.agg (scells s).toArray,.int .i64 0])∧Below w.heap.size w w':=by
 have HEN:=KZ9 (fun W=>gU s W hs);obtain ⟨gen,act,ep,len,sum⟩:=s;obtain ⟨k0,k1,k2,k3,k4⟩:=hs;simp only at k0 k1 k2 k3 k4;obtain ⟨l,hle⟩:=KZ6 (tk ⟨gen,act,ep,len,sum⟩);have hl:l.length=64:=by rw [hle];exact yf _
 have e60:l.take 60=t7 ⟨gen,act,ep,len,sum⟩:=by rw [hle];exact List.take_left' (vt _)
 have e60':l.drop 60=le 4 (wX (t7 ⟨gen,act,ep,len,sum⟩)):=by rw [hle];exact List.drop_left' (vt _)
 have e6:(l.drop 6).take 8=le 8 gen:=by rw [hle];rfl
 have e14:(l.drop 14).take 4=le 4 ep:=by rw [hle];rfl
 have e18:(l.drop 18).take 4=le 4 len:=by rw [hle];rfl
 have e22:(l.drop 22).take 4=le 4 sum:=by rw [hle];rfl
 have e5:l[5]? =some (UInt8.ofNat act):=by rw [hle];rfl
 rw [←hle] at hb;have HLE:=KZ9 hle;obtain ⟨a,cap,rfl,h1,h2,hc⟩:=hb.open;have HCON:=KZ9 (fun W (hW:Below w.heap.size w W)=>(hb.below hW).conv);unfold maxLen at h2;obtain ⟨g,off,rfl,hg,hcell⟩:=hc (by omega);have hc5:=hcell 5 (by omega);have ha5:(l[5]'(by omega)).toNat=act:=by
  have:l[5]'(by omega)=UInt8.ofNat act:=by rw [List.getElem?_eq_getElem (by omega)] at e5;exact Option.some.inj e5
  rw [this,UInt8.toNat_ofNat_of_lt' (by show act<256;omega)]
 rw [ha5] at hc5;rw [hl] at h1 hb HCON ⊢;have hG:∀ o n m v,o+m=64→n≤8→n≤m→v<256 ^ n→(l.drop o).take n=le n v→∀ W,Below w.heap.size w W→Calls Tryz.prog 258 #[.slice (some ⟨g,off+o,none⟩) m (cap - o),.int .i64 (n:Int)] W fun e w'=>e= .returned (.int .u64 (v:Int))∧W=w':=by
  intro o n m v h3 h4 h5 h6 h7 W hW;have hcut:=hb.cut o m (cap - o) (by omega) (by omega) (by omega);have h8:=TD _ n _ W (hcut.below hW) h4 (by rw [List.length_take,List.length_drop];omega) (by rw [List.length_take];omega);rw [List.take_take,Nat.min_eq_left h5,h7,QF n v h6] at h8;exact h8
 have hcl:=qT (t7 ⟨gen,act,ep,len,sum⟩);have hq4:wX (t7 ⟨gen,act,ep,len,sum⟩)<256 ^ 4:=hcl;have HG0:=KZ9 (hG 60 4 4 _ (by decide) (by decide) (by decide) hq4 (by rw [e60'];rfl));have HG1:=KZ9 (hG 6 8 58 gen (by decide) (by decide) (by decide) k0 e6);have HG2:=KZ9 (hG 14 4 50 ep (by decide) (by decide) (by decide) k2 e14);have HG3:=KZ9 (hG 18 4 46 len (by decide) (by decide) (by decide) (Nat.lt_of_le_of_lt k3 (by decide)) e18);have HG4:=KZ9 (hG 22 4 42 sum (by decide) (by decide) (by decide) k4 e22);have hc2:=hb.cut 0 60 cap (by omega) (by omega) (by omega);have HC:=KZ9 (fun W (hW:Below w.heap.size w W)=>tX _ _ W (hc2.below hW) (by rw [List.length_take];omega));rw [List.drop_zero,e60] at HC;simp only [Nat.add_zero] at HC;generalize wX (t7 ⟨gen,act,ep,len,sum⟩)=q at HG0 HC hcl;clear hG hq4 hc2 e60 e60' e6 e14 e18 e22 e5 ha5 hle hl hc hcell hb
 have wq:IntKind.u32.wrap (q:Int)=(q:Int):=by rw [IntKind.wrap_u32];omega
 have we:IntKind.u32.wrap (ep:Int)=(ep:Int):=by rw [IntKind.wrap_u32];omega
 have ws:IntKind.u32.wrap (sum:Int)=(sum:Int):=by rw [IntKind.wrap_u32];omega
 have wl:IntKind.i64.wrap (len:Int)=(len:Int):=by rw [IntKind.wrap_i64];omega
 have wa:IntKind.i64.wrap (act:Int)=(act:Int):=by rw [IntKind.wrap_i64];omega
 obtain ⟨W0,hW0⟩:∃ W,w.alloc (.cells #[.int .u64 0,.int .i64 0,.int .u32 0,.int .i64 0,.int .u32 0] 155)=W:=⟨_,rfl⟩;have hk0:=BlkL.new w 155 szero;have hb0:=(Below.refl _ w).alloc (Nat.le_refl _) (.cells szero.toArray 155);simp only [szero] at hk0 hb0;rw [show w.alloc (.cells [Value.int .u64 0,.int .i64 0,.int .u32 0,.int .i64 0,.int .u32 0].toArray 155)=W0 from hW0] at hk0 hb0;have hs0:W0.heap.size=w.heap.size+1:=by rw [←hW0];simp
 have HG0':=KZ9 (HG0.out W0.drew (below_drewN hb0 1));have HC':=KZ9 (HC.out W0.drew (below_drewN hb0 1));have HB0:=KZ9 hb0;have HK0:=KZ9 hk0;clear hb0 hk0 HG0 HC;have n60:¬ cap=60:=by omega
 have h60:60≤cap:=by omega
 simp only [scells] at HEN ⊢;go_enter Tryz.func191,Tryz.ntmps191
 go_upto_region 3 with fail
 all_goals try omega
 go_cut [12] (fun s wx=>s= .bool false∧wx=W0.drew)
 case first =>
  clear HK0 HB0 HG1 HG2 HG3 HG4;go_region_with (first
   | (go_at_call 258;refine HG0'.out.mono ?_;rintro e w9 ⟨rfl,rfl⟩)
   | (go_at_call 67;refine HC'.out.mono ?_;rintro e w9 ⟨rfl,rfl⟩))
  all_goals (go_wp2;go_meet;exact ⟨by simp,rfl⟩)
 case rest =>
 obtain ⟨rfl,rfl⟩:=hcut;have hk1:=HK0.out.drew;have hb1:=below_drewN HB0.out 1;have hs1:W0.drew.heap.size=w.heap.size+1:=hs0;change Below w.heap.size w W0.drew at hb1;clear HG0' HC' hW0 HK0 HB0 wq hs0;generalize W0.drew=W1 at hk1 hb1 hs1 ⊢;have HK1:=KZ9 hk1;have HB1:=KZ9 hb1;have hx5:W1.cell? ⟨g,off+5,none⟩=some (.int .u8 (act:Int)):=((wj hb1).1 g (off+5) hg).trans hc5;have hx5':(W1.alloc (.cells #[.int .u64 0,.int .i64 0,.int .u32 0,.int .i64 0,.int .u32 0] 155)).cell? ⟨g,off+5,none⟩=some (.int .u8 (act:Int)):=((wj (hb1.alloc (by omega) _)).1 g (off+5) hg).trans hc5;have HBA:Hid (Below w.heap.size w W1.drew):=KZ9 (below_drewN hb1 1);have HBB:Hid (Below w.heap.size w (W1.alloc (.cells #[.int .u64 0,.int .i64 0,.int .u32 0,.int .i64 0,.int .u32 0] 155)).drew):=KZ9 (below_drewN (hb1.alloc (by omega) (.cells #[.int .u64 0,.int .i64 0,.int .u32 0,.int .i64 0,.int .u32 0] 155)) 1)
 clear hk1 hb1 hc5 hs1;have n6:¬ cap=6:=by omega
 have n14:¬ cap=14:=by omega
 have n18:¬ cap=18:=by omega
 have n22:¬ cap=22:=by omega
 go_upto_region 5 with fail
 all_goals try omega
 go_cut [4] (fun s4 wx=>s4= .pointer (some ⟨W1.heap.size,0,none⟩)∧BlkL wx W1.heap.size 155 [.int .u64 (gen:Int),.int .i64 (act:Int),.int .u32 (ep:Int),.int .i64 (len:Int),.int .u32 (sum:Int)]∧Below W1.heap.size W1 wx∧wx.heap.size=W1.heap.size+1)
 case first =>
  clear HEN HCON HK1 HB1;obtain ⟨v1,hv1⟩:∃ v,Value.slice (some ⟨g,off+6,none⟩) 58 (cap - 6)=v:=⟨_,rfl⟩;rw [hv1] at HG1;obtain ⟨v2,hv2⟩:∃ v,Value.slice (some ⟨g,off+14,none⟩) 50 (cap - 14)=v:=⟨_,rfl⟩;rw [hv2] at HG2;obtain ⟨v3,hv3⟩:∃ v,Value.slice (some ⟨g,off+18,none⟩) 46 (cap - 18)=v:=⟨_,rfl⟩;rw [hv3] at HG3;obtain ⟨v4,hv4⟩:∃ v,Value.slice (some ⟨g,off+22,none⟩) 42 (cap - 22)=v:=⟨_,rfl⟩;rw [hv4] at HG4;go_region_held3 (fun W=>W.cell? ⟨g,off+5,none⟩=some (.int .u8 (act:Int))) (go_keep) (first
   | (go_at_call_of 258 v1;refine (HG1.out _ (by first | exact HBA.out | exact HBB.out)).mono ?_;rintro e w9 ⟨rfl,rfl⟩)
   | (go_at_call_of 258 v2;refine (HG2.out _ (by first | exact HBA.out | exact HBB.out)).mono ?_;rintro e w9 ⟨rfl,rfl⟩)
   | (go_at_call_of 258 v3;refine (HG3.out _ (by first | exact HBA.out | exact HBB.out)).mono ?_;rintro e w9 ⟨rfl,rfl⟩)
   | (go_at_call_of 258 v4;refine (HG4.out _ (by first | exact HBA.out | exact HBB.out)).mono ?_;rintro e w9 ⟨rfl,rfl⟩))
  all_goals (go_wp2;go_meet;exact ⟨rfl,(BlkL.new _ _ _).drew,below_drewN ((Below.refl _ W1).alloc (Nat.le_refl _) _) 1,by simp⟩)
 case rest =>
 obtain ⟨rfl,hk2,hb2,hs2⟩:=hcut;have hb2':=HB1.out.trans (hb2.mono HB1.out.size);have hk2':=HK1.out.below HK1.out.lt hb2;have HK2:=KZ9 hk2;have HL2:=KZ9 hk2';have HB2:=KZ9 hb2';obtain ⟨c0,c1,c2,c3,c4⟩:=BlkL.cs5 hk2;clear hk2 hb2 hb2' hk2' HK1 HB1 HBA HBB HG1 HG2 HG3 HG4 hx5 hx5' we ws wl n6 n14 n18 n22 n60 h60;go_wp2_with fail
 refine (HEN.out _).mono ?_;rintro e w3 ⟨g3,rfl,hg3,hk3,hb3⟩;have hs3:=hb3.size;have q1:=(Byts.blk hk3 0 64 64 (by rw [yf];decide) (by decide) (by unfold maxLen;omega)).conv;rw [List.drop_zero,List.take_of_length_le (by rw [yf];exact Nat.le_refl _),←HLE.out] at q1;have hb3':=HB2.out.trans (hb3.mono HB2.out.size);have q2:=HCON.out w3 hb3';have hl3:=HL2.out.below HL2.out.lt hb3;have hk3':=HK2.out.below HK2.out.lt hb3;obtain ⟨d0,d1,d2,d3,d4⟩:=BlkL.cs5 hk3';obtain ⟨x0,x1,x2,x3,x4⟩:=BlkL.cs5 hl3;have f0:=hl3.f 0;have f1:=hl3.f 1;have f2:=hl3.f 2;have f3:=hl3.f 3;have f4:=hl3.f 4;have HL3:=KZ9 hl3;have HB3:=KZ9 hb3';obtain ⟨S,hS⟩:=KZ6 (mk l);rw [←hS] at q1 q2;clear hS hb3 hb3' hl3 hk3' hk3 HCON HL2 HK2 HB2 HEN HLE c0 c1 c2 c3 c4;go_wp2_with fail
 all_goals try omega
 have hR:=((((HL3.out.set 0 (by simp) (.int .u64 (gen:Int))).set 1 (by simp) (.int .i64 (act:Int))).set 2 (by simp) (.int .u32 (ep:Int))).set 3 (by simp) (.int .i64 (len:Int))).set 4 (by simp) (.int .u32 (sum:Int));refine bodyPost_ret (zf rfl _ _ w.heap.size 155 _ _ rfl hR Tryz.underlying155 rfl pj) rfl ?_;refine ⟨rfl,?_⟩;exact HB3.out.trans ((ze _ w.heap.size 0 _ (by omega)).trans ((ze _ w.heap.size 1 _ (by omega)).trans ((ze _ w.heap.size 2 _ (by omega)).trans ((ze _ w.heap.size 3 _ (by omega)).trans (ze _ w.heap.size 4 _ (by omega))))))
theorem sk {P:Program} {fn:Func} {u p v:Tmp} {ty:TypeId} (h:fn.results=#[.tmp u,.cell p ty,.tmp v]) (tmps:Array Value) (w:World) (g:Nat) (t:TypeId) (cs:Array Value) (d:TypeDesc)
  (hp:tmps.getD p undef= .pointer (some ⟨g,0,none⟩)) (hg:w.heap[g]? =some (.cells cs t (0,0))) (hu:P.underlying ty=some d) (hd:(match d with | .struct _ | .array _ _=>true | _=>false)=true) (hi:(P.info? ty).map (·.size)=some cs.size) :
  (results fn tmps).run P w= .ok (.tuple #[tmps.getD u undef,.agg cs,tmps.getD v undef]) w:=by
 have hp':tmps[p]?.getD undef= .pointer (some ⟨g,0,none⟩):=by simpa using hp
 simp [results,h,hp',asAddr,run_loadVar_row w g t ty cs (0,0) d hg hu hd hi,Result.andThen]
theorem VY (a b:Value) (s:SupP) (l:Bs) (w:World) (ha:Byts w a (tk s)) (hs:YV s) (hb:Byts w b l) (hl:l.length=64) (hne:rd ((l.drop 60).take 4)≠wX (l.take 60)) :
  Calls Tryz.prog 122 #[a,b] w fun e w'=>e= .returned (.tuple #[.int .i64 0,.agg (scells s).toArray,.int .i64 0])∧Below w.heap.size w w':=by
 obtain ⟨av,ac,rfl,ha1,ha2,_⟩:=ha.open;obtain ⟨bv,bc,rfl,hb1,hb2,_⟩:=hb.open;rw [yf] at ha ha1 ⊢;rw [hl] at hb hb1 ⊢;obtain ⟨W0,hW0⟩:∃ W,w.alloc (.cells #[.int .u64 0,.int .i64 0,.int .u32 0,.int .i64 0,.int .u32 0] 155)=W:=⟨_,rfl⟩;have hk0:=BlkL.new w 155 szero;have hb0:=(Below.refl _ w).alloc (Nat.le_refl _) (.cells szero.toArray 155);simp only [szero] at hk0 hb0;rw [show w.alloc (.cells [Value.int .u64 0,.int .i64 0,.int .u32 0,.int .i64 0,.int .u32 0].toArray 155)=W0 from hW0] at hk0 hb0;have HD:=KZ9 (fun W (hW:Below w.heap.size w W)=>VX _ s W (ha.below hW) hs);have HE:=KZ9 (fun W (hW:Below w.heap.size w W)=>Xh _ l W (hb.below hW) hl hne);obtain ⟨gen,act,ep,len,sum⟩:=s;simp only [scells,szero] at HD HE ⊢;have HB0:=KZ9 hb0;have HK0:=KZ9 hk0;have hsz:W0.heap.size=w.heap.size+1:=by rw [←hW0];simp
 clear hb0 hk0 ha hb hs hl hne;have HW0:=KZ9 hW0;go_enter Tryz.func122,Tryz.ntmps122
 go_wp2_with fail
 refine (HD.out _ HB0.out).mono ?_;rintro e w1 ⟨rfl,hb1⟩;have hs1:=hb1.size;have hx1:=(HK0.out.below HK0.out.lt hb1).alloc (.cells #[.int .u64 (gen:Int),.int .i64 (act:Int),.int .u32 (ep:Int),.int .i64 (len:Int),.int .u32 (sum:Int)] 155);have hy1:=BlkL.new w1 155 [.int .u64 (gen:Int),.int .i64 (act:Int),.int .u32 (ep:Int),.int .i64 (len:Int),.int .u32 (sum:Int)];have hB1:=(HB0.out.trans (hb1.mono (by omega))).alloc (by omega) (.cells #[.int .u64 (gen:Int),.int .i64 (act:Int),.int .u32 (ep:Int),.int .i64 (len:Int),.int .u32 (sum:Int)] 155);have HX1:=KZ9 hx1;have HY1:=KZ9 hy1;have HB1:=KZ9 hB1;clear hb1 hx1 hy1 hB1 HK0 HB0 HD hW0;go_wp2_with fail
 refine (HE.out _ HB1.out).mono ?_;rintro e w2 ⟨rfl,hb2⟩;have hs2:=hb2.size;have hx2:=(HX1.out.below HX1.out.lt hb2).alloc (.cells #[.int .u64 0,.int .i64 0,.int .u32 0,.int .i64 0,.int .u32 0] 155);have hy2:=(HY1.out.below HY1.out.lt hb2).alloc (.cells #[.int .u64 0,.int .i64 0,.int .u32 0,.int .i64 0,.int .u32 0] 155);have HB2:=KZ9 ((HB1.out.trans (hb2.mono HB1.out.size)).alloc (by have:=HB1.out.size;omega) (.cells #[.int .u64 0,.int .i64 0,.int .u32 0,.int .i64 0,.int .u32 0] 155));have HX2:=KZ9 hx2;have HY2:=KZ9 hy2;clear hb2 hx2 hy2 HX1 HY1 HB1 HE;go_upto_region 8 with fail
 all_goals try omega
 obtain ⟨x0,x1,x2,x3,x4⟩:=BlkL.cs5 HX2.out;have f0:=HX2.out.f 0;have f1:=HX2.out.f 1;have f2:=HX2.out.f 2;have f3:=HX2.out.f 3;have f4:=HX2.out.f 4;obtain ⟨y0,y1,y2,y3,y4⟩:=BlkL.cs5 HY2.out;go_region
 go_wp2;have hR:=(((((HX2.out.set 0 (by simp) (.int .u64 (gen:Int))).set 1 (by simp) (.int .i64 (act:Int))).set 2 (by simp) (.int .u32 (ep:Int))).set 3 (by simp) (.int .i64 (len:Int))).set 4 (by simp) (.int .u32 (sum:Int))).drew;refine bodyPost_ret (sk rfl _ _ w.heap.size 155 _ _ rfl hR Tryz.underlying155 rfl pj) rfl ?_;refine ⟨rfl,?_⟩;exact Below.drew (HB2.out.trans ((ze _ w.heap.size 0 _ (by omega)).trans ((ze _ w.heap.size 1 _ (by omega)).trans ((ze _ w.heap.size 2 _ (by omega)).trans ((ze _ w.heap.size 3 _ (by omega)).trans (ze _ w.heap.size 4 _ (by omega)))))))
def ya (dd F N epoch fin rec syn:Nat):List Value:=[.pointer (some ⟨dd,0,none⟩),.int .i64 (F:Int),.int .i64 (N:Int),.int .u32 (epoch:Int),.int .i64 (fin:Int),.int .i64 (rec:Int),.int .i64 (syn:Int),.bool false]
theorem gN (t dd F N epoch fin rec syn:Nat) (w:World) (h:BlkL w t 251 (ya dd F N epoch fin rec syn)):Calls Tryz.prog 155 #[.pointer (some ⟨t,0,none⟩)] w fun e w'=>e= .returned (.bool false)∧w=w':=by
 have c7:=h.c 7 _ rfl;go_enter Tryz.func155,Tryz.ntmps155
 go_wp2;go_ret;exact ⟨rfl,rfl⟩
theorem Wr (t dd F N epoch fin rec syn:Nat) (w:World) (h:BlkL w t 251 (ya dd F N epoch fin rec syn)):Calls Tryz.prog 158 #[.pointer (some ⟨t,0,none⟩),.int .i64 0] w fun e w'=>e= .returned (.int .i64 0)∧BlkL w' t 251 (ya dd F N epoch fin rec syn)∧But (fun k=>k=t) w w':=by
 have c7:=h.c 7 _ rfl;have f7:=h.f 7;have HR:=KZ9 (h.set 7 (by simp [ya]) (.bool false));have HB:=KZ9 (But.set (But.refl (fun k=>k=t) w) (.inl rfl) 7 (.bool false):But (fun k=>k=t) w (w.setCell ⟨t,7,none⟩ (.bool false)));clear h;go_enter Tryz.func158,Tryz.ntmps158
 go_wp2;go_ret;exact ⟨rfl,HR.out,HB.out⟩
theorem Rg (t dd F N epoch fin rec syn:Nat) (w:World) (h:BlkL w t 251 (ya dd F N epoch fin rec syn)) (hN:N≤1000) (hf:fin≤64*N):Calls Tryz.prog 157 #[.pointer (some ⟨t,0,none⟩)] w fun e w'=>e= .returned (.int .i64 ((64*N - fin:Nat):Int))∧Below w.heap.size w w':=by
 have c1:=h.drew.c 1 _ rfl;have c2:=h.drew.c 2 _ rfl;have c4:=h.drew.c 4 _ rfl;have HS:=KZ9 (qQ F N w.drew hN);have HC:=KZ9 (fun W (hW:Below w.heap.size w W)=>(h.below h.lt hW).c 4 _ rfl);clear h;go_enter Tryz.func157,Tryz.ntmps157
 go_upto_region 3 with fail
 all_goals try omega
 go_region_with (go_at_call 134;refine HS.out.mono ?_;rintro e w1 ⟨rfl,hb1⟩;have hb1':Below w.heap.size w w1:=(Below.refl w.heap.size w).drew.trans hb1;have d4:=HC.out w1 hb1')
 all_goals (
  have HB:=KZ9 hb1';clear hb1 hb1' c1 c2 c4;go_wp2;go_ret;exact ⟨xz (by first | omega | (rw [IntKind.wrap_i64];omega) | (simp;omega)),HB.out⟩)
theorem Tc (t g o m c:Nat) (T:TypeId) (l:List Value) (w:World) (hg:BlkL w g T l) (hz:∀ j,j<m→l[o+j]? =some (.int .u8 0)) (hm:m≤100000) :
  Calls Tryz.prog 195 #[.pointer (some ⟨t,0,none⟩),.slice (some ⟨g,o,none⟩) m c] w fun e w'=>e= .returned (.int .i64 0)∧But (fun _=>False) w w':=by
 have HG:=KZ9 hg;have HZ:=KZ9 hz;clear hg hz;go_enter Tryz.func195,Tryz.ntmps195
 go_wp2;go_loopw [5,9] (fun bv iv wr=>∃ j:Nat,iv= .int .i64 j∧j≤m∧bv= .bool true∧Hid (BlkL wr g T l)∧Hid (But (fun _=>False) w wr)) (fun _ iv _=>m - (intOf iv).toNat)
 case atStart=>exact ⟨0,rfl,by omega,rfl,HG,KZ9 (But.refl _ _)⟩
 case round =>
  obtain ⟨j,rfl,hj,rfl,hO,hB⟩:=hrel;by_cases hlt:j<m
  ·have hx:=hO.out.c (o+j) _ (HZ.out j hlt);have hf:=hO.out.f (o+j);go_wp2_with fail
   all_goals try omega
   have hset:l.set (o+j) (.int .u8 0)=l:=by
    apply List.ext_getElem?;intro k;rw [List.getElem?_set];split
    ·rename_i h;subst h;split
     ·exact (HZ.out j hlt).symm
     rename_i h2;exact (List.getElem?_eq_none (by omega)).symm
    rfl
   have hO2:=hO.out.set (o+j) (List.getElem?_eq_some_iff.1 (HZ.out j hlt)).1 (.int .u8 0);rw [hset] at hO2;refine ⟨⟨j+1,by go_num,by omega,rfl,KZ9 hO2,KZ9 (hB.out.trans ⟨rfl,rfl,rfl,by simp,fun k hk _=> ?_⟩)⟩,by simp [intOf];omega⟩;by_cases hk2:k=g
   ·subst hk2;exact hO2.trans hO.out.symm
   exact Below.heap_setCell wr ⟨g,o+j,none⟩ _ k hk2
  obtain rfl:j=m:=by omega
  go_wp2
  all_goals try omega
  go_ret;exact ⟨rfl,hB.out⟩
theorem UK (epoch seq:Nat) (v:Value) (p:Bs) (w:World) (hv:Byts w v p) (hp:p.length≤1024) (he:epoch<4294967296) (hs:seq<4294967296) :
  Calls Tryz.prog 156 #[.int .u32 (epoch:Int),.int .u32 (seq:Int),v] w fun e w'=>∃ a c,e= .returned (.tuple #[.slice a (14+p.length) c,.int .i64 0])∧w'.ownsRow w.heap.size 5 1 (.slice a (14+p.length) c) (14+p.length) (zc (sd epoch seq p))∧Below w.heap.size w w':=by
 obtain ⟨iB0,iB⟩:=info_parts yD;obtain ⟨a,cap,rfl,_,_,_⟩:=hv.open;have HV:=KZ9 hv;obtain ⟨n,hn⟩:=KZ6 p.length;have HN:=KZ9 hn;rw [←hn] at hp HV ⊢;have hsz:=fun W=>Vj n W hp;have HSZ:=KZ9 hsz;clear hv hn hsz;go_enter Tryz.func156,Tryz.ntmps156
 go_wp2_with (first
  | (go_at_call 219;refine (HSZ.out _).mono ?_;rintro e w' ⟨rfl,rfl⟩)
  | (at_make;refine wpList_make_own _ rfl _ _ 34 rfl w.heap.size 5 iB0 (.int .u8 0) 1 Tryz.underlying34 iB.1 iB.2.1 iB.2.2.1 .i64 .i64 _ (14+n) rfl rfl (by omega) (by rw [iB.2.2.2];omega) (by unfold maxLen;omega) (Nat.le_refl _) ?_;intro w1 hown1 hgrow1))
 all_goals try omega
 have hs1:w.heap.size≤w1.heap.size:=hgrow1.size;have HB1:=KZ9 ((Below.refl w.heap.size w).grown hgrow1 (Nat.le_refl _) (by simp));have HC2:=KZ9 (rg w.heap.size _ 0 [] n 2 w1 hown1 hs1 (by omega) (by omega) (by omega));clear hown1 hgrow1;refine HC2.out.mono ?_;rintro e w2 ⟨b2,rfl,hown2,hb2⟩;obtain ⟨a2,c2,rfl⟩:=wL hown2;have hs2:w.heap.size≤w2.heap.size:=Nat.le_trans hs1 hb2.size;have HB2:=KZ9 (HB1.out.trans hb2);have HC3:=KZ9 (rg w.heap.size _ (0+2) _ epoch 4 w2 hown2 hs2 (by omega) (by omega) he);clear hown2 hb2 HC2 HB1;go_wp2_with fail
 refine HC3.out.mono ?_;rintro e w3 ⟨b3,rfl,hown3,hb3⟩;obtain ⟨a3,c3,rfl⟩:=wL hown3;have hs3:w.heap.size≤w3.heap.size:=Nat.le_trans hs2 hb3.size;have HB3:=KZ9 (HB2.out.trans hb3);have HC4:=KZ9 (rg w.heap.size _ (0+2+4) _ seq 4 w3 hown3 hs3 (by omega) (by omega) hs);clear hown3 hb3 HC3 HB2;go_wp2_with fail
 refine HC4.out.mono ?_;rintro e w4 ⟨b4,rfl,hown4,hb4⟩;obtain ⟨a4,c4,rfl⟩:=wL hown4;have hs4:w.heap.size≤w4.heap.size:=Nat.le_trans hs3 hb4.size;have HB4:=KZ9 (HB3.out.trans hb4);have HO4:=KZ9 hown4;have HV4:=KZ9 (HV.out.below HB4.out);clear hown4 hb4 HC4 HB3;go_wp2_with (at_builtin;refine vU _ rfl _ _ rfl w.heap.size _ (0+2+4+4) _ rfl HO4.out _ rfl p HV4.out (by rw [←HN.out];omega) hs4 ?_;intro v5 w5 hown5 hgrow5)
 obtain ⟨a5,c5,rfl⟩:=wL hown5;have hs5:w.heap.size≤w5.heap.size:=Nat.le_trans hs4 hgrow5.size;have HB5:=KZ9 (HB4.out.grown hgrow5 hs4 (fun k e=>(HO4.out.lt k e).1));have hcat:((([]++zc (le 2 n))++zc (le 4 epoch))++zc (le 4 seq))++zc p=zc (gG epoch seq p):=by
  simp only [gG,zz,List.nil_append,List.append_assoc,←HN.out]
 have hl5:(gG epoch seq p).length=0+2+4+4+p.length:=by have:=pV epoch seq p;omega
 rw [hcat] at hown5;have hby5:Byts w5 (.slice a5 (0+2+4+4+p.length) c5) (gG epoch seq p):=Byts.owned (by rw [hl5];exact hown5);have hlt6:wX (gG epoch seq p)<4294967296:=qT _;have HC6:=KZ9 (tX _ _ w5 hby5 (by rw [hl5,←HN.out];omega));obtain ⟨s6,hs6⟩:=KZ6 (wX (gG epoch seq p));have HS6:=KZ9 hs6;rw [←hs6] at HC6 hlt6;have HC7:=KZ9 (rg w.heap.size _ (0+2+4+4+p.length) _ s6 4 w5 hown5 hs5 (by rw [←HN.out];omega) (by omega) hlt6);rw [←HN.out] at HC7 HC6 ⊢;clear hown5 hgrow5 hcat hl5 hby5 hs6;go_wp2_with (go_at_call 67;refine HC6.out.mono ?_;rintro e w' ⟨rfl,rfl⟩)
 refine HC7.out.mono ?_;rintro e w7 ⟨b7,rfl,hown7,hb7⟩;obtain ⟨a7,c7,rfl⟩:=wL hown7;go_wp2;go_ret2;have hn7:0+2+4+4+n+4=14+n:=by omega
 rw [hn7] at hown7;refine ⟨a7,c7,by rw [hn7];rfl,?_,HB5.out.trans hb7⟩;rw [←zz,HS6.out] at hown7;exact hown7
theorem VA (I:DK) (K:Nat→Prop) (t n F N epoch fin rec syn:Nat) (S C p:Bs) (v:Value) (w:World) (hL:BlkL w t 251 (ya I.dd F N epoch fin rec syn)) (ht:¬ I.S t) (h:Disk I w K n S C) (hK:∀ k,K k→k<w.heap.size) (hv:Byts w v p) (hp:p.length≤1024) (hN:1≤N) (hN2:N≤1000) (hF:F+N≤n) (hr:fin+(14+p.length)≤64*N) (he:epoch<4294967296) (hrec:rec<1000000) :
  Calls Tryz.prog 95 #[.pointer (some ⟨t,0,none⟩),v] w fun e w'=>e= .returned (.int .i64 0)∧BlkL w' t 251 (ya I.dd F N epoch (fin+(14+p.length)) (rec+1) syn)∧Disk I w' (fun k=>K k∨(w.heap.size≤k∧k<w'.heap.size)) n S (splice C (64*F+fin) (sd epoch rec p))∧But (fun k=>I.S k∨k=t) w w':=by
 have HFA:=KZ9 (gN t I.dd F N epoch fin rec syn w hL);have HEN:=KZ9 (UK epoch rec v p w.drew (hv.below ((Below.refl _ w).drew)) hp he (by omega));have HFR:=KZ9 (fun W (hW:Below w.heap.size w W)=>Rg t I.dd F N epoch fin rec syn W (hL.below hL.lt hW) hN2 (by omega));have hlen:(sd epoch rec p).length=14+p.length:=pW _ _ _;obtain ⟨D,hD⟩:=KZ6 (sd epoch rec p);rw [←hD] at hlen HEN ⊢;obtain ⟨m,hm⟩:=KZ6 (14+p.length);rw [←hm] at hlen HEN hr ⊢;have HWR:=KZ9 (fun W u (hW:Below w.heap.size w W) (hu:Byts W u D) (hb:∀ k,u.ownBlock=some k→¬ I.S k)=>Yt I K n F N fin S C D u W (h.below hW) hN hF (by rw [hlen];exact hr) (fun k hk=>Nat.lt_of_lt_of_le (hK k hk) hW.size) hu hb);have HFL:=KZ9 (fun W hW=>Wr t I.dd F N epoch fin rec syn W hW);have HLt:=KZ9 (fun k (hk:I.S k)=>h.lt k hk);have HM:=KZ9 (fun W (hW:Below w.heap.size w W)=>hL.below hL.lt hW)
 have hml:m≤1038:=by omega
 have wr:IntKind.u32.wrap (rec:Int)=(rec:Int):=by rw [IntKind.wrap_u32];omega
 have q2:=hL.drew.c 3 _ rfl;have q4:=hL.drew.c 5 _ rfl;clear hD hm hv h hL hK hp;go_enter Tryz.func95,Tryz.ntmps95
 go_wp2_with fail
 refine HFA.out.mono ?_;rintro e w1 ⟨rfl,rfl⟩;go_upto_region 3 with fail
 all_goals try omega
 go_cut [5,6] (fun s5 s6 wx=>∃ a c,s5= .slice a m c∧s6= .int .i64 0∧Hid (wx.ownsRow w.heap.size 5 1 (.slice a m c) m (zc D))∧Hid (Below w.heap.size w wx))
 case first =>
  clear HFR HWR HFL HLt HM;go_region_with (go_at_call 156;refine HEN.out.mono ?_;rintro e w2 ⟨a,c,rfl,ho2,hb2⟩;have hb2':Below w.heap.size w w2:=(Below.refl w.heap.size w).drew.trans hb2)
  all_goals (go_wp2;go_meet;exact ⟨a,c,rfl,rfl,KZ9 ho2,KZ9 hb2'⟩)
 case rest =>
 obtain ⟨a,c,rfl,rfl,HO,HB⟩:=hcut;clear q2 q4 HEN HFA;go_wp2_with fail
 refine (HFR.out wc HB.out).mono ?_;rintro e w3 ⟨rfl,hb3⟩;have HB3:=KZ9 (HB.out.trans (hb3.mono HB.out.size));have hbl:D.length=m:=hlen;have hby:Byts wc (.slice a m c) D:=by
  have h8:=HO.out;rw [←hbl] at h8 ⊢;exact Byts.owned h8
 have HBY:=KZ9 ((hby.below hb3).below ((Below.refl _ w3).drew));have HGE:=KZ9 (T0 HO.out);have hM3:=HM.out w3.drew HB3.out.drew;obtain ⟨c0,c1,c2⟩:=BlkL.cs3 hM3;have c4:=hM3.c 4 _ rfl;have HM3:=KZ9 hM3;clear hb3 hby hM3 HB HO HFR HM;have hd0:decide (64*N - fin<m)=false:=by rw [decide_eq_false_iff_not];omega
 go_upto_region 8 with fail
 all_goals try omega
 go_cut [7] (fun s7 wx=>s7= .int .i64 0∧Hid (BlkL wx t 251 (ya I.dd F N epoch fin rec syn))∧Hid (Disk I wx (fun k=>K k∨(w.heap.size≤k∧k<wx.heap.size)) n S (splice C (64*F+fin) D))∧Hid (But (fun k=>I.S k∨k=t) w wx))
 case first =>
  go_region_with (first
   | (go_at_call 132;refine (HWR.out w3.drew _ HB3.out.drew HBY.out (fun k hk hs=>by have h1:=HGE.out k hk;have h2:=HLt.out k hs;omega)).mono ?_;rintro e w4 ⟨rfl,hd4,hbt4⟩;have hl4:=HM3.out.but hbt4 ht)
   | (go_at_call 158;refine (HFL.out w4 hl4).mono ?_;rintro e w5 ⟨rfl,hl5,hbt5⟩))
  all_goals (
   have HD5:=KZ9 (((hd4.typed hl4 (by decide) (by decide) hbt5)).mono (K':=fun k=>K k∨(w.heap.size≤k∧k<w5.heap.size)) (fun k hk=>hk.imp id (fun h=>⟨Nat.le_trans HB3.out.size h.1,Nat.lt_of_lt_of_le h.2 hbt5.size⟩)));have HBT:=KZ9 (((But.of_below (fun k=>I.S k∨k=t) HB3.out.drew).step hbt4 (fun i hi=> .inl (.inl hi))).step hbt5 (fun i hi=> .inl (.inr hi)));have HL5:=KZ9 hl5;clear hd4 hbt4 hl4 hl5 hbt5;go_wp2;go_meet;exact ⟨rfl,HL5,HD5,HBT⟩)
 case rest =>
 obtain ⟨rfl,HL5,HD5,HBT⟩:=hcut;clear HWR HFL HBY HGE HM3 HB3 c0 c1 c2 c4;have c4:=HL5.out.c 4 _ rfl;have c5:=HL5.out.c 5 _ rfl;have f4:=HL5.out.f 4;have f5:=HL5.out.f 5;have hlt:=HL5.out.lt;go_wp2_with fail
 all_goals try omega
 have hR:=(HL5.out.set 4 (by simp [ya]) (.int .i64 ((fin:Int)+(m:Int)))).set 5 (by simp [ya]) (.int .i64 ((rec:Int)+1));have h1:=HD5.out.typed HL5.out (by decide) (by decide) ((But.set (But.refl (fun k=>k=t) wc) (.inl rfl) 4 (.int .i64 ((fin:Int)+(m:Int)))).set (.inl rfl) 5 (.int .i64 ((rec:Int)+1)));go_ret;refine ⟨rfl,?_,h1.mono (fun k hk=>hk.imp id (fun h=>⟨h.1,by simpa using h.2⟩)),(HBT.out.set (.inl (.inr rfl)) _ _).set (.inl (.inr rfl)) _ _⟩;have e1:(((fin+m:Nat):Int))=(fin:Int)+(m:Int):=by omega
 have e2:(((rec+1:Nat):Int))=(rec:Int)+1:=by omega
 unfold ya;rw [e1,e2];exact hR
theorem Rf (I:DK) (K:Nat→Prop) (t n F N epoch fin rec syn:Nat) (S C:Bs) (w:World) (hL:BlkL w t 251 (ya I.dd F N epoch fin rec syn)) (ht:¬ I.S t) (h:Disk I w K n S C) :
  Calls Tryz.prog 97 #[.pointer (some ⟨t,0,none⟩)] w fun e w'=>e= .returned (.int .i64 0)∧BlkL w' t 251 (ya I.dd F N epoch fin rec rec)∧Disk I w' K n C C∧But (fun k=>I.S k∨k=t) w w':=by
 have HFA:=KZ9 (gN t I.dd F N epoch fin rec syn w hL);have HSY:=KZ9 (cE I w K n S C h);have HFL:=KZ9 (fun W hW=>Wr t I.dd F N epoch fin rec syn W hW);have HL:=KZ9 hL;have c0:=hL.c 0 _ rfl;clear hL h;go_enter Tryz.func97,Tryz.ntmps97
 go_wp2_with fail
 refine HFA.out.mono ?_;rintro e w1 ⟨rfl,rfl⟩;go_wp2_with fail
 refine HSY.out.mono ?_;rintro e w1 ⟨rfl,hd1,hb1⟩;have hl1:=HL.out.but hb1 ht;go_wp2_with fail
 refine (HFL.out w1 hl1).mono ?_;rintro e w2 ⟨rfl,hl2,hb2⟩;have HD2:=KZ9 (hd1.typed hl1 (by decide) (by decide) hb2);have HB2:=KZ9 (((But.refl (fun k=>I.S k∨k=t) w).step hb1 (fun i hi=> .inl (.inl hi))).step hb2 (fun i hi=> .inl (.inr hi)));have HL2:=KZ9 hl2;have d5:=hl2.c 5 _ rfl;have d6:=hl2.c 6 _ rfl;have f6:=hl2.f 6;clear hd1 hb1 hl1 hb2 hl2 c0 HL;go_wp2_with fail
 all_goals try omega
 have hR:=HL2.out.set 6 (by simp [ya]) (.int .i64 (rec:Int));have h1:=HD2.out.typed HL2.out (by decide) (by decide) (But.set (But.refl (fun k=>k=t) w2) (.inl rfl) 6 (.int .i64 (rec:Int)));go_ret;exact ⟨rfl,hR,h1,HB2.out.set (.inl (.inr rfl)) _ _⟩
theorem Sy (v:Value) (l:Bs) (epoch:Nat) (w:World) (hv:Byts w v l) (hl:l.length≤100000) (he:epoch<4294967296) (h0:uh l epoch 0=none):Calls Tryz.prog 194 #[v,.int .u32 (epoch:Int)] w fun e w'=>e= .returned (.tuple #[.slice none 0 0,.int .i64 0])∧Below w.heap.size w w':=by
 obtain ⟨a,cap,rfl,k1,k2,hc⟩:=hv.open;have hd:=pA _ l epoch 0 w hv hl he (by omega);unfold ve at hd;rw [h0] at hd;have HD:=KZ9 hd;obtain ⟨n,hn⟩:=KZ6 l.length;rw [←hn] at hl k1 HD ⊢;clear hv hc hd h0 hn;go_enter Tryz.func194,Tryz.ntmps194
 go_wp2;go_step3;go_wp2;go_step3;go_wp2;go_loopw [6,7,8] (fun ov ev sv wr=>ov= .slice none 0 0∧ev= .int .i64 0∧sv= .int .u32 0∧wr=w) (fun _ _ _ _=>0)
 case atStart=>exact ⟨rfl,rfl,rfl,rfl⟩
 case round =>
  obtain ⟨rfl,rfl,rfl,rfl⟩:=hrel;go_wp2_with fail
  all_goals try omega
  refine HD.out.mono ?_;rintro e w1 ⟨⟨c,hc,rfl⟩,hb⟩;have hne:(c != (0:Int))=true:=by simpa using hc
  clear hc;go_wp2
  all_goals try omega
  (try rw [Exit.noGoto_ret])
  go_ret2;exact ⟨rfl,hb⟩
theorem ZH (v:Value):v.ownBlock=none∨v.ownBlock≠none:=by cases v.ownBlock<;>simp
theorem R2:(Tryz.prog.info? 34).map (fun i=>(i.zero,i.size,i.bytes))=some (some (.slice none 0 0),1,24):=by kernel_rfl
theorem Sx (v:Value) (l p:Bs) (epoch k:Nat) (w:World) (hv:Byts w v l) (hl:l.length≤100000) (he:epoch<4294967296) (h0:uh l epoch 0=some (p,k)) (h1:uh (l.drop k) epoch 1=none) (hk:k<l.length) :
  Calls Tryz.prog 194 #[v,.int .u32 (epoch:Int)] w fun e w'=>∃ g cg a c,e= .returned (.tuple #[.slice (some ⟨g,0,none⟩) 1 cg,.int .i64 (k:Int)])∧w.heap.size≤g∧g<w'.heap.size∧w'.cell? ⟨g,0,none⟩=some (.slice a p.length c)∧w'.ownsRow w.heap.size 5 1 (.slice a p.length c) p.length (zc p)∧Below w.heap.size w w':=by
 obtain ⟨iS0,iS⟩:=info_parts R2;obtain ⟨a,cap,rfl,k1,k2,hc⟩:=hv.open;have hd:=pA _ l epoch 0 w hv hl he (by omega);unfold ve at hd;rw [h0] at hd;have HD:=KZ9 hd;have HV:=KZ9 hv;obtain ⟨n,hn⟩:=KZ6 l.length;have HN:=KZ9 hn;rw [←hn] at hl k1 HD HV hk ⊢;have hln:14≤n:=by
  refine Nat.le_of_not_lt fun h=> ?_;unfold uh at h0;rw [if_pos (by omega)] at h0;cases h0
 obtain ⟨b,off,rfl,hb0,_⟩:=hc (by omega);have H1:=KZ9 h1;obtain ⟨m,hm⟩:=KZ6 p.length;have HM:=KZ9 hm;simp only [←hm] at HD ⊢;clear hv hc hd h0 hn h1 hm;go_enter Tryz.func194,Tryz.ntmps194
 go_wp2;go_step3;go_wp2;go_step3;go_wp2;go_loopw [6,7,8] (fun ov ev sv wr=>(ov= .slice none 0 0∧ev= .int .i64 0∧sv= .int .u32 0∧wr=w)∨(∃ g cg a1 c1,ov= .slice (some ⟨g,0,none⟩) 1 cg∧ev= .int .i64 (k:Int)∧sv= .int .u32 1∧w.heap.size≤g∧wr.cell? ⟨g,0,none⟩=some (.slice a1 m c1)∧Hid (g<wr.heap.size∧wr.ownsRow w.heap.size 5 1 (.slice a1 m c1) m (zc p)∧Below w.heap.size w wr))) (fun _ _ sv _=>1 - (intOf sv).toNat)
 case atStart=>exact .inl ⟨rfl,rfl,rfl,rfl⟩
 case round =>
  rcases hrel with ⟨rfl,rfl,rfl,rfl⟩ | ⟨g,cg,a1,c1,rfl,rfl,rfl,hg,hcell,hI⟩
  ·go_wp2_with fail
   all_goals try omega
   refine HD.out.mono ?_;rintro e w1 ⟨⟨a1,c1,rfl,hown⟩,hb⟩;have HO:=KZ9 hown;have HB:=KZ9 hb;have hbs:=hb.size;clear hown hb;go_wp2_with (at_builtin;refine wpList_append_own _ rfl _ _ 219 rfl wr.heap.size 34 iS0 (.slice none 0 0) 1 24 Tryz.underlying219 iS.1 iS.2.1 iS.2.2.1 iS.2.2.2 rfl (by decide) _ _ _ rfl (World.ownsRow_nil _ _ _ _) ⟨w1.heap.size,0,none⟩ 1 1 [.slice a1 m c1] rfl rfl (cell_one_new _ _ _) (by intro u hu;simp at hu;subst hu;rfl) (by unfold maxLen;omega) (by omega) (by simp;omega) ?_;intro v1 w2 hown1 hgrow1 hnil1)
   all_goals try omega
   have hgrow2:(w1.alloc (.cells #[.slice a1 m c1] 34)).grownBy w2 none:=hgrow1;clear hgrow1;have hO2:w2.ownsRow wr.heap.size 5 1 (.slice a1 m c1) m (zc p):=(HO.out.alloc _).kept hgrow2 (ZH _);have hB2:Below wr.heap.size wr w2:=(HB.out.alloc HB.out.size _).grown hgrow2 (by simp;omega) (by intro k hk;cases hk);have hown2:w2.ownsRow wr.heap.size 34 1 v1 1 [.slice a1 m c1]:=by simpa using hown1
   rcases hown2.2 with ⟨_,h⟩ | ⟨g,cg,cur,rfl,hg,hgg,_⟩
   ·cases h
   have hc0:=hown2.cells (g:=g) rfl 0 (.slice a1 m c1) rfl;refine ⟨.inr ⟨g,cg,a1,c1,rfl,rfl,rfl,hg,hc0,⟨(Array.getElem?_eq_some_iff.1 hgg).1,hO2,hB2⟩⟩,by simp [intOf]⟩
  obtain ⟨hglt,hO,hB⟩:=hI.out;have hd2:=pA (.slice (some ⟨b,off+k,none⟩) (n - k) (cap - k)) (l.drop k) epoch 1 wr (by
   have:=(HV.out.below hB).cut k (n - k) (cap - k) (by omega) (by omega) (by omega);rw [List.take_of_length_le (by rw [List.length_drop,←HN.out];omega)] at this;exact this) (by rw [List.length_drop,←HN.out];omega) he (by omega)
  unfold ve at hd2;rw [H1.out] at hd2;have HD2:=KZ9 hd2;have HO:=KZ9 hO;have HB:=KZ9 hB;clear hd2 hO hB hI;go_wp2_with fail
  all_goals try omega
  refine HD2.out.mono ?_;rintro e w2 ⟨⟨c,hc,rfl⟩,hb⟩;have hne:(c != (0:Int))=true:=by simpa using hc
  have hc2:=(hb.cell (p:=⟨g,0,none⟩) hglt).trans hcell;have HC2:=KZ9 hc2;have HBB:=KZ9 hb;clear hc hb hc2 hcell;go_wp2
  all_goals try omega
  (try rw [Exit.noGoto_ret])
  go_ret2;exact ⟨g,cg,a1,c1,rfl,hg,by have:=HBB.out.size;omega,HC2.out,HO.out.kept (row:=none) ⟨HBB.out.os,HBB.out.tape,HBB.out.output,HBB.out.size,fun k hk _=>HBB.out.block k hk⟩ (ZH _),HB.out.trans (HBB.out.mono HB.out.size)⟩
theorem bR (I:DK) (K:Nat→Prop) (n F N epoch k r:Nat) (S C:Bs) (Q:Option Addr→Nat→World→Prop) (w:World) (h:Disk I w K n S C) (hK:∀ k,K k→k<w.heap.size) (hN:1≤N) (hN2:N≤1000) (hF:F+N≤n) (he:epoch<4294967296) (hk:k<64*N) (hr:r≤1) (hz:∀ j,k≤j→j<64*N→((C.drop (64*F)).take (64*N))[j]? =some 0)
  (hQ:∀ a c W W',Q a c W→But I.S W W'→Q a c W')
  (hsc:∀ v W,w.heap.size≤W.heap.size→Byts W v ((C.drop (64*F)).take (64*N))→Calls Tryz.prog 194 #[v,.int .u32 (epoch:Int)] W fun e w'=>∃ a c,e= .returned (.tuple #[.slice a r c,.int .i64 (k:Int)])∧Q a c w'∧Below W.heap.size W w') :
  Calls Tryz.prog 124 #[.pointer (some ⟨I.dd,0,none⟩),.agg #[.int .i64 (F:Int),.int .i64 (N:Int)],.int .u32 (epoch:Int)] w fun e w'=>∃ t a c,e= .returned (.tuple #[.pointer (some ⟨t,0,none⟩),.slice a r c,.int .i64 0])∧w.heap.size≤t∧BlkL w' t 251 (ya I.dd F N epoch k r r)∧Q a c w'∧Disk I w' K n C C∧But I.S w w':=by
 obtain ⟨W0,hW0⟩:∃ W0,w.alloc (.cells #[.int .i64 (F:Int),.int .i64 (N:Int)] 143)=W0:=⟨_,rfl⟩;have hb0:Below w.heap.size w W0:=by rw [←hW0];exact (Below.refl _ w).alloc (Nat.le_refl _) _
 have hx0:BlkL W0 w.heap.size 143 [.int .i64 (F:Int),.int .i64 (N:Int)]:=by rw [←hW0];exact BlkL.new w _ _
 have HSZ:=KZ9 (qQ F N W0.drew hN2);have HRD:=KZ9 (fun W (hW:Below w.heap.size w W)=>Vn I K n F N 0 (64*N) S C W (h.below hW) hN hF (by omega) (fun k hk=>Nat.lt_of_lt_of_le (hK k hk) hW.size));have HB0:=KZ9 hb0;have HX0:=KZ9 hx0;have HLT:=KZ9 (fun k (hk:I.S k)=>h.lt k hk);have c0:=hx0.drew.c 0 _ rfl;have c1:=hx0.drew.c 1 _ rfl;have hlz:((C.drop (64*F)).take (64*N)).length=64*N:=by
  obtain ⟨_,_,hC,_⟩:=h;rw [List.length_take,List.length_drop];omega
 obtain ⟨l,hl⟩:=KZ6 ((C.drop (64*F)).take (64*N));rw [←hl] at hz hsc hlz;have HL:=KZ9 hl;have HZ:=KZ9 hz;have HSC:=KZ9 hsc;have HQ:=KZ9 hQ;have HLZ:=KZ9 hlz;clear h hb0 hx0 hz hsc hQ hlz hl;go_enter Tryz.func124,Tryz.ntmps124
 go_upto_region 1 with fail
 go_cut [9,10] (fun s9 s10 wx=>s10= .int .i64 0∧Hid (wx.ownsRow w.heap.size 5 1 s9 (64*N) (zc l))∧Hid (Disk I wx K n S C)∧Hid (But I.S w wx)∧Hid (BlkL wx w.heap.size 143 [.int .i64 (F:Int),.int .i64 (N:Int)]))
 case first =>
  clear HSC HQ;go_region_with (first
   | (go_at_call 134;refine HSZ.out.mono ?_;rintro e w1 ⟨rfl,hb1⟩;have hb1':=HB0.out.drew.trans (hb1.mono HB0.out.size);have hx1:=HX0.out.drew.below HX0.out.lt hb1;have d0:=hx1.c 0 _ rfl;have d1:=hx1.c 1 _ rfl)
   | (go_at_call 192;refine (HRD.out w1 hb1').mono ?_;rintro e w2 ⟨u,rfl,ho2,hd2,hbt2⟩))
  all_goals (
   rw [Nat.add_zero,←HL.out] at ho2;have ho3:=vr ho2 (show w.heap.size≤_ from hb1'.size);have hx2:=hx1.but hbt2 (fun hs=>by have:=HLT.out _ hs;omega);have hbt3:=(But.of_below I.S hb1').trans hbt2;go_wp2;go_meet;exact ⟨rfl,KZ9 ho3,KZ9 hd2,KZ9 hbt3,KZ9 hx2⟩)
 case rest =>
 obtain ⟨rfl,HO,HDK,HBT,HX⟩:=hcut;obtain ⟨m,hm⟩:=KZ6 (64*N);rw [←hm] at HO HZ HLZ hk;have hm2:m≤64000:=by omega
 obtain ⟨g,c,cur,hu,hgb,hg,hmc,hcm,hcs,hct⟩:∃ g c cur,u9= .slice (some ⟨g,0,none⟩) m c∧w.heap.size≤g∧BlkL wc g 5 cur∧m≤c∧c≤maxLen∧cur.length=c∧cur.take m=zc l:=by
  rcases HO.out.2 with ⟨_,h0⟩ | ⟨g,cap,cur,hv,hb,hg,h1,h2,h3,h4⟩
  ·omega
  exact ⟨g,cap,cur.toList,hv,hb,by unfold BlkL;simpa using hg,h1,h2,by simpa using h3,by simpa using h4⟩
 subst hu;have hby:Byts wc (.slice (some ⟨g,0,none⟩) m c) l:=by
  have h8:=HO.out;unfold Byts;rw [HLZ.out];exact Row.owned h8
 have hzc:∀ j,j<m - k→cur[k+j]? =some (.int .u8 0):=by
  intro j hj;have h1:(cur.take m)[k+j]? =some (.int .u8 0):=by
   have h2:=HZ.out (k+j) (by omega) (by omega);rw [hct];simp [zc,h2]
  rw [List.getElem?_take,if_pos (by omega)] at h1;exact h1
 have HS3:=KZ9 (HSC.out _ wc HBT.out.size hby);have HSW:=KZ9 HBT.out.size;unfold maxLen at hcm;have HG:=KZ9 hg;have HZC:=KZ9 hzc;clear hby hg hzc hct hcs HO HZ HLZ HL HSC HSZ HRD c0 c1 hm HX0 HB0 hW0;go_wp2_with fail
 refine HS3.out.mono ?_;rintro e w3 ⟨a3,c3,rfl,hq3,hb3⟩;have hs3:=hb3.size;have hx3:=HX.out.below HX.out.lt hb3;have d0:=hx3.c 0 _ rfl;have d1:=hx3.c 1 _ rfl;have n0:¬ c=k:=by omega
 have HB3:=KZ9 hb3;have HQ3:=KZ9 hq3;have HG3:=KZ9 (HG.out.below HG.out.lt hb3);have HEG:=KZ9 (fun t W (h:BlkL W g 5 cur)=>Tc t g k (m - k) (c - k) 5 cur W h HZC.out (by omega));clear hx3 hb3 hq3 HX HS3;go_wp2_with fail
 all_goals try omega
 have hlb:=BlkL.new w3 251 (ya I.dd F N epoch k r r);have hg3:=HG3.out.alloc (.cells (ya I.dd F N epoch k r r).toArray 251);refine (HEG.out w3.heap.size _ hg3).mono ?_;rintro e w4 ⟨rfl,hb4⟩;have hs4:w3.heap.size<w4.heap.size:=by have:=hb4.size;simp at this;omega
 have ht:¬ I.S w3.heap.size:=fun hs=>by have h1:=HLT.out _ hs;have h2:=HBT.out.size;omega
 have hd4:=((HDK.out.below HB3.out).below ((Below.refl _ w3).alloc (Nat.le_refl _) (.cells (ya I.dd F N epoch k r r).toArray 251))).kept hb4 (fun _ _ h=>h) (fun _ _ _ _ _ h=>h);have hb34:But I.S w3 w4:=((But.refl I.S w3).alloc (.cells (ya I.dd F N epoch k r r).toArray 251)).step hb4 (fun _ h=>h.elim);have HL4:=KZ9 (hlb.but hb4 (fun h=>h));have HQ4:=KZ9 (HQ.out a3 c3 w3 w4 HQ3.out hb34);have HB4:=KZ9 ((HBT.out.below HB3.out).trans hb34);have HSY:=KZ9 (cE I w4 K n S C hd4);have HT:=KZ9 ht;clear hlb hg3 hb4 hd4 hb34 HEG HG3 HQ3 HB3 HDK HBT ht d0 d1 n0;go_wp2_with fail
 refine HSY.out.mono ?_;rintro e w5 ⟨rfl,hd5,hb5⟩;have HD5:=KZ9 hd5;have HB5:=KZ9 (HB4.out.trans hb5);have HL5:=KZ9 (HL4.out.but hb5 HT.out);have HQ5:=KZ9 (HQ.out a3 c3 w4 w5 HQ4.out hb5);clear hd5 hb5 HSY HL4 HQ4 HB4;go_wp2_with fail
 go_ret3
 refine ⟨w3.heap.size,a3,c3,rfl,?_,HL5.out,HQ5.out,HD5.out,HB5.out⟩;exact Nat.le_trans (Nat.le_trans HSW.out hs3) (Nat.le_refl _)
theorem Tb (I:DK) (K:Nat→Prop) (n F N epoch:Nat) (S C:Bs) (w:World) (h:Disk I w K n S C) (hK:∀ k,K k→k<w.heap.size) (hN:1≤N) (hN2:N≤1000) (hF:F+N≤n) (he:epoch<4294967296) (hz:(C.drop (64*F)).take (64*N)=zs (64*N)) (hd:uh (zs (64*N)) epoch 0=none) :
  Calls Tryz.prog 124 #[.pointer (some ⟨I.dd,0,none⟩),.agg #[.int .i64 (F:Int),.int .i64 (N:Int)],.int .u32 (epoch:Int)] w fun e w'=>∃ t,e= .returned (.tuple #[.pointer (some ⟨t,0,none⟩),.slice none 0 0,.int .i64 0])∧w.heap.size≤t∧BlkL w' t 251 (ya I.dd F N epoch 0 0 0)∧Disk I w' K n C C∧But I.S w w':=by
 refine (bR I K n F N epoch 0 0 S C (fun a c _=>a=none∧c=0) w h hK hN hN2 hF he (by omega) (by omega) (fun j _ hj=>by rw [hz];simp [zs,hj]) (fun _ _ _ _ hq _=>hq) (fun v W _ hv=> ?_)).mono ?_
 ·rw [hz] at hv;refine (Sy v (zs (64*N)) epoch W hv (by rw [yV];omega) he hd).mono ?_;rintro e w' ⟨rfl,hb⟩;exact ⟨none,0,rfl,⟨rfl,rfl⟩,hb⟩
 rintro e w' ⟨t,a,c,rfl,h1,h2,⟨rfl,rfl⟩,h3,h4⟩;exact ⟨t,rfl,h1,h2,h3,h4⟩
theorem Ta (I:DK) (K:Nat→Prop) (n F N epoch k:Nat) (S C p:Bs) (w:World) (h:Disk I w K n S C) (hK:∀ k,K k→k<w.heap.size) (hN:1≤N) (hN2:N≤1000) (hF:F+N≤n) (he:epoch<4294967296) (hk:k<64*N) (hz:∀ j,k≤j→j<64*N→((C.drop (64*F)).take (64*N))[j]? =some 0)
  (hd0:uh ((C.drop (64*F)).take (64*N)) epoch 0=some (p,k)) (hd1:uh (((C.drop (64*F)).take (64*N)).drop k) epoch 1=none) :
  Calls Tryz.prog 124 #[.pointer (some ⟨I.dd,0,none⟩),.agg #[.int .i64 (F:Int),.int .i64 (N:Int)],.int .u32 (epoch:Int)] w fun e w'=>∃ t g cg a c,e= .returned (.tuple #[.pointer (some ⟨t,0,none⟩),.slice (some ⟨g,0,none⟩) 1 cg,.int .i64 0])∧w.heap.size≤t∧BlkL w' t 251 (ya I.dd F N epoch k 1 1)∧w.heap.size≤g∧g<w'.heap.size∧w'.cell? ⟨g,0,none⟩=some (.slice a p.length c)∧w'.ownsRow w.heap.size 5 1 (.slice a p.length c) p.length (zc p)∧Disk I w' K n C C∧But I.S w w':=by
 have hl:((C.drop (64*F)).take (64*N)).length=64*N:=by
  obtain ⟨_,_,_,hC,_⟩:=h;rw [List.length_take,List.length_drop];omega
 refine (bR I K n F N epoch k 1 S C (fun a0 _ W=>∃ g a c,a0=some ⟨g,0,none⟩∧w.heap.size≤g∧g<W.heap.size∧W.cell? ⟨g,0,none⟩=some (.slice a p.length c)∧W.ownsRow w.heap.size 5 1 (.slice a p.length c) p.length (zc p)) w h hK hN hN2 hF he hk (by omega) hz (fun a0 c0 W W' hq hb=> ?_) (fun v W hW hv=> ?_)).mono ?_
 ·obtain ⟨g,a,c,h1,h2,h3,h4,h5⟩:=hq;refine ⟨g,a,c,h1,h2,Nat.lt_of_lt_of_le h3 hb.size,?_,?_⟩
  ·rw [hb.cell h3 (fun hs=>by have:=h.lt _ hs;omega)];exact h4
  exact qC h5 hb (fun k' hk' hs=>by have:=h.lt _ hs;have:=(h5.lt k' hk').1;omega)
 ·refine (Sx v _ p epoch k W hv (by rw [hl];omega) he hd0 hd1 (by rw [hl];omega)).mono ?_;rintro e w' ⟨g,cg,a,c,rfl,h1,h2,h3,h4,h5⟩;exact ⟨some ⟨g,0,none⟩,cg,rfl,⟨g,a,c,rfl,Nat.le_trans hW h1,h2,h3,vr h4 hW⟩,h5⟩
 rintro e w' ⟨t,a0,c0,rfl,h1,h2,⟨g,a,c,rfl,h3,h4,h5,h6⟩,h7,h8⟩;exact ⟨t,g,c0,a,c,rfl,h1,h2,h3,h4,h5,h6,h7,h8⟩
def RecQ (base:Nat) (pl:Bs) (r:Nat) (a:Option Addr) (W:World):Prop:=r=1→∃ g pa pc,a=some ⟨g,0,none⟩∧base≤g∧g<W.heap.size∧W.cell? ⟨g,0,none⟩=some (.slice pa pl.length pc)∧W.ownsRow base 5 1 (.slice pa pl.length pc) pl.length (zc pl)
theorem RecQ.but {base r:Nat} {pl:Bs} {a:Option Addr} {W W':World} {S:Nat→Prop} (h:RecQ base pl r a W) (hb:But S W W') (hS:∀ k,S k→k<base):RecQ base pl r a W':=fun hr=>by
 obtain ⟨g,pa,pc,h1,h2,h3,h4,h5⟩:=h hr;refine ⟨g,pa,pc,h1,h2,Nat.lt_of_lt_of_le h3 hb.size,?_,?_⟩
 ·rw [hb.cell h3 (fun hs=>by have:=hS _ hs;omega)];exact h4
 exact qC h5 hb (fun k' hk' hs=>by have:=hS _ hs;have:=(h5.lt k' hk').1;omega)
def StV (base:Nat) (T:List PinP) (w:World) (v:Value):Prop:=∃ a c,v= .slice a T.length c∧Pins w v T∧(∀ k,v.ownBlock=some k→base≤k)∧(T=[]→v= .slice none 0 0)
theorem StV.but {base:Nat} {T:List PinP} {W W':World} {S:Nat→Prop} {v:Value} (h:StV base T W v) (hb:But S W W') (hS:∀ k,S k→k<base):StV base T W' v:=by
 obtain ⟨a,c,h1,h2,h3,h4⟩:=h;exact ⟨a,c,h1,Row.but h2 hb (fun k hk hs=>by have:=h3 k hk;have:=hS k hs;omega),h3,h4⟩
theorem TB (I:DK) (w:World) (n i:Nat) (S C:Bs) (h:DskE I w n S C) (hi:i<n):Calls Tryz.prog 121 #[.pointer (some ⟨I.dd,0,none⟩),.int .i64 (i:Int)] w fun e w'=>∃ g c,e= .returned (.tuple #[.slice (some ⟨g,0,none⟩) 64 c,.int .i64 0])∧w'.ownsRow w.heap.size 5 1 (.slice (some ⟨g,0,none⟩) 64 c) 64 (zc (sec C i))∧DskE I w' n S C∧But I.S w w':=by
 obtain ⟨K,hK,hd⟩:=h;refine (cF I w K n i S C hd hi).mono ?_;rintro e w1 ⟨g,c,rfl,ho,hd1,hb1⟩;exact ⟨g,c,rfl,ho,⟨K,fun k hk=>Nat.lt_of_lt_of_le (hK k hk) hb1.size,hd1⟩,hb1⟩
def stZ (dd:Nat):List Value:=[.pointer (some ⟨dd,0,none⟩),.int .i64 0,.int .i64 0,.int .i64 0,.int .i64 0,.int .i64 0,.int .i64 0,.int .i64 0,.int .i64 0,.int .i64 0,.int .i64 0,.int .u64 0,.int .i64 0,.int .u32 0,.int .i64 0,.int .u32 0,.pointer none,.bool false]
theorem WE (I:DK) (n cap h s k r:Nat) (C:Bs) (T:List PinP) (p:PinP) (pl:Bs) (B w:World) (HPL:∀ W,Calls Tryz.prog 63 #[.int .i64 (n:Int)] W fun e w'=>e= .returned (.tuple #[.agg (uW cap h s).toArray,.int .i64 0])∧Below W.heap.size W w')
  (hd:DskE I w n C C) (hG:Gnd I B w) (hs:1≤s) (hsh:s<h) (hn:2+h≤n) (h100:h≤100) (hc1:1≤cap) (hc2:cap≤1000) (hC:(C.drop (64*2)).take 2=[0,0]) (h0:sec C 0=tk wU) (h1:rd (((sec C 1).drop 60).take 4)≠wX ((sec C 1).take 60))
  (hT:(r=0∧T=[])∨(r=1∧T=[p]))
  (hWL:∀ W,DskE I W n C C→Calls Tryz.prog 124 #[.pointer (some ⟨I.dd,0,none⟩),.agg #[.int .i64 ((2+s:Nat):Int),.int .i64 ((h - s:Nat):Int)],.int .u32 1] W fun e w'=>∃ t a c,e= .returned (.tuple #[.pointer (some ⟨t,0,none⟩),.slice a r c,.int .i64 0])∧W.heap.size≤t∧BlkL w' t 251 (ya I.dd (2+s) (h - s) 1 k r r)∧RecQ W.heap.size pl r a w'∧DskE I w' n C C∧But I.S W w')
  (hUD:r=1→∀ b W,Base W→Byts W b pl→Calls Tryz.prog 125 #[b] W fun e w'=>e= .returned (.tuple #[.agg (zW p).toArray,.int .i64 0])∧Below W.heap.size W w')
  (hUA:r=1→∀ W,Base W→Calls Tryz.prog 45 #[.agg #[.int .i64 0,.slice none 0 0],.agg (zW p).toArray,.int .i64 (cap:Int)] W fun e w'=>∃ a c,e= .returned (.tuple #[.agg #[.int .i64 0,.slice a 1 c],.int .i64 0])∧Pins w' (.slice a 1 c) [p]∧(∀ k,(Value.slice a 1 c).ownBlock=some k→W.heap.size≤k)∧Below W.heap.size W w') :
  Calls Tryz.prog 62 #[.pointer (some ⟨I.dd,0,none⟩)] w fun e w'=>∃ ps t v,e= .returned (.tuple #[.pointer (some ⟨ps,0,none⟩),.agg #[.int .i64 0,v],.int .i64 0])∧w.heap.size≤ps∧w.heap.size≤t∧BlkL w' ps 188 (yJ I.dd cap h s wU (some ⟨t,0,none⟩))∧BlkL w' t 251 (ya I.dd (2+s) (h - s) 1 k r r)∧StV w.heap.size T w' v∧DskE I w' n C C∧But I.S w w':=by
 obtain ⟨z,hz⟩:=KZ6 w.heap.size;obtain ⟨W0,hW0⟩:∃ W0,((w.alloc (.cells #[.int .i64 0,.slice none 0 0] 49)).alloc (.cells #[.pointer (some ⟨I.dd,0,none⟩),.int .i64 0,.int .i64 0,.int .i64 0,.int .i64 0,.int .i64 0,.int .i64 0,.int .i64 0,.int .i64 0,.int .i64 0,.int .i64 0,.int .u64 0,.int .i64 0,.int .u32 0,.int .i64 0,.int .u32 0,.pointer none,.bool false] 188)).alloc (.cells #[.int .i64 0,.slice none 0 0] 49)=W0:=⟨_,rfl⟩;have hb0:Below w.heap.size w W0:=by rw [←hW0];exact (((Below.refl _ w).alloc (Nat.le_refl _) _).alloc (by simp) _).alloc (by simp;omega) _
 have hx0:BlkL W0 z 49 [.int .i64 0,.slice none 0 0]:=by rw [←hW0,hz];exact ((BlkL.new w _ _).alloc _).alloc _
 have hp0:BlkL W0 (z+1) 188 (stZ I.dd):=by
  have h8:=(BlkL.new (w.alloc (.cells #[.int .i64 0,.slice none 0 0] 49)) 188 (stZ I.dd)).alloc (.cells #[.int .i64 0,.slice none 0 0] 49);rw [World.size_alloc,←hz] at h8;rw [←hW0];exact h8
 have hy0:BlkL W0 (z+2) 49 [.int .i64 0,.slice none 0 0]:=by
  have h8:=BlkL.new ((w.alloc (.cells #[.int .i64 0,.slice none 0 0] 49)).alloc (.cells (stZ I.dd).toArray 188)) 49 [.int .i64 0,.slice none 0 0];rw [World.size_alloc,World.size_alloc,←hz] at h8;rw [←hW0];exact h8
 have hs0:W0.heap.size=z+3:=by rw [←hW0,hz];simp
 have HSE:=KZ9 (jY I W0 n _ _ (hd.below hb0));have HPN:=KZ9 HPL;have HX0:=KZ9 hx0;have HP0:=KZ9 hp0;have HY0:=KZ9 hy0;have HS0:=KZ9 hs0;have HB0:=KZ9 hb0;have HD:=KZ9 hd;have HG:=KZ9 hG;have HW0:=KZ9 hW0;have HWL:=KZ9 hWL;have HUD:=KZ9 hUD;have HUA:=KZ9 hUA;simp only [zW,zx] at HUD HUA;have HTT:=KZ9 hT;have HC:=KZ9 hC;have HC0:=KZ9 h0;have HC1:=KZ9 h1;have HLT:=KZ9 hd.lt;have HZ:=KZ9 hz;clear hx0 hp0 hy0 hs0 hb0 hd hG hW0 hWL hUD hUA hT hC h0 h1 HPL;have hL:∃ i1 i2 i3 i4 i5 i6 i7 i8 i9:Int,uW cap h s=[.int .i64 i1,.int .i64 i2,.int .i64 i3,.int .i64 i4,.int .i64 i5,.int .i64 i6,.int .i64 i7,.int .i64 i8,.int .i64 i9]∧i1=(cap:Int)∧i6=((2+s:Nat):Int)∧i7=((h - s:Nat):Int):=⟨_,_,_,_,_,_,_,_,_,rfl,rfl,rfl,rfl⟩;obtain ⟨i1,i2,i3,i4,i5,i6,i7,i8,i9,hL,e1,e6,e7⟩:=hL;have HL:=KZ9 hL
 rw [hL] at HPN;rw [←e6,←e7] at HWL;rw [←e1] at HUA;clear hL e1 e6 e7 hz;go_enter Tryz.func62,Tryz.ntmps62
 go_upto_region 4 with fail
 rw [HW0.out];rw [←HZ.out,show z+1+1=z+2 from rfl];go_cut [7] (fun s7 wx=>s7= .int .i64 0∧Hid (BlkL wx (z+1) 188 [.pointer (some ⟨I.dd,0,none⟩),.int .i64 i1,.int .i64 i2,.int .i64 i3,.int .i64 i4,.int .i64 i5,.int .i64 i6,.int .i64 i7,.int .i64 i8,.int .i64 i9,.int .i64 0,.int .u64 0,.int .i64 0,.int .u32 0,.int .i64 0,.int .u32 0,.pointer none,.bool false])∧Hid (But (fun k=>k=z+1) W0 wx))
 case first =>
  go_wp2_with fail
  refine HSE.out.mono ?_;rintro e w1 ⟨rfl,rfl⟩;go_wp2_with fail
  refine (HPN.out _).mono ?_;rintro e w1 ⟨rfl,hb1⟩;have hp1:=HP0.out.below HP0.out.lt hb1;have c1:=hp1.c 1 _ rfl;have f1:=hp1.f 1;have c2:=hp1.c 2 _ rfl;have f2:=hp1.f 2;have c3:=hp1.c 3 _ rfl;have f3:=hp1.f 3;have c4:=hp1.c 4 _ rfl;have f4:=hp1.f 4;have c5:=hp1.c 5 _ rfl;have f5:=hp1.f 5;have c6:=hp1.c 6 _ rfl;have f6:=hp1.f 6;have c7:=hp1.c 7 _ rfl;have f7:=hp1.f 7;have c8:=hp1.c 8 _ rfl;have f8:=hp1.f 8;have c9:=hp1.c 9 _ rfl;have f9:=hp1.f 9;have HP1:=KZ9 hp1;have HB1:=KZ9 hb1;clear hp1 hb1;go_wp2_with fail
  go_meet;exact ⟨rfl,KZ9 (((((((((HP1.out.set 1 (by simp [stZ]) (.int .i64 i1)).set 2 (by simp [stZ]) (.int .i64 i2)).set 3 (by simp [stZ]) (.int .i64 i3)).set 4 (by simp [stZ]) (.int .i64 i4)).set 5 (by simp [stZ]) (.int .i64 i5)).set 6 (by simp [stZ]) (.int .i64 i6)).set 7 (by simp [stZ]) (.int .i64 i7)).set 8 (by simp [stZ]) (.int .i64 i8)).set 9 (by simp [stZ]) (.int .i64 i9)),KZ9 ((((((((((But.of_below (fun k=>k=z+1) HB1.out).set (.inl rfl) 1 (.int .i64 i1)).set (.inl rfl) 2 (.int .i64 i2)).set (.inl rfl) 3 (.int .i64 i3)).set (.inl rfl) 4 (.int .i64 i4)).set (.inl rfl) 5 (.int .i64 i5)).set (.inl rfl) 6 (.int .i64 i6)).set (.inl rfl) 7 (.int .i64 i7)).set (.inl rfl) 8 (.int .i64 i8)).set (.inl rfl) 9 (.int .i64 i9))⟩
 case rest =>
 obtain ⟨rfl,HP,HBt⟩:=hcut;obtain ⟨w1,rfl⟩:=KZ6 wc;have hbw1:But I.S w w1:=(But.of_below I.S HB0.out).step HBt.out (fun i hi=> .inr (by rw [hi,HZ.out];omega));have hd1:=(HD.out.below HB0.out).typed HP0.out (by decide) (by decide) HBt.out;have HX1:=KZ9 (HX0.out.but HBt.out (by omega));have HY1:=KZ9 (HY0.out.but HBt.out (by omega));have HR0:=KZ9 (TB I w1 n 0 C C hd1 (by omega));have HR1:=KZ9 (fun W hW=>TB I W n 1 C C hW (by omega));have HN1:Hid (¬ I.S z∧¬ I.S (z+1)∧¬ I.S (z+2)):=KZ9 (by have h8:=HLT.out;have h9:=HZ.out;exact ⟨fun hh=>by have:=h8 _ hh;omega,fun hh=>by have:=h8 _ hh;omega,fun hh=>by have:=h8 _ hh;omega⟩);have HBW1:=KZ9 hbw1;have HSZ1:Hid (z+3≤w1.heap.size):=KZ9 (by have:=HBt.out.size;have:=HS0.out;omega);clear hbw1 hd1 HSE HPN HX0 HP0 HY0 HW0 HB0 HS0 HBt;go_wp2_with fail
 refine HR0.out.mono ?_;rintro e w2 ⟨g2,v2,rfl,ho2,hd2,hb2⟩;have HO2:=KZ9 ho2;have HB2:=KZ9 hb2;have HD2:=KZ9 hd2;clear ho2 hd2 hb2 HR0;go_wp2_with fail
 refine (HR1.out w2 HD2.out).mono ?_;rintro e w3 ⟨g3,v3,rfl,ho3,hd3,hb3⟩;have hlc:C.length=64*n:=HD.out.len;have hz1:∀ i,I.S i→i<w1.heap.size:=fun i hi=>Nat.lt_of_lt_of_le (HLT.out i hi) HBW1.out.size;have hka:Byts w3 (.slice (some ⟨g2,0,none⟩) 64 v2) (tk wU):=by
  have h8:=qC HO2.out hb3 (fun k' hk' hs=>by have:=hz1 _ hs;have:=(HO2.out.lt k' hk').1;omega);rw [HC0.out] at h8;exact Byts.owned (by rw [yf];exact h8)
 have hkb:Byts w3 (.slice (some ⟨g3,0,none⟩) 64 v3) (sec C 1):=Byts.owned (by rw [xE hlc (by omega)];exact ho3);have HCH:Hid (Calls Tryz.prog 122 #[.slice (some ⟨g2,0,none⟩) 64 v2,.slice (some ⟨g3,0,none⟩) 64 v3] w3 fun e w'=>e= .returned (.tuple #[.int .i64 0,.agg #[.int .u64 1,.int .i64 0,.int .u32 1,.int .i64 2,.int .u32 (wX [0,0]:Int)],.int .i64 0])∧Below w3.heap.size w3 w'):=KZ9 (VY _ _ wU (sec C 1) w3 hka WA hkb (xE hlc (by omega)) HC1.out);have HD3:=KZ9 hd3;have hb13:=HB2.out.trans hb3;have HP3:=KZ9 (HP.out.but hb13 HN1.out.2.1);have HX3:=KZ9 (HX1.out.but hb13 HN1.out.1);have HY3:=KZ9 (HY1.out.but hb13 HN1.out.2.2);have HBW3:=KZ9 (HBW1.out.trans hb13);have HSZ3:Hid (z+3≤w3.heap.size):=KZ9 (by have:=hb13.size;have:=HSZ1.out;omega);obtain ⟨q,hq⟩:=KZ6 (wX [0,0]);rw [←hq] at HCH;have HQ:=KZ9 hq
 clear hq hlc hz1 hka hkb hb13 ho3 hd3 hb3 HO2 HB2 HD2 HR1 HP HX1 HY1 HBW1 HSZ1;go_upto_region 13 with fail
 go_cut [7] (fun s7 wx=>s7= .int .i64 0∧Hid (BlkL wx (z+1) 188 [.pointer (some ⟨I.dd,0,none⟩),.int .i64 i1,.int .i64 i2,.int .i64 i3,.int .i64 i4,.int .i64 i5,.int .i64 i6,.int .i64 i7,.int .i64 i8,.int .i64 i9,.int .i64 0,.int .u64 1,.int .i64 0,.int .u32 1,.int .i64 2,.int .u32 (q:Int),.pointer none,.bool false])∧Hid (But (fun k=>k=z+1) w3 wx))
 case first =>
  go_wp2_with fail
  refine HCH.out.mono ?_;rintro e w4 ⟨rfl,hb4⟩;have hp1:=HP3.out.below HP3.out.lt hb4;have c10:=hp1.c 10 _ rfl;have f10:=hp1.f 10;have c11:=hp1.c 11 _ rfl;have f11:=hp1.f 11;have c12:=hp1.c 12 _ rfl;have f12:=hp1.f 12;have c13:=hp1.c 13 _ rfl;have f13:=hp1.f 13;have c14:=hp1.c 14 _ rfl;have f14:=hp1.f 14;have c15:=hp1.c 15 _ rfl;have f15:=hp1.f 15;have HP4:=KZ9 hp1;have HB4:=KZ9 hb4;clear hp1 hb4;go_wp2_with fail
  go_meet;exact ⟨rfl,KZ9 ((((((HP4.out.set 10 (by simp) (.int .i64 0)).set 11 (by simp) (.int .u64 1)).set 12 (by simp) (.int .i64 0)).set 13 (by simp) (.int .u32 1)).set 14 (by simp) (.int .i64 2)).set 15 (by simp) (.int .u32 (q:Int))),KZ9 (((((((But.of_below (fun k=>k=z+1) HB4.out).set (.inl rfl) 10 (.int .i64 0)).set (.inl rfl) 11 (.int .u64 1)).set (.inl rfl) 12 (.int .i64 0)).set (.inl rfl) 13 (.int .u32 1)).set (.inl rfl) 14 (.int .i64 2)).set (.inl rfl) 15 (.int .u32 (q:Int)))⟩
 case rest =>
 obtain ⟨rfl,HP,HBt⟩:=hcut;obtain ⟨w5,rfl⟩:=KZ6 wc;have hd5:=HD3.out.typed HP3.out (by decide) (by decide) HBt.out;have hbw5:But I.S w w5:=HBW3.out.step HBt.out (fun i hi=> .inr (by rw [hi,←HZ.out];omega));have hst:[.pointer (some ⟨I.dd,0,none⟩),.int .i64 i1,.int .i64 i2,.int .i64 i3,.int .i64 i4,.int .i64 i5,.int .i64 i6,.int .i64 i7,.int .i64 i8,.int .i64 i9,.int .i64 0,.int .u64 1,.int .i64 0,.int .u32 1,.int .i64 2,.int .u32 (q:Int),.pointer none,.bool false]=yJ I.dd cap h s wU none:=by
  unfold yJ;rw [HL.out,HQ.out];rfl
 have HX5:=KZ9 (HX3.out.but HBt.out (by omega));have HY5:=KZ9 (HY3.out.but HBt.out (by omega));have HSN:=KZ9 (Zs I n cap h s (z+1) 1 1 C C none B w5 (hst▸HP.out) hd5 (HG.out.step hbw5) hs hsh hn h100 HC.out);have HBW5:=KZ9 hbw5;have HSZ5:Hid (z+3≤w5.heap.size):=KZ9 (by have:=HBt.out.size;have:=HSZ3.out;omega);clear hd5 hbw5 hst HCH HD3 HP3 HX3 HY3 HBW3 HBt HSZ3;go_upto_region 16 with fail
 go_cut [7] (fun s7 wx=>s7= .int .i64 0∧Hid (BlkL wx (z+2) 49 [.int .i64 0,.slice none 0 0])∧Hid (But (fun k=>I.S k∨k=z+2) w5 wx)∧Hid (DskE I wx n C C))
 case first =>
  go_wp2_with fail
  refine HSN.out.mono ?_;rintro e w6 ⟨rfl,hd6,hb6⟩;have hy:=HY5.out.but hb6 HN1.out.2.2;have y0:=hy.c 0 _ rfl;have y1:=hy.c 1 _ rfl;have f0:=hy.f 0;have f1:=hy.f 1;have HY6:=KZ9 hy;have HD6:=KZ9 hd6;have HB6:=KZ9 hb6;clear hy hd6 hb6;go_wp2_with fail
  go_meet;exact ⟨rfl,KZ9 ((HY6.out.set 0 (by simp) (.int .i64 0)).set 1 (by simp) (.slice none 0 0)),KZ9 ((((But.refl (fun k=>I.S k∨k=z+2) w5).step HB6.out (fun i hi=> .inl (.inl hi))).set (.inl (.inr rfl)) 0 (.int .i64 0)).set (.inl (.inr rfl)) 1 (.slice none 0 0)),KZ9 (HD6.out.typed HY6.out (by decide) (by decide) (((But.refl (fun k=>k=z+2) w6).set (.inl rfl) 0 (.int .i64 0)).set (.inl rfl) 1 (.slice none 0 0)))⟩
 case rest =>
 obtain ⟨rfl,HY,HBt,HD7⟩:=hcut;obtain ⟨w7,rfl⟩:=KZ6 wc;have HP7:=KZ9 (HP.out.but HBt.out (fun hh=>hh.elim (fun h8=>HN1.out.2.1 h8) (fun h8=>by omega)));have HX7:=KZ9 (HX5.out.but HBt.out (fun hh=>hh.elim (fun h8=>HN1.out.1 h8) (fun h8=>by omega)));have HBW7:=KZ9 (HBW5.out.step HBt.out (fun i hi=>hi.elim .inl (fun e=> .inr (by rw [e,←HZ.out];omega))));have HSZ7:Hid (z+3≤w7.heap.size):=KZ9 (by have:=HBt.out.size;have:=HSZ5.out;omega);have HWC:=KZ9 (HWL.out w7.drew (HD7.out.below (Below.refl _ w7).drew));have c0:=HP7.out.c 12 _ rfl;have c1:=HP7.out.c 6 _ rfl;have c2:=HP7.out.c 7 _ rfl;have c3:=HP7.out.c 13 _ rfl;clear HSN HP HX5 HY5 HBW5 HSZ5 HBt HD7 HWL;go_upto_region 19 with fail
 go_cut [7,10,11] (fun s7 s10 s11 wx=>s7= .int .i64 0∧∃ t a c,s10= .pointer (some ⟨t,0,none⟩)∧s11= .slice a r c∧Hid (w7.heap.size≤t)∧Hid (BlkL wx t 251 (ya I.dd (2+s) (h - s) 1 k r r))∧Hid (RecQ w7.heap.size pl r a wx)∧Hid (DskE I wx n C C)∧Hid (But I.S w7 wx))
 case first =>
  go_region_held3 (fun W=>W.cell? ⟨z+1,12,none⟩=some (.int .i64 0)∧W.cell? ⟨z+1,6,none⟩=some (.int .i64 i6)∧W.cell? ⟨z+1,7,none⟩=some (.int .i64 i7)∧W.cell? ⟨z+1,13,none⟩=some (.int .u32 1)) (go_keep) (first
   | (go_at_call 124;refine HWC.out.mono ?_;rintro e w8 ⟨t,a,c,rfl,ht,hl,hq8,hd8,hb8⟩;have hp8:=HP7.out.but ((But.drew (But.refl I.S w7)).trans hb8) HN1.out.2.1;have g0:=hp8.c 12 _ rfl;have g1:=hp8.c 6 _ rfl;have g2:=hp8.c 7 _ rfl;have g3:=hp8.c 13 _ rfl))
  all_goals (
   have H1:=KZ9 hl;have H2:=KZ9 hq8;have H3:=KZ9 hd8;have H4:=KZ9 ((But.drew (But.refl I.S w7)).trans hb8);have H5:=KZ9 ht;clear hl hq8 hd8 hb8 ht hp8 g0 g1 g2 g3 c0 c1 c2 c3;go_wp2;go_meet;exact ⟨rfl,t,a,c,rfl,rfl,H5,H1,H2,H3,H4⟩)
 case rest =>
 obtain ⟨rfl,t,a,c,rfl,rfl,HTL,HLG,HRQ,HD8,HB8⟩:=hcut;obtain ⟨w8,rfl⟩:=KZ6 wc;have hp8:=HP7.out.but HB8.out HN1.out.2.1;have c16:=hp8.c 16 _ rfl;have f16:=hp8.f 16;have HP8:=KZ9 hp8;clear hp8 c0 c1 c2 c3 HWC;have hbs:But (fun k=>k=z+1) w8 (w8.setCell ⟨z+1,16,none⟩ (.pointer (some ⟨t,0,none⟩))):=(But.refl (fun k=>k=z+1) w8).set (.inl rfl) 16 _;have htz:z+3≤t:=Nat.le_trans HSZ7.out HTL.out;have hp9:BlkL (w8.setCell ⟨z+1,16,none⟩ (.pointer (some ⟨t,0,none⟩))) (z+1) 188 [.pointer (some ⟨I.dd,0,none⟩),.int .i64 i1,.int .i64 i2,.int .i64 i3,.int .i64 i4,.int .i64 i5,.int .i64 i6,.int .i64 i7,.int .i64 i8,.int .i64 i9,.int .i64 0,.int .u64 1,.int .i64 0,.int .u32 1,.int .i64 2,.int .u32 (q:Int),.pointer (some ⟨t,0,none⟩),.bool false]:=HP8.out.set 16 (by simp) _;have hx9:=(HX7.out.but HB8.out HN1.out.1).but hbs (by omega);have hy9:=(HY.out.but HB8.out HN1.out.2.2).but hbs (by omega)
 have hl9:=HLG.out.but hbs (by omega);have hq9:=HRQ.out.but hbs (fun k hk=>by have:=HSZ7.out;omega);have hd9:=HD8.out.typed HP8.out (by decide) (by decide) hbs;have hbw9:=(HBW7.out.trans HB8.out).step hbs (fun i hi=> .inr (by rw [hi,←HZ.out];omega));have HP9:=KZ9 hp9;have HX9:=KZ9 hx9;have HY9:=KZ9 hy9;have HL9:=KZ9 hl9;have HQ9:=KZ9 hq9;have HD9:=KZ9 hd9;have HBW9:=KZ9 hbw9;have HTZ:=KZ9 htz;clear hbs hp9 hx9 hy9 hl9 hq9 hd9 hbw9 htz HX7 HY HLG HRQ HD8 HBW7 HTL;go_wp2_with fail
 go_loopw [107] (fun iv wr=>∃ (j:Nat) (v:Value),iv= .int .i64 j∧j≤r∧Hid (BlkL wr (z+1) 188 [.pointer (some ⟨I.dd,0,none⟩),.int .i64 i1,.int .i64 i2,.int .i64 i3,.int .i64 i4,.int .i64 i5,.int .i64 i6,.int .i64 i7,.int .i64 i8,.int .i64 i9,.int .i64 0,.int .u64 1,.int .i64 0,.int .u32 1,.int .i64 2,.int .u32 (q:Int),.pointer (some ⟨t,0,none⟩),.bool false])∧Hid (BlkL wr (z+2) 49 [.int .i64 0,v])∧Hid (BlkL wr z 49 [.int .i64 0,.slice none 0 0])∧Hid (BlkL wr t 251 (ya I.dd (2+s) (h - s) 1 k r r))∧Hid (DskE I wr n C C)∧Hid (But I.S w wr)∧Hid (j=0→RecQ w7.heap.size pl r a wr)∧Hid ((j=0∧v= .slice none 0 0)∨(j=1∧StV (w.heap.size+3) [p] wr v))) (fun iv _=>r - (intOf iv).toNat)
 case atStart=>exact ⟨0,_,rfl,by omega,HP9,HY9,HX9,HL9,HD9,HBW9,KZ9 (fun _=>HQ9.out),KZ9 (.inl ⟨rfl,rfl⟩)⟩
 case round =>
  obtain ⟨j,v,rfl,hj,HPr,HYr,HXr,HLr,HDr,HBr,HQr,HVr⟩:=hrel;by_cases hlt:j<r
  ·have HR1:Hid (r=1):=KZ9 (by rcases HTT.out with ⟨h8,_⟩ | ⟨h8,_⟩<;>omega);obtain rfl:j=0:=by have:=HR1.out;omega
   obtain rfl:v= .slice none 0 0:=by rcases HVr.out with ⟨_,h8⟩ | ⟨h8,_⟩;exact h8;omega
   obtain ⟨g,pa,pc,rfl,hg1,hg2,hg3,hg4⟩:=HQr.out rfl HR1.out;have HDEC:=KZ9 (HUD.out HR1.out _ wr (HG.out.step HBr.out).base.1 (Byts.owned hg4));obtain ⟨pn,hpn⟩:∃ m,m=pl.length:=⟨_,rfl⟩;rw [←hpn] at hg3 HDEC;clear hg4 hpn hg1 hg2;go_wp2_with fail
   refine HDEC.out.mono ?_;rintro e w10 ⟨rfl,hb10⟩;obtain ⟨W11,hW11⟩:∃ W11,w10.alloc (.cells #[.int .i64 1,.string (mk p.host),.bool p.sub,.int .i64 p.expiry] 66)=W11:=⟨_,rfl⟩;have hb11:Below wr.heap.size wr W11:=by rw [←hW11];exact hb10.alloc hb10.size _
   have hu11:BlkL W11 w10.heap.size 66 [.int .i64 1,.string (mk p.host),.bool p.sub,.int .i64 p.expiry]:=by rw [←hW11];exact BlkL.new w10 _ _
   have hy11:=HYr.out.below HYr.out.lt hb11;have hp11:=HPr.out.below HPr.out.lt hb11;have HAP:=KZ9 (HUA.out HR1.out W11.drew ((HG.out.step HBr.out).base.1.below (hb11.drew)));have HY11:=KZ9 hy11;have HB11:=KZ9 hb11;have hsz:z+2<wr.heap.size:=HYr.out.lt;have HSZR:=KZ9 hsz;have y0:=hy11.c 0 _ rfl;have y1:=hy11.c 1 _ rfl;have k1:=hp11.c 1 _ rfl;obtain ⟨u0,u1,u2,u3⟩:=BlkL.cs4 hu11;have HW11:=KZ9 hW11;clear hW11 hb11 hu11 hy11 hp11 hsz hb10 hg3 HDEC;go_upto_region 29 with fail
   rw [HW11.out];go_cut [15] (fun s15 wx=>s15= .int .i64 0∧∃ a1 c1,Hid (BlkL wx (z+2) 49 [.int .i64 0,.slice a1 1 c1])∧Hid (StV (w.heap.size+3) [p] wx (.slice a1 1 c1))∧Hid (But (fun k=>k=z+2) W11 wx))
   case first =>
    go_region_with (go_at_call 45;refine HAP.out.mono ?_;rintro e w12 ⟨a1,c1,rfl,hpn,hown,hb12⟩;have hy12:=HY11.out.drew.below HY11.out.lt hb12;have y0:=hy12.c 0 _ rfl;have y1:=hy12.c 1 _ rfl;have f0:=hy12.f 0;have f1:=hy12.f 1)
    all_goals (
     have H1:=KZ9 hy12;have H2:=KZ9 hpn;have H3:=KZ9 hown;have H4:=KZ9 ((Below.refl _ W11).drew.trans hb12);clear hy12 hpn hown hb12 y0 y1 k1 u0 u1 u2 u3;go_wp2;go_meet;refine ⟨rfl,a1,c1,KZ9 ((H1.out.set 0 (by simp) (.int .i64 0)).set 1 (by simp) (.slice a1 1 c1)),KZ9 ⟨a1,c1,rfl,?_,?_,fun h8=>by cases h8⟩,KZ9 (((But.of_below (fun k=>k=z+2) H4.out).set (.inl rfl) 0 (.int .i64 0)).set (.inl rfl) 1 (.slice a1 1 c1))⟩
     ·refine Row.but H2.out (((But.refl (fun k=>k=z+2) w12).set (.inl rfl) 0 (.int .i64 0)).set (.inl rfl) 1 (.slice a1 1 c1)) (fun k hk e=> ?_);have h8:=H3.out k hk;have h9:=HB11.out.size;have h7:=HSZR.out;change W11.heap.size≤k at h8;omega
     intro k hk;have h8:=H3.out k hk;have h9:=HB11.out.size;have h7:=HSZR.out;have h6:=HZ.out;change W11.heap.size≤k at h8;omega)
   case rest =>
   obtain ⟨rfl,a1,c1,HYn,HVn,HBn⟩:=hcut;obtain ⟨w12,rfl⟩:=KZ6 wc;have HPn:=KZ9 ((HPr.out.below HPr.out.lt HB11.out).but HBn.out (by omega));have HXn:=KZ9 ((HXr.out.below HXr.out.lt HB11.out).but HBn.out (by omega));have HLn:=KZ9 ((HLr.out.below HLr.out.lt HB11.out).but HBn.out (by have:=HTZ.out;omega));have HDn:=KZ9 ((HDr.out.below HB11.out).typed HY11.out (by decide) (by decide) HBn.out);have HBWn:=KZ9 ((HBr.out.below HB11.out).step HBn.out (fun i hi=> .inr (by rw [hi,←HZ.out];omega)));clear y0 y1 k1 u0 u1 u2 u3;go_wp2_with fail
   go_roundw
   case rel=>exact ⟨1,_,rfl,hlt,HPn,HYn,HXn,HLn,HDn,HBWn,KZ9 (fun h8=>by cases h8),KZ9 (.inr ⟨rfl,HVn.out⟩)⟩
   case measure=>simp [intOf];omega
  have hv9:StV (w.heap.size+3) T wr v:=by
   rcases HVr.out with ⟨e8,e9⟩ | ⟨e8,h9⟩
   ·rcases HTT.out with ⟨h8,h7⟩ | ⟨h8,h7⟩
    ·subst h7 e9;exact ⟨none,0,rfl,Row.nil _ _,fun k hk=>(by cases hk),fun _=>rfl⟩
    omega
   rcases HTT.out with ⟨h8,h7⟩ | ⟨h8,h7⟩
   ·omega
   subst h7;exact h9
  obtain ⟨a9,c9,rfl,_⟩:=id hv9;have x0:=HXr.out.c 0 _ rfl;have x1:=HXr.out.c 1 _ rfl;have f0:=HXr.out.f 0;have f1:=HXr.out.f 1;have y0:=HYr.out.c 0 _ rfl;have y1:=HYr.out.c 1 _ rfl;have HV9:=KZ9 hv9;clear hv9;go_upto_region 33 with fail
  go_region
  go_wp2;have hst:[.pointer (some ⟨I.dd,0,none⟩),.int .i64 i1,.int .i64 i2,.int .i64 i3,.int .i64 i4,.int .i64 i5,.int .i64 i6,.int .i64 i7,.int .i64 i8,.int .i64 i9,.int .i64 0,.int .u64 1,.int .i64 0,.int .u32 1,.int .i64 2,.int .u32 (q:Int),.pointer (some ⟨t,0,none⟩),.bool false]=yJ I.dd cap h s wU (some ⟨t,0,none⟩):=by
   unfold yJ;rw [HL.out,HQ.out];rfl
  have hR:=((HXr.out.set 0 (by simp) (.int .i64 0)).set 1 (by simp) (.slice a9 T.length c9)).drew;have hbz:But (fun k=>k=z) wr (((wr.setCell ⟨z,0,none⟩ (.int .i64 0)).setCell ⟨z,1,none⟩ (.slice a9 T.length c9)).drew):=(((But.refl (fun k=>k=z) wr).set (.inl rfl) 0 (.int .i64 0)).set (.inl rfl) 1 (.slice a9 T.length c9)).drew;refine bodyPost_ret (sk rfl _ _ z 49 _ _ rfl hR Tryz.underlying49 rfl xW) rfl ?_;refine ⟨z+1,t,_,rfl,?_,?_,?_,?_,?_,?_,?_⟩
  ·rw [←HZ.out];omega
  ·rw [←HZ.out];have:=HTZ.out;omega
  ·exact hst▸HPr.out.but hbz (by omega)
  ·exact HLr.out.but hbz (by have:=HTZ.out;omega)
  ·obtain ⟨a8,c8,h5,h6,h7,h8⟩:=HV9.out;exact ⟨a8,c8,h5,Row.but h6 hbz (fun k hk e=>by have h9:=h7 k hk;rw [←HZ.out] at h9;omega),fun k hk=>Nat.le_trans (Nat.le_add_right _ 3) (h7 k hk),h8⟩
  ·exact HDr.out.typed HXr.out (by decide) (by decide) hbz
  exact HBr.out.step hbz (fun i hi=> .inr (by rw [hi,←HZ.out];omega))
structure OpnQ (I:DK) (n cap h s k r:Nat) (T:List PinP) (C:Bs) (b ps:Nat) (v:Value) (W:World):Prop where
 ge:b≤ps
 st:∃ t,b≤t∧BlkL W ps 188 (yJ I.dd cap h s wU (some ⟨t,0,none⟩))∧BlkL W t 251 (ya I.dd (2+s) (h - s) 1 k r r)
 sv:StV b T W v
 dk:DskE I W n C C
theorem OpnQ.low {I:DK} {n cap h s k r b ps z:Nat} {T:List PinP} {C:Bs} {v:Value} {W W':World} (q:OpnQ I n cap h s k r T C b ps v W) {cs:List Value} (hz:BlkL W z 49 cs) (hzb:z<b) (hb:But (fun k=>k=z) W W'):OpnQ I n cap h s k r T C b ps v W':=by
 obtain ⟨h1,⟨t,h2,h3,h4⟩,h5,h6⟩:=q;exact ⟨h1,⟨t,h2,h3.but hb (by omega),h4.but hb (by omega)⟩,h5.but hb (fun k hk=>by omega),h6.typed hz (by decide) (by decide) hb⟩
theorem OpnQ.mono {I:DK} {n cap h s k r b b' ps:Nat} {T:List PinP} {C:Bs} {v:Value} {W:World} (q:OpnQ I n cap h s k r T C b ps v W) (hb:b'≤b):OpnQ I n cap h s k r T C b' ps v W:=by
 obtain ⟨h1,⟨t,h2,h3,h4⟩,⟨a,c,h5,h6,h7,h8⟩,h9⟩:=q;exact ⟨Nat.le_trans hb h1,⟨t,Nat.le_trans hb h2,h3,h4⟩,⟨a,c,h5,h6,fun k hk=>Nat.le_trans hb (h7 k hk),h8⟩,h9⟩
theorem OpnQ.below {I:DK} {n cap h s k r b ps:Nat} {T:List PinP} {C:Bs} {v:Value} {W W':World} (q:OpnQ I n cap h s k r T C b ps v W) (hb:Below W.heap.size W W'):OpnQ I n cap h s k r T C b ps v W':=by
 obtain ⟨h1,⟨t,h2,h3,h4⟩,⟨a,c,h5,h6,h7,h8⟩,h9⟩:=q;exact ⟨h1,⟨t,h2,h3.below h3.lt hb,h4.below h4.lt hb⟩,⟨a,c,h5,h6.below hb,h7,h8⟩,h9.below hb⟩
theorem WF (I:DK) (n cap h s k r:Nat) (T:List PinP) (C:Bs) (w:World) (hLT:∀ k,I.S k→k<w.heap.size)
  (HOP:∀ W,Below w.heap.size w W→Calls Tryz.prog 62 #[.pointer (some ⟨I.dd,0,none⟩)] W fun e w'=>∃ ps v,e= .returned (.tuple #[.pointer (some ⟨ps,0,none⟩),.agg #[.int .i64 0,v],.int .i64 0])∧OpnQ I n cap h s k r T C W.heap.size ps v w'∧But I.S W w') :
  Calls Tryz.prog 32 #[.pointer (some ⟨I.dd,0,none⟩)] w fun e w'=>∃ ps v,e= .returned (.tuple #[.pointer (some ⟨ps,0,none⟩),.agg #[.int .i64 0,v],.int .i64 0])∧OpnQ I n cap h s k r T C w.heap.size ps v w'∧But I.S w w':=by
 obtain ⟨W0,hW0⟩:∃ W0,w.alloc (.cells #[.int .i64 0,.slice none 0 0] 49)=W0:=⟨_,rfl⟩;have hb0:Below w.heap.size w W0:=by rw [←hW0];exact (Below.refl _ w).alloc (Nat.le_refl _) _
 have hx0:BlkL W0 w.heap.size 49 [.int .i64 0,.slice none 0 0]:=by rw [←hW0];exact BlkL.new w _ _
 have hs0:w.heap.size<W0.heap.size:=by rw [←hW0];simp
 have HOQ:=KZ9 (HOP W0 hb0);have HX0:=KZ9 hx0;have HB0:=KZ9 hb0;have HS0:=KZ9 hs0;have HW0:=KZ9 hW0;have HLT:=KZ9 hLT;clear HOP hb0 hx0 hs0 hW0 hLT;go_enter Tryz.func32,Tryz.ntmps32
 go_wp2_with fail
 rw [HW0.out];refine HOQ.out.mono ?_;rintro e w1 ⟨ps,v,rfl,hq,hb1⟩;obtain ⟨a,c,rfl,hv⟩:=id hq.sv;have hnz:¬ I.S w.heap.size:=fun hh=>by have:=HLT.out _ hh;omega
 obtain ⟨W2,hW2⟩:∃ W2,w1.alloc (.cells #[.int .i64 0,.slice a T.length c] 49)=W2:=⟨_,rfl⟩;have hb2:Below w1.heap.size w1 W2:=by rw [←hW2];exact (Below.refl _ w1).alloc (Nat.le_refl _) _
 have hy2:BlkL W2 w1.heap.size 49 [.int .i64 0,.slice a T.length c]:=by rw [←hW2];exact BlkL.new w1 _ _
 have hx2:=(HX0.out.but hb1 hnz).below (HX0.out.but hb1 hnz).lt hb2;have hne:w.heap.size≠w1.heap.size:=by have:=hb1.size;have:=HS0.out;omega
 have HX2:=KZ9 hx2;have HQ2:=KZ9 (hq.below hb2);have HBT:=KZ9 (((But.of_below I.S HB0.out).trans hb1).below hb2);have HW2:=KZ9 hW2;have x0:=hx2.c 0 _ rfl;have x1:=hx2.c 1 _ rfl;have f0:=hx2.f 0;have f1:=hx2.f 1;have y0:=hy2.c 0 _ rfl;have y1:=hy2.c 1 _ rfl;clear hq hb1 hv hb2 hy2 hx2 hW2 HX0 HB0 HW0 hnz;go_upto_region 4 with fail
 rw [HW2.out];go_region
 go_wp2;have hR:=((HX2.out.set 0 (by simp) (.int .i64 0)).set 1 (by simp) (.slice a T.length c)).drew;have hbz:But (fun k=>k=w.heap.size) W2 (((W2.setCell ⟨w.heap.size,0,none⟩ (.int .i64 0)).setCell ⟨w.heap.size,1,none⟩ (.slice a T.length c)).drew):=(((But.refl (fun k=>k=w.heap.size) W2).set (.inl rfl) 0 (.int .i64 0)).set (.inl rfl) 1 (.slice a T.length c)).drew;refine bodyPost_ret (sk rfl _ _ w.heap.size 49 _ _ rfl hR Tryz.underlying49 rfl xW) rfl ?_;exact ⟨ps,_,rfl,(HQ2.out.low HX2.out HS0.out hbz).mono (Nat.le_of_lt HS0.out),HBT.out.step hbz (fun i hi=> .inr (by omega))⟩
theorem gZ (dd cap h s ps:Nat) (sp:SupP) (lg:Option Addr) (w:World) (hT:BlkL w ps 188 (yJ dd cap h s sp lg)):Calls Tryz.prog 87 #[.pointer (some ⟨ps,0,none⟩)] w fun e w'=>e= .returned (.bool false)∧w=w':=by
 have c17:=hT.c 17 _ rfl;go_enter Tryz.func87,Tryz.ntmps87
 go_wp2;go_ret;exact ⟨rfl,rfl⟩
theorem Zt (dd cap h s ps:Nat) (sp:SupP) (lg:Option Addr) (w:World) (hT:BlkL w ps 188 (yJ dd cap h s sp lg)):Calls Tryz.prog 93 #[.pointer (some ⟨ps,0,none⟩)] w fun e w'=>e= .returned (.int .i64 (cap:Int))∧w=w':=by
 have c1:=hT.c 1 _ rfl;go_enter Tryz.func93,Tryz.ntmps93
 go_wp2;go_ret;exact ⟨rfl,rfl⟩
theorem RC (dd cap h s ps:Nat) (sp:SupP) (lg:Option Addr) (w:World) (hT:BlkL w ps 188 (yJ dd cap h s sp lg)):Calls Tryz.prog 96 #[.pointer (some ⟨ps,0,none⟩),.int .i64 0] w fun e w'=>e= .returned (.int .i64 0)∧BlkL w' ps 188 (yJ dd cap h s sp lg)∧But (fun k=>k=ps) w w':=by
 have c17:=hT.c 17 _ rfl;have f17:=hT.f 17;have HR:=KZ9 (hT.set 17 (by simp [yJ,uW,scells]) (.bool false));have HB:=KZ9 (But.set (But.refl (fun k=>k=ps) w) (.inl rfl) 17 (.bool false):But (fun k=>k=ps) w (w.setCell ⟨ps,17,none⟩ (.bool false)));clear hT;go_enter Tryz.func96,Tryz.ntmps96
 go_wp2;go_ret;exact ⟨rfl,HR.out,HB.out⟩
theorem VT (I:DK) (t n F N epoch fin rec syn:Nat) (S C p:Bs) (v:Value) (w:World) (hL:BlkL w t 251 (ya I.dd F N epoch fin rec syn)) (h:DskE I w n S C) (hv:Byts w v p) (hp:p.length≤1024) (hN:1≤N) (hN2:N≤1000) (hF:F+N≤n) (hr:fin+(14+p.length)≤64*N) (he:epoch<4294967296) (hrec:rec<1000000) :
  Calls Tryz.prog 95 #[.pointer (some ⟨t,0,none⟩),v] w fun e w'=>e= .returned (.int .i64 0)∧BlkL w' t 251 (ya I.dd F N epoch (fin+(14+p.length)) (rec+1) syn)∧DskE I w' n S (splice C (64*F+fin) (sd epoch rec p))∧But (fun k=>I.S k∨k=t) w w':=by
 have ht:=h.other hL (by decide) (by decide);obtain ⟨K,hK,hd⟩:=h;refine (VA I K t n F N epoch fin rec syn S C p v w hL ht hd hK hv hp hN hN2 hF hr he hrec).mono ?_;rintro e w1 ⟨rfl,h1,h2,h3⟩;exact ⟨rfl,h1,⟨_,fun k hk=>hk.elim (fun h=>Nat.lt_of_lt_of_le (hK k h) h3.size) (fun h=>h.2),h2⟩,h3⟩
theorem TA (I:DK) (t n F N epoch fin rec syn:Nat) (S C:Bs) (w:World) (hL:BlkL w t 251 (ya I.dd F N epoch fin rec syn)) (h:DskE I w n S C) :
  Calls Tryz.prog 97 #[.pointer (some ⟨t,0,none⟩)] w fun e w'=>e= .returned (.int .i64 0)∧BlkL w' t 251 (ya I.dd F N epoch fin rec rec)∧DskE I w' n C C∧But (fun k=>I.S k∨k=t) w w':=by
 have ht:=h.other hL (by decide) (by decide);obtain ⟨K,hK,hd⟩:=h;refine (Rf I K t n F N epoch fin rec syn S C w hL ht hd).mono ?_;rintro e w1 ⟨rfl,h1,h2,h3⟩;exact ⟨rfl,h1,⟨K,fun k hk=>Nat.lt_of_lt_of_le (hK k hk) h3.size,h2⟩,h3⟩
theorem V5 (I:DK) (n cap h s ps t fin rec:Nat) (sp:SupP) (C:Bs) (p:PinP) (w:World) (hT:BlkL w ps 188 (yJ I.dd cap h s sp (some ⟨t,0,none⟩))) (hL:BlkL w t 251 (ya I.dd (2+s) (h - s) 1 fin rec rec)) (hd:DskE I w n C C) (hB:Base w) (hs:1≤s) (hsh:s<h) (hn:2+h≤n) (h100:h≤100)
  (hh:p.host.length≤300) (hok:xU p=true) (he0:0≤p.expiry) (he:p.expiry≤1099511627776) (hl:(vp p).length≤1024) (hr:fin+(14+(vp p).length)≤64*(h - s)) (hrec:rec<1000000) :
  Calls Tryz.prog 47 #[.pointer (some ⟨ps,0,none⟩),.agg (zW p).toArray] w fun e w'=>e= .returned (.int .i64 0)∧BlkL w' ps 188 (yJ I.dd cap h s sp (some ⟨t,0,none⟩))∧BlkL w' t 251 (ya I.dd (2+s) (h - s) 1 (fin+(14+(vp p).length)) (rec+1) (rec+1))∧(∃ C',C'=splice C (64*(2+s)+fin) (sd 1 rec (vp p))∧DskE I w' n C' C')∧But (fun k=>I.S k∨k=t∨k=ps) w w':=by
 have hpt:ps≠t:=fun e=>by subst e;unfold BlkL at hT hL;rw [hT] at hL;simp at hL
 have hnp:¬ I.S ps:=hd.other hT (by decide) (by decide);have hnt:¬ I.S t:=hd.other hL (by decide) (by decide);obtain ⟨W0,hW0⟩:∃ W0,w.alloc (.cells #[.int .i64 1,.string (mk p.host),.bool p.sub,.int .i64 p.expiry] 66)=W0:=⟨_,rfl⟩;have hb0:Below w.heap.size w W0:=by rw [←hW0];exact (Below.refl _ w).alloc (Nat.le_refl _) _
 have hx0:BlkL W0 w.heap.size 66 [.int .i64 1,.string (mk p.host),.bool p.sub,.int .i64 p.expiry]:=by rw [←hW0];exact BlkL.new w _ _
 have hT0:=hT.below hT.lt hb0;have HFA:=KZ9 (gZ I.dd cap h s ps sp _ W0 hT0);have HUE:=KZ9 (VG p W0 (hB.below hb0) hh hok he0 he);simp only [zW,zx] at HUE ⊢;have HT0:=KZ9 hT0;have HL0:=KZ9 (hL.below hL.lt hb0);have HD0:=KZ9 (hd.below hb0);have HB0:=KZ9 hb0;have HW0:=KZ9 hW0;have HNP:=KZ9 (And.intro hnp hnt);have HPT:=KZ9 hpt;have HLT:=KZ9 hd.lt;obtain ⟨x0,x1,x2,x3⟩:=BlkL.cs4 hx0;have HFL:=KZ9 (fun W hW=>RC I.dd cap h s ps sp (some ⟨t,0,none⟩) W hW);obtain ⟨m,hm⟩:=KZ6 ((vp p).length);rw [←hm] at hl hr HUE ⊢;have HM:=KZ9 hm;clear hT hL hd hB hb0 hx0 hT0 hW0 hnp hnt hpt hm hh hok he0 he;go_enter Tryz.func47,Tryz.ntmps47
 go_wp2_with fail
 rw [HW0.out];refine HFA.out.mono ?_;rintro e w1 ⟨rfl,rfl⟩;go_wp2_with fail
 refine HUE.out.mono ?_;rintro e w1 ⟨a,c,rfl,ho1,hb1⟩;have hv1:Byts w1 (.slice a m c) (vp p):=by
  unfold Byts;rw [←HM.out];exact Row.owned ho1
 have hown:∀ k,(Value.slice a m c).ownBlock=some k→W0.heap.size≤k:=fun k hk=>(ho1.lt k hk).1;have hT1:=HT0.out.below HT0.out.lt hb1;have c16:=hT1.c 16 _ rfl;have HT1:=KZ9 hT1;have hap:=VT I t n (2+s) (h - s) 1 fin rec rec C C (vp p) _ w1 (HL0.out.below HL0.out.lt hb1) (HD0.out.below hb1) hv1 (by rw [←HM.out];exact hl) (by omega) (by omega) (by omega) (by rw [←HM.out];exact hr) (by decide) hrec;rw [←HM.out] at hap;have HAP:=KZ9 hap;have HB1:=KZ9 (HB0.out.trans (hb1.mono HB0.out.size));clear hap hv1 hown ho1 hb1 hT1 HFA HUE HT0 HL0 HD0 HB0 HW0 x0 x1 x2 x3;go_wp2_with fail
 refine HAP.out.mono ?_;rintro e w2 ⟨rfl,hl2,hd2,hb2⟩;have hT2:=HT1.out.but hb2 (fun h8=>h8.elim HNP.out.1 HPT.out);have HT2:=KZ9 hT2;have HL2:=KZ9 hl2;have HD2:=KZ9 hd2;have HB2:=KZ9 ((But.of_below (fun k=>I.S k∨k=t∨k=ps) HB1.out).step hb2 (fun i hi=> .inl (hi.elim .inl (fun e=> .inr (.inl e)))));clear hl2 hd2 hb2 hT2 HAP HT1 HB1 c16;go_wp2_with fail
 refine (HFL.out w2 HT2.out).mono ?_;rintro e w3 ⟨rfl,hT3,hb3⟩;have c16:=hT3.c 16 _ rfl;have hl3:=HL2.out.but hb3 (fun e=>HPT.out e.symm);have hd3:=HD2.out.typed HT2.out (by decide) (by decide) hb3;have HLS:=KZ9 (TA I t n (2+s) (h - s) 1 _ _ _ _ _ w3 hl3 hd3);have HT3:=KZ9 hT3;have HB3:=KZ9 (HB2.out.step hb3 (fun i hi=> .inl (.inr (.inr hi))));clear hT3 hb3 hl3 hd3 HT2 HL2 HD2 HB2;go_wp2_with fail
 refine HLS.out.mono ?_;rintro e w4 ⟨rfl,hl4,hd4,hb4⟩;have HT4:=KZ9 (HT3.out.but hb4 (fun h8=>h8.elim HNP.out.1 HPT.out));have HL4:=KZ9 hl4;have HD4:=KZ9 hd4;have HB4:=KZ9 (HB3.out.step hb4 (fun i hi=> .inl (hi.elim .inl (fun e=> .inr (.inl e)))));clear hl4 hd4 hb4 HLS HT3 HB3 c16;go_wp2_with fail
 refine (HFL.out w4 HT4.out).mono ?_;rintro e w5 ⟨rfl,hT5,hb5⟩;have HT5:=KZ9 hT5;have HL5:=KZ9 (HL4.out.but hb5 (fun e=>HPT.out e.symm));have HD5:=KZ9 (HD4.out.typed HT4.out (by decide) (by decide) hb5);have HB5:=KZ9 (HB4.out.step hb5 (fun i hi=> .inl (.inr (.inr hi))));clear hT5 hb5 HT4 HL4 HD4 HB4;go_wp2_with fail
 go_ret;exact ⟨rfl,HT5.out,HL5.out,⟨_,rfl,HD5.out⟩,HB5.out⟩
end Go.Proofs.YtbnnlkdhpifpeaaGreatDoor
