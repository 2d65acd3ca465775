/- What the proof of TopClock uses, part Clk11. -/
import Derived.Test.YtbnnlkdhpifpeaaGreatDoorClk10
set_option linter.unusedSimpArgs false
set_option linter.unusedVariables false
namespace Go.Proofs.YtbnnlkdhpifpeaaGreatDoor
open Go.RowKit Hs
theorem Rd (w:World):Calls Tryz.prog 112 #[.slice none 0 0,.func (.func 56) #[] #[]] w fun e w'=>e= .returned (.int .i64 (-1))∧w=w':=by
 go_enter Tryz.func112,Tryz.ntmps112
 go_wp2;go_loopw [8] (fun iv wr=>iv= .int .i64 0∧wr=w) (fun _ _=>0)
 case atStart=>exact ⟨rfl,rfl⟩
 case round =>
  obtain ⟨rfl,rfl⟩:=hrel;go_wp2;go_ret;exact ⟨rfl,rfl⟩
theorem QN (w:World):Calls Tryz.prog 55 #[.slice none 0 0,.func (.func 56) #[] #[]] w fun e w'=>e= .returned (.bool false)∧w=w':=by
 have H:=KZ9 (Rd w);go_enter Tryz.func55,Tryz.ntmps55
 go_wp2_with fail
 refine H.out.mono ?_;rintro e w1 ⟨rfl,rfl⟩;go_wp2;go_ret;exact ⟨rfl,rfl⟩
theorem Re (w:World):Calls Tryz.prog 58 #[.slice none 0 0] w fun e w'=>e= .returned (.slice none 0 0)∧w=w':=by
 have q45:∀ (w:World) (a:Option Addr) (n c n' c':Nat),(binOp .eql 56 (.slice a n c) (.slice none n' c')).run Tryz.prog w= .ok (.bool a.isNone) w:=fun w a n c n' c'=>Lib.run_eql_slice_nil w _ _ a n c n' c' Tryz.underlying56;go_enter Tryz.func58,Tryz.ntmps58
 go_wp2;go_ret;exact ⟨rfl,rfl⟩
theorem Pj (w:World):Calls Tryz.prog 178 #[.slice none 0 0,.int .i64 0,.int .i64 0,.func (.func 60) #[] #[]] w fun e w'=>e= .returned (.tuple #[])∧w=w':=by
 go_enter Tryz.func178,Tryz.ntmps178
 go_wp2;go_loopw [8] (fun iv wr=>iv= .int .i64 1∧wr=w) (fun _ _=>0)
 case atStart=>exact ⟨rfl,rfl⟩
 case round =>
  obtain ⟨rfl,rfl⟩:=hrel;go_wp2;go_end0
  exact ⟨rfl,rfl⟩
theorem Pi (w:World):Calls Tryz.prog 116 #[.slice none 0 0,.int .i64 0,.int .i64 0,.int .i64 0,.func (.func 60) #[] #[]] w fun e w'=>e= .returned (.tuple #[])∧w=w':=by
 have H:=KZ9 (Pj w);go_enter Tryz.func116,Tryz.ntmps116
 go_wp2_with fail
 go_loopw [1,2] (fun iv jv wr=>iv= .int .i64 0∧jv= .int .i64 0∧wr=w) (fun _ _ _=>0)
 case atStart=>exact ⟨rfl,rfl,rfl⟩
 case round =>
  obtain ⟨rfl,rfl,rfl⟩:=hrel;go_wp2_with fail
  refine H.out.mono ?_;rintro e w1 ⟨rfl,rfl⟩;go_wp2
  (try rw [Exit.noGoto_ret])
  refine bodyPost_ret (results_none rfl _ _ _) rfl ?_;exact ⟨rfl,rfl⟩
theorem QM (w:World):Calls Tryz.prog 59 #[.slice none 0 0,.func (.func 60) #[] #[]] w fun e w'=>e= .returned (.tuple #[])∧w=w':=by
 have H:=KZ9 (Pi w);have HB:Hid (Calls Tryz.prog 117 #[.int .u64 0] w fun e w'=>e= .returned (.int .i64 0)∧w'=w):=KZ9 (Tryz.bits_Len 0 w (by decide) (by decide));go_enter Tryz.func59,Tryz.ntmps59
 go_wp2_with fail
 refine HB.out.mono ?_;rintro e w1 ⟨rfl,rfl⟩;go_wp2_with fail
 refine H.out.mono ?_;rintro e w1 ⟨rfl,rfl⟩;go_wp2;go_end0
 exact ⟨rfl,rfl⟩
theorem RJ (w:World):Calls Tryz.prog 31 #[.slice none 0 0] w fun e w'=>e= .returned (.tuple #[.pointer (some ⟨w.heap.size,0,none⟩),.int .i64 0])∧w'=w.alloc (.cells #[.slice none 0 0] 141):=by
 have H1:=KZ9 (QN w);have H2:=KZ9 (Re w);have H3:=KZ9 (QM w);go_enter Tryz.func31,Tryz.ntmps31
 go_wp2_with fail
 refine H1.out.mono ?_;rintro e w1 ⟨rfl,rfl⟩;go_wp2_with fail
 refine H2.out.mono ?_;rintro e w1 ⟨rfl,rfl⟩;go_wp2_with fail
 refine H3.out.mono ?_;rintro e w1 ⟨rfl,rfl⟩;go_wp2_with fail
 go_loopw [5] (fun iv wr=>iv= .int .i64 1∧wr=w) (fun _ _=>0)
 case atStart=>exact ⟨rfl,rfl⟩
 case round =>
  obtain ⟨rfl,rfl⟩:=hrel;go_wp2;go_ret2;exact ⟨rfl,rfl⟩
def xD (ps lp:Nat) (clk:Int) (v:Value):List Value:=[.pointer (some ⟨ps,0,none⟩),.pointer (some ⟨lp,0,none⟩),.int .i64 clk,v]
set_option maxRecDepth 20000
theorem rW (pm ps lp n c:Nat) (clk:Int) (a:Option Addr) (w:World) (hM:BlkL w pm 73 (xD ps lp clk (.slice a n c))):Calls Tryz.prog 20 #[.pointer (some ⟨pm,0,none⟩)] w fun e w'=>e= .returned (.tuple #[.agg #[.int .i64 clk,.slice a n c],.pointer (some ⟨lp,0,none⟩)])∧Below w.heap.size w w':=by
 obtain ⟨W0,hW0⟩:∃ W0,w.alloc (.cells #[.int .i64 0,.slice none 0 0] 49)=W0:=⟨_,rfl⟩;have hb0:Below w.heap.size w W0:=by rw [←hW0];exact (Below.refl _ w).alloc (Nat.le_refl _) _
 have hx0:BlkL W0 w.heap.size 49 [.int .i64 0,.slice none 0 0]:=by rw [←hW0];exact BlkL.new w _ _
 have hm0:=hM.below hM.lt hb0;have hne:w.heap.size≠pm:=by have:=hM.lt;omega
 have HX0:=KZ9 hx0;have HB0:=KZ9 hb0;have HW0:=KZ9 hW0;have x0:=hx0.c 0 _ rfl;have x1:=hx0.c 1 _ rfl;have f0:=hx0.f 0;have f1:=hx0.f 1;have m1:=hm0.c 1 _ rfl;have m2:=hm0.c 2 _ rfl;have m3:=hm0.c 3 _ rfl;clear hM hb0 hx0 hm0 hW0;go_enter Tryz.func20,Tryz.ntmps20
 go_upto_region 3 with fail
 rw [HW0.out];go_region
 go_wp2;have hR:=((HX0.out.set 0 (by simp) (.int .i64 clk)).set 1 (by simp) (.slice a n c)).drew;have hbz:But (fun k=>k=w.heap.size) W0 (((W0.setCell ⟨w.heap.size,0,none⟩ (.int .i64 clk)).setCell ⟨w.heap.size,1,none⟩ (.slice a n c)).drew):=(((But.refl (fun k=>k=w.heap.size) W0).set (.inl rfl) 0 (.int .i64 clk)).set (.inl rfl) 1 (.slice a n c)).drew;refine bodyPost_ret (zf rfl _ _ w.heap.size 49 _ _ rfl hR Tryz.underlying49 rfl xW) rfl ?_;exact ⟨rfl,HB0.out.trans (hbz.to_below (fun k hk=>by omega) HB0.out.size)⟩
theorem ZS (dd cap h s pm ps lp:Nat) (sp:SupP) (lg:Option Addr) (clk:Int) (v:Value) (w:World) (hM:BlkL w pm 73 (xD ps lp clk v)) (hT:BlkL w ps 188 (yJ dd cap h s sp lg)):Calls Tryz.prog 44 #[.pointer (some ⟨pm,0,none⟩)] w fun e w'=>e= .returned (.bool false)∧w=w':=by
 have H:=KZ9 (gZ dd cap h s ps sp lg w hT);have m0:=hM.c 0 _ rfl;clear hM hT;go_enter Tryz.func44,Tryz.ntmps44
 go_wp2_with fail
 refine H.out.mono ?_;rintro e w1 ⟨rfl,rfl⟩;go_wp2;go_ret;exact ⟨rfl,rfl⟩
theorem ZT (dd cap h s pm ps lp:Nat) (sp:SupP) (lg:Option Addr) (clk:Int) (v:Value) (w:World) (hM:BlkL w pm 73 (xD ps lp clk v)) (hT:BlkL w ps 188 (yJ dd cap h s sp lg)):Calls Tryz.prog 46 #[.pointer (some ⟨pm,0,none⟩)] w fun e w'=>e= .returned (.int .i64 (cap:Int))∧w=w':=by
 have H:=KZ9 (Zt dd cap h s ps sp lg w hT);have m0:=hM.c 0 _ rfl;clear hM hT;go_enter Tryz.func46,Tryz.ntmps46
 go_wp2_with fail
 refine H.out.mono ?_;rintro e w1 ⟨rfl,rfl⟩;go_wp2;go_ret;exact ⟨rfl,rfl⟩
theorem RS (pm ps lp:Nat) (clk now:Int) (T:List PinP) (v:Value) (w:World) (hM:BlkL w pm 73 (xD ps lp clk v)) (hB:Base w) (hP:Pins w v T) (hok:OkS clk T):Calls Tryz.prog 10 #[.pointer (some ⟨pm,0,none⟩),.int .i64 now] w fun e w'=>∃ a c,e= .returned (.tuple #[])∧BlkL w' pm 73 (xD ps lp (max clk (min now 1099511627776)) (.slice a T.length c))∧Pins w' (.slice a T.length c) T∧(∀ k,(Value.slice a T.length c).ownBlock=some k→w.heap.size≤k)∧But (fun k=>k=pm) w w':=by
 obtain ⟨va,vc,rfl,_,_,_⟩:=hP.open;have HT:=KZ9 (Q3 clk now T _ w hB hP hok);have HM:=KZ9 hM;have m2:=hM.c 2 _ rfl;have m3:=hM.c 3 _ rfl;clear hM hB hP hok;go_enter Tryz.func10,Tryz.ntmps10
 go_wp2_with fail
 refine HT.out.mono ?_;rintro e w1 ⟨a,c,rfl,hp1,hown,hb1⟩;have hm1:=HM.out.below HM.out.lt hb1;have c2:=hm1.c 2 _ rfl;have c3:=hm1.c 3 _ rfl;have f2:=hm1.f 2;have f3:=hm1.f 3;obtain ⟨cl,hcl⟩:=KZ6 (max clk (min now 1099511627776));have HCL:=KZ9 hcl;have HM1:=KZ9 hm1;have HP1:=KZ9 hp1;have HO:=KZ9 hown;have HB1:=KZ9 hb1;have HPM:=KZ9 HM.out.lt;clear hm1 hp1 hown hb1 hcl HM HT m2 m3;go_wp2_with fail
 go_end0
 have hbz:But (fun k=>k=pm) w1 ((w1.setCell ⟨pm,2,none⟩ (.int .i64 cl)).setCell ⟨pm,3,none⟩ (.slice a T.length c)):=((But.refl (fun k=>k=pm) w1).set (.inl rfl) 2 (.int .i64 cl)).set (.inl rfl) 3 (.slice a T.length c);rw [←HCL.out];exact ⟨a,c,rfl,(HM1.out.set 2 (by simp [xD]) (.int .i64 cl)).set 3 (by simp [xD]) (.slice a T.length c),Row.but HP1.out hbz (fun k hk e=>by have:=(HO.out k hk).1;have:=HPM.out;omega),fun k hk=>(HO.out k hk).1,(But.of_below (fun k=>k=pm) HB1.out).trans hbz⟩
set_option maxHeartbeats 2000000
theorem T8 (pm ps lp:Nat) (clk:Int) (T:List PinP) (v:Value) (w:World) (hM:BlkL w pm 73 (xD ps lp clk v)) (hP:Pins w v T) (hl:T.length≤1000):Calls Tryz.prog 12 #[.pointer (some ⟨pm,0,none⟩)] w fun e w'=>∃ a c,e= .returned (.agg #[.int .i64 clk,.slice a T.length c])∧Below w.heap.size w w':=by
 obtain ⟨va,vc,rfl,_,_,_⟩:=hP.open;obtain ⟨W0,hW0⟩:∃ W0,w.alloc (.cells #[.int .i64 0,.slice none 0 0] 49)=W0:=⟨_,rfl⟩;have hb0:Below w.heap.size w W0:=by rw [←hW0];exact (Below.refl _ w).alloc (Nat.le_refl _) _
 have hx0:BlkL W0 w.heap.size 49 [.int .i64 0,.slice none 0 0]:=by rw [←hW0];exact BlkL.new w _ _
 have HCT:=KZ9 (rW pm ps lp T.length vc clk va W0 (hM.below hM.lt hb0));have HP0:=KZ9 (hP.below hb0);have HX0:=KZ9 hx0;have HB0:=KZ9 hb0;have HW0:=KZ9 hW0;clear hM hP hb0 hx0 hW0;go_enter Tryz.func12,Tryz.ntmps12
 go_wp2_with fail
 rw [HW0.out];refine HCT.out.mono ?_;rintro e w1 ⟨rfl,hb1⟩;obtain ⟨W2,hW2⟩:∃ W2,w1.alloc (.cells #[.int .i64 clk,.slice va T.length vc] 49)=W2:=⟨_,rfl⟩;have hb2:Below W0.heap.size W0 W2:=by rw [←hW2];exact hb1.alloc hb1.size _
 have hy2:BlkL W2 w1.heap.size 49 [.int .i64 clk,.slice va T.length vc]:=by rw [←hW2];exact BlkL.new w1 _ _
 have hx2:=HX0.out.below HX0.out.lt hb2;have hne:w.heap.size≠w1.heap.size:=by have:=HX0.out.lt;have:=hb1.size;omega
 have HCL:=KZ9 (ko _ T W2.drew ((HP0.out.below hb2).below (Below.refl _ W2).drew) hl);have HB2:=KZ9 (HB0.out.trans (hb2.mono HB0.out.size));have HX2:=KZ9 hx2;have HY2:=KZ9 hy2;have HW2:=KZ9 hW2;have c0:=hy2.c 0 _ rfl;have c1:=hy2.c 1 _ rfl;clear hb1 hb2 hy2 hx2 hW2 HCT HX0 HB0 HW0 HP0;go_upto_region 2 with fail
 rw [HW2.out];go_region_held3 (fun W=>W.cell? ⟨w1.heap.size,0,none⟩=some (.int .i64 clk)∧W.cell? ⟨w1.heap.size,1,none⟩=some (.slice va T.length vc)) (go_keep) (first
  | (go_at_call 25;refine HCL.out.mono ?_;rintro e w3 ⟨a,c,rfl,ho,hb3⟩;have hx3:=HX2.out.drew.below HX2.out.lt hb3;have d0:=hx3.c 0 _ rfl;have d1:=hx3.c 1 _ rfl;have f0:=hx3.f 0;have f1:=hx3.f 1;have hy3:=HY2.out.drew.below HY2.out.lt hb3;have y0:=hy3.c 0 _ rfl;have y1:=hy3.c 1 _ rfl))
 all_goals (
  have HX3:=KZ9 hx3;have HB3:=KZ9 (HB2.out.drew.trans (hb3.mono HB2.out.size));clear ho hb3 hx3 hy3 d0 d1 y0 y1 f0 f1 c0 c1;go_wp2)
 have hR:=(HX3.out.set 0 (by simp) (.int .i64 clk)).set 1 (by simp) (.slice a T.length c);have hbz:But (fun k=>k=w.heap.size) w3 ((w3.setCell ⟨w.heap.size,0,none⟩ (.int .i64 clk)).setCell ⟨w.heap.size,1,none⟩ (.slice a T.length c)):=((But.refl (fun k=>k=w.heap.size) w3).set (.inl rfl) 0 (.int .i64 clk)).set (.inl rfl) 1 (.slice a T.length c);refine bodyPost_ret (ts rfl _ _ w.heap.size 49 _ _ rfl hR Tryz.underlying49 rfl xW) rfl ?_;exact ⟨a,c,rfl,HB3.out.trans (hbz.to_below (fun k hk=>by omega) HB3.out.size)⟩
theorem Ut (I:DK) (n cap h s:Nat) (B w:World) (HPL:∀ W,Calls Tryz.prog 63 #[.int .i64 (n:Int)] W fun e w'=>e= .returned (.tuple #[.agg (uW cap h s).toArray,.int .i64 0])∧Below W.heap.size W w') (hd:DskE I w n (zs (64*n)) (zs (64*n))) (hG:Gnd I B w) (hs:1≤s) (hsh:s<h) (hn:2+h≤n) (h100:h≤100) :
  Calls Tryz.prog 19 #[.pointer (some ⟨I.dd,0,none⟩)] w fun e w'=>e= .returned (.int .i64 0)∧DskE I w' n (wF n) (wF n)∧But I.S w w':=by
 have H:=KZ9 (V3 I n cap h s B w HPL hd hG hs hsh hn h100);clear HPL hd hG;go_enter Tryz.func19,Tryz.ntmps19
 go_wp2_with fail
 refine H.out.mono ?_;rintro e w1 ⟨rfl,hd1,hb1⟩;have HD:=KZ9 hd1;have HB:=KZ9 hb1;clear hd1 hb1 H;go_wp2;go_ret;exact ⟨rfl,HD.out,HB.out⟩
structure MonQ (I:DK) (n cap h s k r:Nat) (T:List PinP) (C:Bs) (b pm:Nat) (clk:Int) (W:World):Prop where
 ge:b≤pm
 st:∃ ps lp v,BlkL W pm 73 (xD ps lp clk v)∧b≤lp∧BlkL W lp 141 [.slice none 0 0]∧OpnQ I n cap h s k r T C b ps v W
theorem WU (I:DK) (n cap h s k r:Nat) (T:List PinP) (C:Bs) (w:World) (hLT:∀ k,I.S k→k<w.heap.size)
  (HOP:∀ W,Below w.heap.size w W→Calls Tryz.prog 32 #[.pointer (some ⟨I.dd,0,none⟩)] W fun e w'=>∃ ps v,e= .returned (.tuple #[.pointer (some ⟨ps,0,none⟩),.agg #[.int .i64 0,v],.int .i64 0])∧OpnQ I n cap h s k r T C W.heap.size ps v w'∧But I.S W w') :
  Calls Tryz.prog 17 #[.pointer (some ⟨I.dd,0,none⟩),.slice none 0 0] w fun e w'=>∃ pm,e= .returned (.tuple #[.pointer (some ⟨pm,0,none⟩),.int .i64 0])∧MonQ I n cap h s k r T C w.heap.size pm 0 w'∧But I.S w w':=by
 have HNW:=KZ9 (RJ w);obtain ⟨W0,hW0⟩:∃ W0,w.alloc (.cells #[.slice none 0 0] 141)=W0:=⟨_,rfl⟩;have hb0:Below w.heap.size w W0:=by rw [←hW0];exact (Below.refl _ w).alloc (Nat.le_refl _) _
 have hx0:BlkL W0 w.heap.size 141 [.slice none 0 0]:=by rw [←hW0];exact BlkL.new w _ _
 have HOQ:=KZ9 (HOP W0 hb0);have HX0:=KZ9 hx0;have HB0:=KZ9 hb0;have HW0:=KZ9 hW0;have HLT:=KZ9 hLT;clear HOP hb0 hx0 hW0 hLT;go_enter Tryz.func17,Tryz.ntmps17
 go_wp2_with fail
 refine HNW.out.mono ?_;rintro e w1 ⟨rfl,rfl⟩;rw [HW0.out];go_wp2_with fail
 refine HOQ.out.mono ?_;rintro e w1 ⟨ps,v,rfl,hq,hb1⟩;obtain ⟨a,c,rfl,hv⟩:=id hq.sv;have hnz:¬ I.S w.heap.size:=fun hh=>by have:=HLT.out _ hh;omega
 have HX1:=KZ9 (HX0.out.but hb1 hnz);have HQ1:=KZ9 (hq.mono HB0.out.size);have HB1:=KZ9 ((But.of_below I.S HB0.out).trans hb1);clear hq hv hb1 hnz HOQ HX0 HB0 HW0 HNW;have y0:=(BlkL.new w1 49 [.int .i64 0,.slice a T.length c]).c 0 _ rfl;have y1:=(BlkL.new w1 49 [.int .i64 0,.slice a T.length c]).c 1 _ rfl;go_wp2_with fail
 go_ret2;have hbA:Below w1.heap.size w1 (w1.alloc (.cells #[.int .i64 0,.slice a T.length c] 49)):=(Below.refl _ w1).alloc (Nat.le_refl _) _;have hbB:Below w1.heap.size w1 ((w1.alloc (.cells #[.int .i64 0,.slice a T.length c] 49)).alloc (.cells (xD ps w.heap.size 0 (.slice a T.length c)).toArray 73)):=hbA.alloc hbA.size _;have hm:=BlkL.new (w1.alloc (.cells #[.int .i64 0,.slice a T.length c] 49)) 73 (xD ps w.heap.size 0 (.slice a T.length c));rw [World.size_alloc] at hm;refine ⟨w1.heap.size+1,rfl,⟨by have:=HB1.out.size;omega,ps,w.heap.size,_,hm,Nat.le_refl _,HX1.out.below HX1.out.lt hbB,HQ1.out.below hbB⟩,HB1.out.below hbB⟩
theorem sM {w:World} {g g':Nat} {T T':TypeId} {l l':List Value} (h:BlkL w g T l) (h':BlkL w g' T' l') (hT:T≠T'):g≠g':=fun e=>by
 subst e;unfold BlkL at h h';rw [h] at h';simp at h';exact hT h'.2
set_option maxHeartbeats 4000000
theorem WV (I:DK) (n cap h s pm ps lp t:Nat) (clk:Int) (C:Bs) (p:PinP) (w:World) (hM:BlkL w pm 73 (xD ps lp clk (.slice none 0 0))) (hT:BlkL w ps 188 (yJ I.dd cap h s wU (some ⟨t,0,none⟩))) (hL:BlkL w t 251 (ya I.dd (2+s) (h - s) 1 0 0 0)) (hd:DskE I w n C C) (hB:Base w)
  (hs:1≤s) (hsh:s<h) (hn:2+h≤n) (h100:h≤100) (hc1:1≤cap) (hc2:cap≤1000) (hk0:0≤clk) (hk1:clk≤1099511627776)
  (hh:p.host.length≤300) (hok:xU p=true) (he0:0≤p.expiry) (he:p.expiry≤1099511627776) (hl:(vp p).length≤1024) (hr:14+(vp p).length≤64*(h - s)) :
  Calls Tryz.prog 22 #[.pointer (some ⟨pm,0,none⟩),.agg (zW p).toArray] w fun e w'=>e= .returned (.int .i64 0)∧(∃ a c,BlkL w' pm 73 (xD ps lp clk (.slice a 1 c))∧Pins w' (.slice a 1 c) [p]∧∀ k,(Value.slice a 1 c).ownBlock=some k→w.heap.size≤k)∧BlkL w' ps 188 (yJ I.dd cap h s wU (some ⟨t,0,none⟩))∧BlkL w' t 251 (ya I.dd (2+s) (h - s) 1 (14+(vp p).length) 1 1)∧(∃ C',C'=splice C (64*(2+s)) (sd 1 0 (vp p))∧DskE I w' n C' C')∧But (fun k=>I.S k∨k=t∨k=ps∨k=pm) w w':=by
 have hpt:=sM hM hL (by decide);have hpp:=sM hM hT (by decide);have hnm:¬ I.S pm:=hd.other hM (by decide) (by decide);have hUA:=fun W (hW:Below w.heap.size w W)=>bV clk p cap W (hB.below hW) hh hok hk0 hk1 hc1 hc2;have hAP:=fun W (hW:Below w.heap.size w W)=>V5 I n cap h s ps t 0 0 wU C p W (hT.below hT.lt hW) (hL.below hL.lt hW) (hd.below hW) (hB.below hW) hs hsh hn h100 hh hok he0 he hl (by omega) (by omega);obtain ⟨W0,hW0⟩:∃ W0,w.alloc (.cells #[.int .i64 1,.string (mk p.host),.bool p.sub,.int .i64 p.expiry] 66)=W0:=⟨_,rfl⟩;have hb0:Below w.heap.size w W0:=by rw [←hW0];exact (Below.refl _ w).alloc (Nat.le_refl _) _
 have hx0:BlkL W0 w.heap.size 66 [.int .i64 1,.string (mk p.host),.bool p.sub,.int .i64 p.expiry]:=by rw [←hW0];exact BlkL.new w _ _
 have hm0:=hM.below hM.lt hb0;have HRO:=KZ9 (ZS I.dd cap h s pm ps lp wU _ clk _ W0 hm0 (hT.below hT.lt hb0));have HCP:=KZ9 (fun W (hW:Below W0.heap.size W0 W)=>ZT I.dd cap h s pm ps lp wU (some ⟨t,0,none⟩) clk (.slice none 0 0) W (hm0.below hm0.lt hW) ((hT.below hT.lt hb0).below (hT.below hT.lt hb0).lt hW));have HUA:=KZ9 (fun W (hW:Below W0.heap.size W0 W)=>hUA W (hb0.trans (hW.mono hb0.size)));have HBA:Hid (Below W0.heap.size W0 W0.drew):=KZ9 (Below.refl _ W0).drew;have HBB:Hid (Below W0.heap.size W0 (W0.alloc (.cells #[.int .i64 0,.slice none 0 0] 49)).drew):=KZ9 ((Below.refl _ W0).alloc (Nat.le_refl _) _).drew;have HZ0:Hid (BlkL (W0.alloc (.cells #[.int .i64 0,.slice none 0 0] 49)).drew W0.heap.size 49 [.int .i64 0,.slice none 0 0]):=KZ9 (BlkL.new W0 49 [.int .i64 0,.slice none 0 0]).drew;simp only [zW,zx] at HUA hAP ⊢;have HAP:=KZ9 hAP;have HM0:=KZ9 hm0;have HX0:=KZ9 hx0
 have HB0:=KZ9 hb0;have HW0:=KZ9 hW0;have HNE:=KZ9 (And.intro hpt (And.intro hpp hnm));have HLT:=KZ9 hd.lt;have HTL:=KZ9 (And.intro hT.lt hL.lt);have HML:=KZ9 hM.lt;have m2:=hm0.c 2 _ rfl;have m3:=hm0.c 3 _ rfl;obtain ⟨x0,x1,x2,x3⟩:=BlkL.cs4 hx0;have y2:=World.new_ne W0 _ m2;have y3:=World.new_ne W0 _ x0;clear hM hT hL hd hB hUA hAP hb0 hx0 hm0 hW0 hh hok he0 he hl hr hpt hpp hnm;go_enter Tryz.func22,Tryz.ntmps22
 go_wp2_with fail
 rw [HW0.out];refine HRO.out.mono ?_;rintro e w1 ⟨rfl,rfl⟩;go_upto_region 3 with fail
 go_cut [5,6] (fun s5 s6 wx=>s6= .int .i64 0∧∃ g5 a c,s5= .pointer (some ⟨g5,0,none⟩)∧Hid (W0.heap.size≤g5)∧Hid (BlkL wx g5 49 [.int .i64 clk,.slice a 1 c])∧Hid (Pins wx (.slice a 1 c) [p])∧Hid (∀ k,(Value.slice a 1 c).ownBlock=some k→W0.heap.size≤k∧k≠g5)∧Hid (Below W0.heap.size W0 wx))
 case first =>
  go_region_held3 (fun W=>W.cell? ⟨pm,2,none⟩=some (.int .i64 clk)∧W.cell? ⟨pm,3,none⟩=some (.slice none 0 0)∧W.cell? ⟨w.heap.size,0,none⟩=some (.int .i64 1)∧W.cell? ⟨w.heap.size,1,none⟩=some (.string (mk p.host))∧W.cell? ⟨w.heap.size,2,none⟩=some (.bool p.sub)∧W.cell? ⟨w.heap.size,3,none⟩=some (.int .i64 p.expiry)) (go_keep) (first
   | (go_at_call 46;refine (HCP.out _ (by first | exact HBA.out | exact HBB.out)).mono ?_;rintro e w2 ⟨rfl,rfl⟩)
   | (go_at_call 45;refine (HUA.out _ (by first | exact HBA.out | exact HBB.out)).mono ?_;rintro e w3 ⟨a,c,rfl,hp3,ho3,hb3⟩;have hb3':Below W0.heap.size W0 w3:=(by first | exact HBA.out.trans hb3 | exact HBB.out.trans (hb3.mono HBB.out.size));(try (have hz3:=HZ0.out.below HZ0.out.lt hb3;have z0:=hz3.c 0 _ rfl;have z1:=hz3.c 1 _ rfl;have fz0:=hz3.f 0;have fz1:=hz3.f 1));have hx3:=HX0.out.below HX0.out.lt hb3';have hm3:=HM0.out.below HM0.out.lt hb3';have d0:=hx3.c 0 _ rfl;have d1:=hx3.c 1 _ rfl;have d2:=hx3.c 2 _ rfl;have d3:=hx3.c 3 _ rfl;have e2:=hm3.c 2 _ rfl;have e3:=hm3.c 3 _ rfl))
  all_goals (
   have hlt3:∀ k,(Value.slice a 1 c).ownBlock=some k→k<w3.heap.size:=Row.lt hp3 (by simp);go_wp2;go_meet;first
    | exact ⟨rfl,w3.heap.size,a,c,rfl,KZ9 hb3'.size,KZ9 (BlkL.new w3 49 [.int .i64 clk,.slice a 1 c]),KZ9 (hp3.below ((Below.refl _ w3).alloc (Nat.le_refl _) _)),KZ9 (fun k hk=>⟨(by have h8:=ho3 k hk;exact h8),(by have:=hlt3 k hk;omega)⟩),KZ9 (hb3'.alloc hb3'.size _)⟩
    | exact ⟨rfl,W0.heap.size,a,c,rfl,KZ9 (Nat.le_refl _),KZ9 ((hz3.set 0 (by simp) (.int .i64 clk)).set 1 (by simp) (.slice a 1 c)),KZ9 (Row.but hp3 (((But.refl (fun k=>k=W0.heap.size) w3).set (.inl rfl) 0 (.int .i64 clk)).set (.inl rfl) 1 (.slice a 1 c)) (fun k hk e=>by have h8:=ho3 k hk;simp at h8;omega)),KZ9 (fun k hk=>by have h8:=ho3 k hk;simp at h8;omega),KZ9 (hb3'.trans ((((But.refl (fun k=>k=W0.heap.size) w3).set (.inl rfl) 0 (.int .i64 clk)).set (.inl rfl) 1 (.slice a 1 c)).to_below (fun k hk=>by omega) hb3'.size))⟩
    | (exact ⟨rfl,W0.heap.size,a,c,rfl,KZ9 (Nat.le_refl _),KZ9 ((hz3.set 0 (by simp) (.int .i64 clk)).set 1 (by simp) (.slice a 1 c)),KZ9 (Row.but hp3 (((But.refl (fun k=>k=W0.heap.size) w3).set (.inl rfl) 0 (.int .i64 clk)).set (.inl rfl) 1 (.slice a 1 c)) (fun k hk e=>by have h8:=ho3 k hk;simp at h8;omega)),KZ9 (fun k hk=>by have h8:=ho3 k hk;simp at h8;omega),KZ9 (hb3'.trans ((((But.refl (fun k=>k=W0.heap.size) w3).set (.inl rfl) 0 (.int .i64 clk)).set (.inl rfl) 1 (.slice a 1 c)).to_below (fun k hk=>by omega) hb3'.size))⟩))
 case rest =>
 obtain ⟨rfl,g5,a,c,rfl,HG5,HS5,HP5,HO5,HB5⟩:=hcut;obtain ⟨w5,rfl⟩:=KZ6 wc;have HM5:=KZ9 (HM0.out.below HM0.out.lt HB5.out);have hx5:=HX0.out.below HX0.out.lt HB5.out;have HAP5:=KZ9 (HAP.out w5.drew ((HB0.out.trans (HB5.out.mono HB0.out.size)).drew));have HX5:=KZ9 hx5;have m0:=HM5.out.c 0 _ rfl;obtain ⟨x0,x1,x2,x3⟩:=BlkL.cs4 hx5;clear m2 m3 y2 y3 hx5 HRO HCP HUA HBA HBB HZ0 HAP HW0;go_upto_region 6 with fail
 go_cut [7] (fun s7 wx=>s7= .int .i64 0∧Hid (BlkL wx ps 188 (yJ I.dd cap h s wU (some ⟨t,0,none⟩)))∧Hid (BlkL wx t 251 (ya I.dd (2+s) (h - s) 1 (14+(vp p).length) 1 1))∧Hid (∃ C',C'=splice C (64*(2+s)) (sd 1 0 (vp p))∧DskE I wx n C' C')∧Hid (But (fun k=>I.S k∨k=t∨k=ps) w5 wx))
 case first =>
  have HNX:Hid (¬ (I.S w.heap.size∨w.heap.size=t∨w.heap.size=ps)):=KZ9 (fun hh=>hh.elim (fun h8=>by have:=HLT.out _ h8;omega) (fun hh=>hh.elim (fun h8=>by have:=HTL.out.2;omega) (fun h8=>by have:=HTL.out.1;omega)));have HNM:Hid (¬ (I.S pm∨pm=t∨pm=ps)):=KZ9 (fun hh=>hh.elim HNE.out.2.2 (fun hh=>hh.elim HNE.out.1 HNE.out.2.1));go_region_held3 (fun W=>W.cell? ⟨pm,0,none⟩=some (.pointer (some ⟨ps,0,none⟩))∧W.cell? ⟨w.heap.size,0,none⟩=some (.int .i64 1)∧W.cell? ⟨w.heap.size,1,none⟩=some (.string (mk p.host))∧W.cell? ⟨w.heap.size,2,none⟩=some (.bool p.sub)∧W.cell? ⟨w.heap.size,3,none⟩=some (.int .i64 p.expiry)) (go_keep) (first
   | (go_at_call 47;refine HAP5.out.mono ?_;rintro e w6 ⟨rfl,hT6,hL6,hC6,hb6⟩;have hx6:=HX5.out.drew.but hb6 HNX.out;have hm6:=HM5.out.drew.but hb6 HNM.out;have d0:=hx6.c 0 _ rfl;have d1:=hx6.c 1 _ rfl;have d2:=hx6.c 2 _ rfl;have d3:=hx6.c 3 _ rfl;have e0:=hm6.c 0 _ rfl))
  all_goals (
   have H1:=KZ9 hT6;have H2:=KZ9 hL6;have H3:=KZ9 hC6;have H4:=KZ9 ((But.refl (fun k=>I.S k∨k=t∨k=ps) w5).drew.trans hb6);clear hT6 hL6 hC6 hb6 hx6 hm6 d0 d1 d2 d3 e0 m0 x0 x1 x2 x3;go_wp2;go_meet;rw [Nat.zero_add] at H2;exact ⟨rfl,H1,H2,H3,H4⟩)
 case rest =>
 obtain ⟨rfl,HT6,HL6,HC6,HB6⟩:=hcut;obtain ⟨w6,rfl⟩:=KZ6 wc;have hg5:¬ (I.S g5∨g5=t∨g5=ps):=by
  have h9:=HG5.out;have h7:=HB0.out.size;rintro (h8 | h8 | h8)
  ·have:=HLT.out _ h8;omega
  ·have:=HTL.out.2;omega
  have:=HTL.out.1;omega
 have hm6:=HM5.out.but HB6.out (fun hh=>hh.elim HNE.out.2.2 (fun hh=>hh.elim HNE.out.1 HNE.out.2.1));have hs6:=HS5.out.but HB6.out hg5;have hp6:Pins w6 (.slice a 1 c) [p]:=Row.but HP5.out HB6.out (fun k hk h8=>by
  have h9:=(HO5.out k hk).1;have h7:=HB0.out.size;rcases h8 with h8 | h8 | h8
  ·have:=HLT.out _ h8;omega
  ·have:=HTL.out.2;omega
  have:=HTL.out.1;omega)
 have m2:=hm6.c 2 _ rfl;have m3:=hm6.c 3 _ rfl;have f2:=hm6.f 2;have f3:=hm6.f 3;have s0:=hs6.c 0 _ rfl;have s1:=hs6.c 1 _ rfl;have HM6:=KZ9 hm6;have HP6:=KZ9 hp6;clear hm6 hs6 hp6 hg5 m0 x0 x1 x2 x3 HAP5 HX5 HM5 HS5 HP5;go_wp2_with fail
 go_ret;have hbz:But (fun k=>k=pm) w6 ((w6.setCell ⟨pm,2,none⟩ (.int .i64 clk)).setCell ⟨pm,3,none⟩ (.slice a 1 c)):=((But.refl (fun k=>k=pm) w6).set (.inl rfl) 2 (.int .i64 clk)).set (.inl rfl) 3 (.slice a 1 c);have hw5:w.heap.size≤W0.heap.size:=HB0.out.size;refine ⟨rfl,⟨a,c,(HM6.out.set 2 (by simp [xD]) (.int .i64 clk)).set 3 (by simp [xD]) (.slice a 1 c),Row.but HP6.out hbz (fun k hk e=>by have:=(HO5.out k hk).1;have:=HML.out;omega),fun k hk=>by have:=(HO5.out k hk).1;omega⟩,HT6.out.but hbz (fun e=>HNE.out.2.1 e.symm),HL6.out.but hbz (fun e=>HNE.out.1 e.symm),?_,?_⟩
 ·obtain ⟨C',h8,h9⟩:=HC6.out;exact ⟨C',h8,h9.typed HM6.out (by decide) (by decide) hbz⟩
 exact (((But.of_below (fun k=>I.S k∨k=t∨k=ps∨k=pm) (HB0.out.trans (HB5.out.mono HB0.out.size))).step HB6.out (fun i hi=> .inl (hi.elim .inl (fun h8=> .inr (h8.elim .inl (fun h7=> .inr (.inl h7))))))).step hbz (fun i hi=> .inl (.inr (.inr (.inr hi)))))
end Go.Proofs.YtbnnlkdhpifpeaaGreatDoor
namespace Hs
open Go
def Zb (l:Bs):List Bs:=if zG l=true then yc l else []
theorem Qr (c:UInt8) (a r:Bs) (h:∀ b∈a,b≠c):pF c (a++c::r)=(a,r,true):=by
 unfold pF;rw [qN c r a h,if_neg (by omega)];have e1:(a++c::r).take ((a.length:Int)).toNat=a:=List.take_left;have e2:(a++c::r).drop ((a.length:Int).toNat+1)=r:=by rw [List.drop_append];simp
 rw [e1,e2]
theorem Qq (c:UInt8) (a:Bs) (h:∀ b∈a,b≠c):pF c a=(a,[],false):=by
 unfold pF;rw [uZ c a h,if_pos (by omega)]
theorem gE (s n:Bs):Lib.hasSuffix n (46::s)=decide (s∈yc n):=by
 unfold Lib.hasSuffix;rw [Bool.eq_iff_iff,decide_eq_true_eq,List.isSuffixOf_iff_suffix,kH]
end Hs
namespace Go.Proofs.YtbnnlkdhpifpeaaGreatDoor
open Go.RowKit Go.Shelf Hs
set_option maxRecDepth 20000
set_option maxHeartbeats 4000000
theorem Su (s n:ByteArray) (w:World) (hB:Base w) (hs:s.size≤100000) (hn:n.size≤100000):Calls Tryz.prog 225 #[.string s,.string n] w fun e w'=>e= .returned (.bool (jz (un s) (un n)))∧Below w.heap.size w w':=by
 have hdef:jz (un s) (un n)=(zG (un s)&&zG (un n)&&(decide (un s=un n)||decide (un s∈yc (un n)))):=rfl;have HS:=KZ9 (wD s w hB hs);have HN:=KZ9 (fun W hb=>wD n W hb hn);have hq:(s.toList==n.toList)=decide (un s=un n):=by
  rw [zy,zy];by_cases h:un s=un n<;>simp [h]
 have hsf:=fun W=>Tryz.strings_HasSuffix n (⟨#[46]⟩++s) W (by omega);have e2:Lib.hasSuffix n.data.toList ((⟨#[46]⟩:ByteArray)++s).data.toList=decide (un s∈yc (un n)):=by
  rw [←gE];show Lib.hasSuffix (un n) (un (⟨#[46]⟩++s))=_;rw [yT];rfl
 rw [e2] at hsf;have HSF:=KZ9 hsf;obtain ⟨a,ha⟩:=KZ6 (zG (un s));obtain ⟨b,hb⟩:=KZ6 (zG (un n));obtain ⟨c,hc⟩:=KZ6 (decide (un s=un n));obtain ⟨d,hd⟩:=KZ6 (decide (un s∈yc (un n)));rw [←ha,←hb,←hc,←hd] at hdef;rw [←ha] at HS;simp only [←hb] at HN;rw [←hc] at hq;simp only [←hd] at HSF;have HDEF:=KZ9 hdef;have HBB:=KZ9 hB;clear ha hb hc hd hdef e2 hsf hB;go_enter Tryz.func225,Tryz.ntmps225
 go_wp2_with fail
 refine HS.out.mono ?_;rintro e w1 ⟨rfl,hb1⟩;have HB1:=KZ9 hb1;clear hb1 HS;cases a
 ·go_wp2
  all_goals try omega
  go_ret;rw [HDEF.out];exact ⟨rfl,HB1.out⟩
 go_wp2_with fail
 all_goals try omega
 refine (HN.out _ (HBB.out.below HB1.out)).mono ?_;rintro e w2 ⟨rfl,hb2⟩;have HB2:=KZ9 (HB1.out.trans (hb2.mono HB1.out.size));clear hb2 HN;cases b
 ·go_wp2
  all_goals try omega
  go_ret;rw [HDEF.out];exact ⟨rfl,HB2.out⟩
 cases c
 ·go_wp2_with fail
  all_goals try omega
  refine (HSF.out _).mono ?_;rintro e w3 ⟨rfl,rfl⟩;go_wp2
  all_goals try omega
  go_ret;rw [HDEF.out];exact ⟨rfl,HB2.out⟩
 go_wp2
 all_goals try omega
 go_ret;rw [HDEF.out];exact ⟨rfl,HB2.out⟩
theorem Sz (s:ByteArray) (w:World):Calls Tryz.prog 171 #[.string s] w fun e w'=>e= .returned (.func (.func 246) #[] #[.pointer (some ⟨w.heap.size,0,none⟩)])∧w'=w.alloc (.cells #[.string s] 9):=by
 go_enter Tryz.func171,Tryz.ntmps171
 go_wp2;go_ret;exact ⟨rfl,rfl⟩
attribute [local go_sem] Oper.semAt_some
set_option maxRecDepth 100000
theorem Y4 (n ct n₀:Nat) (s:ByteArray) (w:World) (hn:1≤n) (bt:Boxed w ct 9 (.string s)) (hct:n₀≤ct) (hBK:∀ W',Keeps (fun k=>k<n₀) w W'→Base W') (hn₀:n₀≤w.heap.size) (hs:s.size≤100000) :
  Seq Fence.wide n Tryz.prog 246 #[.pointer (some ⟨ct,0,none⟩)] (fun x:Bs=>#[.string (mk x)]) (fun k=>k=ct) n₀ (fun xs=>xs=Zb (un s)) (fun pre=>pre <+: Zb (un s)) w:=fun l J Jx W hW hJ hJx hY h0=>by
 have Bt0:Boxed W ct 9 (.string s):=(hW.block ct bt.lt).trans bt;have hKW:Keeps (fun k=>k<n₀) w W:=Keeps.of_below hW;have BW:=hBK W hKW;have hv:=wD s W BW hs;obtain ⟨nv,hnv⟩:=KZ6 (zG (un s));rw [←hnv] at hv;have HV:=KZ9 hv;have HNV:=KZ9 hnv;have et0:=Bt0.cell;clear hv hnv;refine callsIn_of_wp Tryz.func246 rfl trivial ?_ rfl;simp only [Tryz.ntmps246,List.size_toArray,List.length_cons,List.length_nil,Nat.reduceAdd,Nat.reduceSub,Array.replicate_succ,Array.replicate_zero,List.push_toArray,List.append_toArray,List.nil_append,List.cons_append]
 gi_wp2
 refine ⟨trivial,?_⟩;refine (callsIn_wide.2 HV.out).mono ?_;rintro e w1 ⟨rfl,hb1⟩;have hg1:=grown_of_below hb1;have J1:=hJ.turn _ _ _ _ _ h0 hg1 (fun r e=>by cases e);have Bt1:=Bt0.kept hg1 (by simp);have K1:Keeps (fun k=>k<n₀) w w1:=hKW.trans (Keeps.of_below hb1);clear hb1 hg1 et0 HV BW hKW;cases nv
 ·have hfin:Zb (un s)=[]:=by unfold Zb;rw [←HNV.out];rfl
  gi_wp2
  refine bodyPost_ret (results_none rfl _ _ _) rfl ?_;exact ⟨⟨_,rfl⟩,.inl ⟨[],_,hfin.symm,J1⟩⟩
 have hsup:Zb (un s)=yc (un s):=by unfold Zb;rw [←HNV.out];rfl
 rw [hsup] at hY;have HSUP:=KZ9 hsup;clear hsup HNV
 gi_wp2
 gi_loopw [] (fun wr=>∃ (pre:List Bs) (t:ByteArray) (G:Nat→Prop),Hid (pre++yc (un t)=yc (un s))∧t.size≤s.size∧Boxed wr ct 9 (.string t)∧J pre G wr∧G ct∧Hid (Keeps (fun k=>k<n₀) w wr)) (fun wr=>jA ct wr)
 case atStart=>exact ⟨[],s,_,rfl,Nat.le_refl _,Bt1,J1,rfl,K1⟩
 case round =>
  obtain ⟨pre,t,G,hpre,hts,hbt,hJs,hGt,hkk⟩:=hrel;have et:=hbt.cell;have hmeas:=tY hbt;have hcut:=Z4 t 46 wr (hBK wr hkk.out) (by omega);rcases SL (un t) 46 with ⟨a,r,e,hna⟩ | hno
  ·rw [e,Qr 46 a r (fun b hb e=>hna (e▸hb))] at hcut;have HCUT:=KZ9 hcut;have hal:a.length+1+r.length=t.size:=by have:=congrArg List.length e;rw [za] at this;simp at this;omega
   have hnext:Hid ((pre++[r])++yc r=yc (un s)):=by rw [←hpre.out,e,jN r a (fun x hx e=>hna (e▸hx))];simp [Hid]
   clear hcut hpre e hna
   gi_wp2
   refine ⟨trivial,?_⟩;refine (callsIn_wide.2 HCUT.out).mono ?_;rintro e w2 ⟨rfl,hb2⟩;have hg2:=grown_of_below hb2;have J2:=hJ.turn _ _ _ _ _ hJs hg2 (fun r e=>by cases e);have B2:=hbt.kept hg2 (by simp);have K2:=KZ9 (hkk.out.trans (Keeps.of_below hb2));obtain ⟨fn,tmps,assign,body,hy,hR⟩:=hY pre r G w2 J2 ⟨_,hnext.out⟩;clear hb2 hg2 et HCUT hkk
   gi_wp2
   refine hR.mono ?_;rintro e W3 (⟨rfl,hJ3,hk3⟩ | ⟨rfl,hJx3,hk3⟩)
   ·have b3:Boxed W3 ct 9 (.string t):=(hk3.block ct B2.lt (.inl hGt)).trans B2;have K3:Keeps (fun k=>k<n₀) w W3:=K2.out.trans (hk3.mono fun k h=> .inr h);have e3:=b3.cell;have f3:=b3.frozen
    gi_wp2
    go_roundw
    case rel=>exact ⟨_,mk r,G,by rw [zk];exact hnext,by rw [zi];omega,b3.set _,hJ.turn _ _ _ _ _ hJ3 (grown_setCell _ ct 0 _) (fun r e=>by cases e;exact hGt),hGt,KZ9 (K3.trans (Keeps.setCell _ ct 0 (by omega) _))⟩
    case measure=>rw [tY (b3.set _),hmeas,zi];omega
   gi_wp2
   refine bodyPost_ret (results_none rfl _ _ _) rfl ?_;exact ⟨⟨_,rfl⟩,.inr ⟨_,G,by rw [HSUP.out];exact ⟨_,hnext.out⟩,hJx3⟩⟩
  rw [Qq 46 _ (fun b hb e=>hno (e▸hb))] at hcut;have HCUT:=KZ9 hcut;have hnext:Hid (pre=yc (un s)):=by rw [←hpre.out,pM _ (fun x hx e=>hno (e▸hx))];simp [Hid]
  clear hcut hpre hno
  gi_wp2
  refine ⟨trivial,?_⟩;refine (callsIn_wide.2 HCUT.out).mono ?_;rintro e w2 ⟨rfl,hb2⟩;have hg2:=grown_of_below hb2;have J2:=hJ.turn _ _ _ _ _ hJs hg2 (fun r e=>by cases e);clear hb2 hg2 et HCUT hkk
  gi_wp2
  refine ⟨(fun _ h=>by cases h),?_⟩
  gi_wp2
  refine bodyPost_ret (results_none rfl _ _ _) rfl ?_;exact ⟨⟨_,rfl⟩,.inl ⟨_,G,by rw [HSUP.out];exact hnext.out,J2⟩⟩
end Go.Proofs.YtbnnlkdhpifpeaaGreatDoor
namespace Go.Proofs.YtbnnlkdhpifpeaaGreatDoor
open Go.RowKit Hs
theorem TZ (l:List Nat) (i:Nat) (h:i<l.length) (W:World):(part 95 (yd l).toArray i).run Tryz.prog W= .ok (.int .u16 (l[i]:Int)) W :=
 run_part_plain W (by kernel_rfl) (by simp [yd,List.getElem?_eq_getElem h])
theorem bE (d:Nat) (a b:List Nat) (W:World):∀ (is:List Nat),(∀ i∈is,i<a.length∧i<b.length)→(Op.eqItems (d+1) 95 1 (yd a).toArray (yd b).toArray is).run Tryz.prog W= .ok (decide (∀ i∈is,a[i]? =b[i]?)) W
 | [],_=>by simp [Op.eqItems]
 | i::is,h=>by
  obtain ⟨h1,h2⟩:=h i (List.mem_cons_self ..);have ih:=bE d a b W is (fun j hj=>h j (List.mem_cons_of_mem _ hj));simp only [Op.eqItems,Sem.run_bind,Nat.mul_one,TZ a i h1 W,TZ b i h2 W,Result.andThen_ok,run_equalIn_int W d 95 .u16 .u16 _ _ Tryz.underlying95];by_cases he:a[i]=b[i]
  ·have e1:((a[i]:Int)==(b[i]:Int))=true:=by simp [he]
   rw [e1];simp only [Bool.not_true,Bool.false_eq_true,if_false];rw [ih]
   congr 1
   simp [List.getElem?_eq_getElem h1,List.getElem?_eq_getElem h2,he]
  have e1:((a[i]:Int)==(b[i]:Int))=false:=by simp;omega
  rw [e1];simp only [Bool.not_false,if_true];have:decide (∀ j∈i::is,a[j]? =b[j]?)=false:=by
   apply KZ8;intro hh;have:=hh i (List.mem_cons_self ..);rw [List.getElem?_eq_getElem h1,List.getElem?_eq_getElem h2] at this;exact he (Option.some.inj this)
  rw [this];rfl
theorem Vv:Tryz.prog.cellsOf 95=1:=by kernel_rfl
theorem Vx (a b:List Nat) (ha:a.length=8) (hb:b.length=8) (W:World):(Op.equalIn 10000 96 (.agg (yd a).toArray) (.agg (yd b).toArray)).run Tryz.prog W= .ok (decide (a=b)) W:=by
 obtain ⟨i,hi,_⟩:=Option.map_eq_some_iff.1 Z9;have h:=run_equalIn_array W 9999 (yd a).toArray (yd b).toArray Tryz.underlying96 hi;rw [Vv,bE 9998 a b W _ (fun j hj=>by have:=List.mem_range.1 hj;omega)] at h;have e9:9999+1=10000:=by omega
 rw [e9] at h;refine h.trans ?_;have key:(∀ i∈List.range 8,a[i]? =b[i]?)↔a=b:=by
  constructor
  ·intro hh;apply List.ext_getElem?;intro j;by_cases hj:j<8
   ·exact hh j (List.mem_range.2 hj)
   rw [List.getElem?_eq_none (by omega),List.getElem?_eq_none (by omega)]
  intro e j _;rw [e]
 rw [decide_eq_decide.2 key]
theorem BlkN.later {W:World} {g:Nat} {T:TypeId} {l:List Nat} (h:BlkN W g T (yd l).toArray) (k:Nat) (hk:k<l.length):∀ x:xi W,x.1.cell? ⟨g,k,none⟩=some (.int .u16 (l[k]:Int)):=by
 intro x;rw [cell_of_row x.1 g k _ _ _ (h.below h.lt x.2)];simp [yd,List.getElem?_eq_getElem hk]
theorem qf (k:Nat) (n:Bs) (v:Nat) (x:List Nat):yo ⟨k,n,v,x⟩=if k=1 then (zG n&&decide (v=0)&&decide (x=vG)) else if k=2 then (decide (n=[])&&decide (x=vG)) else if k=3 then (decide (n=[])&&decide (v=0)) else false:=by
 match k with
 | 0=>rfl
 | 1=>rfl
 | 2=>rfl
 | 3=>rfl
 | k+4=>rw [if_neg (by omega),if_neg (by omega),if_neg (by omega)];rfl
theorem qg (h:HostP):(zj h)[0]? =some (.int .i64 (h.kind:Int))∧(zj h)[1]? =some (.string (mk h.name))∧(zj h)[2]? =some (.int .u32 (h.v4:Int))∧∀ j,(zj h)[3+j]? =(yd h.v6)[j]? :=⟨rfl,rfl,rfl,fun j=>by rw [Nat.add_comm];rfl⟩
set_option maxRecDepth 20000
set_option maxHeartbeats 4000000
theorem jx (h:HostP) (w:World) (hB:Base w) (hw:xR h) (hn:h.name.length≤100000):Calls Tryz.prog 164 #[.agg (zj h).toArray] w fun e w'=>e= .returned (.bool (yo h))∧Below w.heap.size w w':=by
 obtain ⟨W0,hW0⟩:=KZ6 ((w.alloc (.cells (zj h).toArray 98)).alloc (.cells (yd vG).toArray 96));have hbA:Below w.heap.size w W0:=by rw [hW0];exact ((Below.refl _ w).alloc (Nat.le_refl _) _).alloc (by simp) _
 have hb0:BlkL W0 w.heap.size 98 (zj h):=by rw [hW0];exact (BlkL.new w _ _).alloc _
 have hz0:BlkL W0 (w.heap.size+1) 96 (yd vG):=by
  rw [hW0];have:=BlkL.new (w.alloc (.cells (zj h).toArray 98)) 96 (yd vG)
  simpa using this
 have HW0:Hid ((w.alloc (.cells (zj h).toArray 98)).alloc (.cells #[.int .u16 0,.int .u16 0,.int .u16 0,.int .u16 0,.int .u16 0,.int .u16 0,.int .u16 0,.int .u16 0] 96)=W0):=KZ9 hW0.symm;have hsz:W0.heap.size=w.heap.size+2:=by rw [hW0];simp
 have B0:=hB.below hbA;clear hW0;go_enter Tryz.func164,Tryz.ntmps164
 go_upto_region 2 with fail
 rw [HW0.out];clear HW0;obtain ⟨kind,name,v4,v6⟩:=h;obtain ⟨a,b,c,d,e,f,g,i,rfl⟩:=Z5 hw.1;have hq:∀ W,(Op.equalIn 10000 96 (.agg #[.int .u16 (a:Int),.int .u16 (b:Int),.int .u16 (c:Int),.int .u16 (d:Int),.int .u16 (e:Int),.int .u16 (f:Int),.int .u16 (g:Int),.int .u16 (i:Int)]) (.agg #[.int .u16 0,.int .u16 0,.int .u16 0,.int .u16 0,.int .u16 0,.int .u16 0,.int .u16 0,.int .u16 0])).run Tryz.prog W= .ok (decide ([a,b,c,d,e,f,g,i]=vG)) W:=Vx [a,b,c,d,e,f,g,i] vG rfl rfl;have HOK:=KZ9 (qf kind name v4 [a,b,c,d,e,f,g,i]);obtain ⟨qv,hqv⟩:=KZ6 (decide ([a,b,c,d,e,f,g,i]=vG));rw [←hqv] at hq HOK;clear hqv hw;simp only at hn;obtain ⟨c0,c1,c2,c3,c4,c5,c6,c7,c8,c9,c10⟩:=BlkL.cs11 hb0;obtain ⟨z0,z1,z2,z3,z4,z5,z6,z7⟩:=BlkL.cs8 hz0;by_cases k1:kind=1
 ·subst k1;have HOK2:Hid (yo ⟨1,name,v4,[a,b,c,d,e,f,g,i]⟩=(zG name&&decide (v4=0)&&qv)):=KZ9 (HOK.out.trans (if_pos rfl));have hv:=wD (mk name) W0 B0 (by rw [zi];omega);rw [zk] at hv;obtain ⟨nv,hnv⟩:=KZ6 (zG name);rw [←hnv] at hv HOK2;have HV:=KZ9 hv;clear hv hnv HOK;go_wp2_with fail
  all_goals try omega
  refine HV.out.mono ?_;rintro e w1 ⟨rfl,hb1⟩;have HALL:=KZ9 (hbA.trans (hb1.mono (by omega)));have hb2:=hb0.below (by omega) hb1;have hz2:=hz0.below (by omega) hb1;clear c0 c1 c2 c3 c4 c5 c6 c7 c8 c9 c10 z0 z1 z2 z3 z4 z5 z6 z7;have c2:=hb2.c 2 _ rfl;have c3:=hb2.c 3 _ rfl;have c4:=hb2.c 4 _ rfl;have c5:=hb2.c 5 _ rfl;have c6:=hb2.c 6 _ rfl;have c7:=hb2.c 7 _ rfl;have c8:=hb2.c 8 _ rfl;have c9:=hb2.c 9 _ rfl;have c10:=hb2.c 10 _ rfl;obtain ⟨z0,z1,z2,z3,z4,z5,z6,z7⟩:=BlkL.cs8 hz2;clear hb1 hb2 hz2 hb0 hz0 HV B0 hB hbA;cases nv
  ·go_wp2
   all_goals try omega
   go_ret;rw [HOK2.out];exact ⟨rfl,HALL.out⟩
  by_cases hv4:v4=0
  ·subst hv4;go_wp2
   all_goals try omega
   go_ret;rw [HOK2.out];exact ⟨by simp,HALL.out⟩
  have g2:((v4:Int)==0)=false:=by simp;omega
  go_wp2
  all_goals try omega
  go_ret;rw [HOK2.out,KZ8 hv4];exact ⟨by simp,HALL.out⟩
 have g1:((kind:Int)==1)=false:=by simp;omega
 clear hb0 hz0 B0 hB;have HBA:=KZ9 hbA;have hem:((mk name).toList==([]:Bs))=decide (name=[]):=by rw [toList_mk'];cases name<;>rfl
 obtain ⟨ne,hne⟩:=KZ6 (decide (name=[]));rw [←hne] at hem HOK;clear hbA hne;by_cases k2:kind=2
 ·subst k2;have HOK2:Hid (yo ⟨2,name,v4,[a,b,c,d,e,f,g,i]⟩=(ne&&qv)):=KZ9 (HOK.out.trans ((if_neg (by decide)).trans (if_pos rfl)));clear HOK;cases ne
  ·go_wp2
   all_goals try omega
   go_ret;rw [HOK2.out];exact ⟨rfl,HBA.out⟩
  go_wp2
  all_goals try omega
  go_ret;rw [HOK2.out];exact ⟨by simp,HBA.out⟩
 have g2:((kind:Int)==2)=false:=by simp;omega
 by_cases k3:kind=3
 ·subst k3;have HOK2:Hid (yo ⟨3,name,v4,[a,b,c,d,e,f,g,i]⟩=(ne&&decide (v4=0))):=KZ9 (HOK.out.trans ((if_neg (by decide)).trans ((if_neg (by decide)).trans (if_pos rfl))));clear HOK;cases ne
  ·go_wp2
   all_goals try omega
   go_ret;rw [HOK2.out];exact ⟨rfl,HBA.out⟩
  by_cases hv4:v4=0
  ·subst hv4;go_wp2
   all_goals try omega
   go_ret;rw [HOK2.out];exact ⟨by simp,HBA.out⟩
  have g3:((v4:Int)==0)=false:=by simp;omega
  go_wp2
  all_goals try omega
  go_ret;rw [HOK2.out,KZ8 hv4];exact ⟨by simp,HBA.out⟩
 have g3:((kind:Int)==3)=false:=by simp;omega
 have HOK2:Hid (yo ⟨kind,name,v4,[a,b,c,d,e,f,g,i]⟩=false):=KZ9 (HOK.out.trans ((if_neg k1).trans ((if_neg k2).trans (if_neg k3))));clear HOK;go_wp2
 all_goals try omega
 go_ret;rw [HOK2.out];exact ⟨rfl,HBA.out⟩
end Go.Proofs.YtbnnlkdhpifpeaaGreatDoor
namespace Hs
open Go
theorem sJ (now:Int) (T:List PinP) (L:List EntP):∀ (pre r:List Bs),(∀ s∈pre,covAt now T L s false=none)→wt now T L (pre++r)=wt now T L r
 | [],r,_=>rfl
 | s::p,r,h=>by
  rw [List.cons_append,wt,h s (List.mem_cons_self ..)];exact sJ now T L p r (fun x hx=>h x (List.mem_cons_of_mem _ hx))
theorem We (now:Int) (T:List PinP) (L:List EntP) (pre:List Bs) (x:Bs) (r:List Bs) (c:CovP) (h:∀ s∈pre,covAt now T L s false=none) (hx:covAt now T L x false=some c):wt now T L (pre++x::r)=c:=by
 rw [sJ now T L pre _ h,wt,hx]
theorem Vu {now:Int} {T:List PinP} {L:List EntP} {h:HostP} (hk:¬ (h.kind=1∧yo h=true)):tg now T L h=cov0:=if_neg hk
theorem SQ {now:Int} {T:List PinP} {L:List EntP} {h:HostP} (hk:h.kind=1∧yo h=true) {c:CovP} (hc:covAt now T L h.name true=some c):tg now T L h=c:=by
 unfold tg;rw [if_pos hk,hc]
theorem SP {now:Int} {T:List PinP} {L:List EntP} {h:HostP} (hk:h.kind=1∧yo h=true) (hc:covAt now T L h.name true=none):tg now T L h=wt now T L (yc h.name):=by
 unfold tg;rw [if_pos hk,hc]
end Hs
namespace Go.Proofs.YtbnnlkdhpifpeaaGreatDoor
open Go.RowKit Go.Shelf Hs
attribute [local go_sem] Oper.semAt_some
def CInv (w:World) (z y:Nat) (now:Int) (q:Option Addr) (T:List PinP) (pre:List Bs) (G:Nat→Prop) (W:World):Prop :=
 (∀ s∈pre,covAt now T [] s false=none)∧BlkL W z 3 [.int .i64 now]∧BlkL W (z+1) 123 [.pointer q]∧BlkL W (z+2) 60 [.pointer none]∧BlkL W (z+4) 204 (zw cov0)∧BlkL W (z+5) 204 (zw cov0)∧W.heap[y+1]? =some (.deferred (some []))∧Below z w W∧(∀ k,G k→z+5<k∧k≠y+1)
def COut (w:World) (z y:Nat) (now:Int) (T:List PinP) (S:List Bs) (c:Code) (pre:List Bs) (G:Nat→Prop) (W:World):Prop :=
 c= .exit 0∧BlkL W (z+4) 204 (zw cov0)∧BlkL W (z+5) 204 (zw (wt now T [] S))∧W.heap[y+1]? =some (.deferred (some []))∧Below z w W∧(∀ k,G k→z+5<k∧k≠y+1)
theorem CInv.turn {w:World} {z y:Nat} {now:Int} {q:Option Addr} {T:List PinP} {pre:List Bs} {G:Nat→Prop} {A B:World} {row:Option Nat} (h:CInv w z y now q T pre G A) (hz:z≤w.heap.size) (hy:z+5<y) (hg:A.grownBy B row) (hr:∀ r,row=some r→G r∨r=y+2):CInv w z y now q T pre G B:=by
 obtain ⟨h1,b0,b1,b2,b4,b5,h3,h4,h5⟩:=h;have hlow:∀ r,row=some r→z+5<r∧r≠y+1:=fun r e=>(hr r e).elim (h5 r) (fun h=>by omega);have ne:∀ k,k≤z+5→some k≠row:=fun k hk e=>by have:=hlow _ e.symm;omega
 exact ⟨h1,b0.grown hg (ne _ (by omega)),b1.grown hg (ne _ (by omega)),b2.grown hg (ne _ (by omega)),b4.grown hg (ne _ (by omega)),b5.grown hg (ne _ (by omega)),(hg.block _ (Array.getElem?_eq_some_iff.1 h3).1 (fun e=>(hlow _ e.symm).2 rfl)).trans h3,h4.grown hg (by have:=h4.size;omega) (fun j hj=>by have:=hlow j hj;omega),h5⟩
theorem CInv.lay {w:World} {z y:Nat} {now:Int} {q:Option Addr} {T:List PinP} {pre:List Bs} {G:Nat→Prop} {A B:World} (h:CInv w z y now q T pre G A) (hz:z≤w.heap.size) (hy:z+5<y) (hg:A.grownBy B none):CInv w z y now q T pre (fun k=>G k∨(A.heap.size≤k∧k<B.heap.size)) B:=by
 obtain ⟨h1,b0,b1,b2,b4,b5,h3,h4,h5⟩:=h;have hlt:=(Array.getElem?_eq_some_iff.1 h3).1;exact ⟨h1,b0.grown hg (by simp),b1.grown hg (by simp),b2.grown hg (by simp),b4.grown hg (by simp),b5.grown hg (by simp),(hg.block _ hlt (by simp)).trans h3,h4.grown hg (by have:=h4.size;omega) (fun j hj=>by cases hj),fun k hk=>hk.elim (h5 k) (fun h=>⟨by have:=b5.lt;omega,by omega⟩)⟩
theorem COut.turn {w:World} {z y:Nat} {now:Int} {T:List PinP} {S:List Bs} {c:Code} {pre:List Bs} {G:Nat→Prop} {A B:World} {row:Option Nat} (h:COut w z y now T S c pre G A) (hz:z≤w.heap.size) (hy:z+5<y) (hg:A.grownBy B row) (hr:∀ r,row=some r→G r∨r=y+2):COut w z y now T S c pre G B:=by
 obtain ⟨h1,b4,b5,h3,h4,h5⟩:=h;have hlow:∀ r,row=some r→z+5<r∧r≠y+1:=fun r e=>(hr r e).elim (h5 r) (fun h=>by omega);have ne:∀ k,k≤z+5→some k≠row:=fun k hk e=>by have:=hlow _ e.symm;omega
 exact ⟨h1,b4.grown hg (ne _ (by omega)),b5.grown hg (ne _ (by omega)),(hg.block _ (Array.getElem?_eq_some_iff.1 h3).1 (fun e=>(hlow _ e.symm).2 rfl)).trans h3,h4.grown hg (by have:=h4.size;omega) (fun j hj=>by have:=hlow j hj;omega),h5⟩
theorem COut.lay {w:World} {z y:Nat} {now:Int} {T:List PinP} {S:List Bs} {c:Code} {pre:List Bs} {G:Nat→Prop} {A B:World} (h:COut w z y now T S c pre G A) (hz:z≤w.heap.size) (hy:z+5<y) (hg:A.grownBy B none):COut w z y now T S c pre (fun k=>G k∨(A.heap.size≤k∧k<B.heap.size)) B:=by
 obtain ⟨h1,b4,b5,h3,h4,h5⟩:=h;have hlt:=(Array.getElem?_eq_some_iff.1 h3).1;exact ⟨h1,b4.grown hg (by simp),b5.grown hg (by simp),(hg.block _ hlt (by simp)).trans h3,h4.grown hg (by have:=h4.size;omega) (fun j hj=>by cases hj),fun k hk=>hk.elim (h5 k) (fun h=>⟨by have:=b5.lt;omega,by omega⟩)⟩
theorem zO {W:World} {g:Nat} {T:TypeId} {l:List Value} (h:BlkL W g T l) (hl:l.length=3) (a b c:Value):BlkL (((W.setCell ⟨g,0,none⟩ a).setCell ⟨g,1,none⟩ b).setCell ⟨g,2,none⟩ c) g T [a,b,c]:=by
 have h2:=((h.set 0 (by omega) a).set 1 (by simp;omega) b).set 2 (by simp;omega) c
 match l,hl with
 | [x,y,z],_=>exact h2
theorem zC {B:Nat} {w W:World} (h:Below B w W) {g:Nat} (hg:B≤g) (a b c:Value):Below B w (((W.setCell ⟨g,0,none⟩ a).setCell ⟨g,1,none⟩ b).setCell ⟨g,2,none⟩ c) :=
 ((h.trans (ye _ g 0 a hg)).trans (ye _ g 1 b hg)).trans (ye _ g 2 c hg)
theorem ss {W:World} {k:Nat} {o:Obj} (h:W.heap[k]? =some o) {g:Nat} (hg:k≠g) (a b c:Value):(((W.setCell ⟨g,0,none⟩ a).setCell ⟨g,1,none⟩ b).setCell ⟨g,2,none⟩ c).heap[k]? =some o :=
 (Below.heap_setCell _ _ _ k hg).trans ((Below.heap_setCell _ _ _ k hg).trans ((Below.heap_setCell _ _ _ k hg).trans h))
end Go.Proofs.YtbnnlkdhpifpeaaGreatDoor
namespace Hs
open Go
theorem UL (R:Nat) (h:128≤R) (h1:R≤1114111):2≤(Utf8.encode (R:Int)).size∧(Utf8.encode (R:Int)).size≤4∧∀ j (hj:j<(Utf8.encode (R:Int)).size),j+1=(Utf8.encode (R:Int)).size→128≤((Utf8.encode (R:Int))[j]).toNat:=by
 have key:∀ c:Nat,128≤c→c≤1114111→∀ E:ByteArray,E=(if c<0x80 then ⟨#[UInt8.ofNat c]⟩
   else if c<0x800 then ⟨#[UInt8.ofNat (0xC0+c / 64),UInt8.ofNat (0x80+c % 64)]⟩
   else if c<0x10000 then ⟨#[UInt8.ofNat (0xE0+c / 4096),UInt8.ofNat (0x80+c / 64 % 64),UInt8.ofNat (0x80+c % 64)]⟩
   else ⟨#[UInt8.ofNat (0xF0+c / 262144),UInt8.ofNat (0x80+c / 4096 % 64),UInt8.ofNat (0x80+c / 64 % 64),UInt8.ofNat (0x80+c % 64)]⟩) →
   2≤E.size∧E.size≤4∧∀ j (hj:j<E.size),j+1=E.size→128≤E[j].toNat:=by
  intro c hc hc2 E hE;have hl:128≤(UInt8.ofNat (0x80+c % 64)).toNat:=by rw [UInt8.toNat_ofNat'];omega
  rw [if_neg (by omega)] at hE;by_cases h2:c<0x800
  ·rw [if_pos h2] at hE;subst hE;refine ⟨(by show 2≤2;decide),(by show 2≤4;decide),fun j hj e=> ?_⟩;obtain rfl:j=1:=by have:j+1=2:=e;omega
   exact hl
  rw [if_neg h2] at hE;by_cases h3:c<0x10000
  ·rw [if_pos h3] at hE;subst hE;refine ⟨(by show 2≤3;decide),(by show 3≤4;decide),fun j hj e=> ?_⟩;obtain rfl:j=2:=by have:j+1=3:=e;omega
   exact hl
  rw [if_neg h3] at hE;subst hE;refine ⟨(by show 2≤4;decide),(by show 4≤4;decide),fun j hj e=> ?_⟩;obtain rfl:j=3:=by have:j+1=4:=e;omega
  exact hl
 refine key (if Utf8.valid (R:Int)=true then ((R:Int)).toNat else Utf8.runeError) ?_ ?_ _ rfl
 ·split
  ·omega
  decide
 split
 ·omega
 decide
end Hs
namespace Go.Proofs.YtbnnlkdhpifpeaaGreatDoor
open Go.RowKit Hs
theorem PM (pos:Nat) (h:pos<3):(Utf8.decode ⟨#[47,63,35]⟩ pos).2=1∧(Utf8.decode ⟨#[47,63,35]⟩ pos).1<128:=by
 match pos,h with
 | 0,_=>decide
 | 1,_=>decide
 | 2,_=>decide
set_option maxRecDepth 20000
set_option maxHeartbeats 4000000
theorem jl (S:ByteArray) (h3:S.size=3) (hS:∀ b∈un S,b.toNat<128) (R:Nat) (w:World) (h:128≤R) (h1:R≤1114111) (hv:R<55296∨57343<R) (he:R≠65533):Calls Tryz.prog 204 #[.string S,.int .i32 (R:Int)] w fun e w'=>e= .returned (.int .i64 (-1))∧Below w.heap.size w w':=by
 have g1:decide ((R:Int)<128)=false:=KZ8 (by omega);have g2:((R:Int)==65533)=false:=by simp;omega
 have hvr:=Tryz.utf8_ValidRune (R:Int) w;have hvt:Lib.validRune (R:Int)=true:=by unfold Lib.validRune;simp;omega
 rw [hvt] at hvr;obtain ⟨e1,e2,e3⟩:=UL R h h1;obtain ⟨E,hE⟩:∃ E,Utf8.encode (R:Int)=E:=⟨_,rfl⟩;rw [hE] at e1 e2;simp only [hE] at e3;obtain ⟨n,hn⟩:=KZ6 E.size;have hb:128≤(E[n - 1]'(by omega)).toNat:=e3 (n - 1) (by omega) (by omega);have hsI:(S.size:Int)=3:=by omega
 have HVR:=KZ9 hvr;obtain ⟨c,hc⟩:∃ c,c=E[n - 1]'(by omega):=⟨_,rfl⟩;rw [←hc] at hb;clear hvr hvt;rcases (show n=2∨n=3∨n=4 by omega) with rfl | rfl | rfl
 ·have hnI:(E.size:Int)=((2:Nat):Int):=by omega
  have hcast:((2:Nat):Int) - 1=1:=rfl;have hEs:E.size=2:=by omega
  have hx:E[1]'(by rw [hEs];decide)=c:=by rw [hc]
  have hs1:(S[1]'(by omega)).toNat<128:=hS _ (by rw [←zR S 1 (by omega)];exact List.getElem_mem _);have g4:((((S[1]'(by omega)).toNat:Nat):Int) != (c.toNat:Int))=true:=by simp;omega
  obtain ⟨T,hT⟩:∃ T,S.extract 2 3=T:=⟨_,rfl⟩;have hib:=fun W=>wg T c W;rw [uZ c (un T) (fun b hb e=>by
   rw [←hT,xj] at hb;have:=hS b (List.mem_of_mem_drop (List.mem_of_mem_take hb));rw [e] at this;omega)] at hib
  have HIB:=KZ9 hib;clear hib hc hb hs1 e3 hn;go_enter Tryz.func204,Tryz.ntmps204
  go_wp2_with fail
  all_goals try omega
  refine HVR.out.mono ?_;rintro e w1 ⟨rfl,rfl⟩;go_wp2
  all_goals try omega
  go_step3;go_wp2
  all_goals try omega
  go_loopw [9,10] (fun iv fv wr=>iv= .int .i64 1∧fv= .int .i64 0∧Below w1.heap.size w1 wr) (fun _ _ _=>1)
  case atStart=>exact ⟨by first | rfl | simp,rfl,Below.refl _ _⟩
  case round =>
   obtain ⟨rfl,rfl,hbw⟩:=hrel;go_wp2_with fail
   all_goals try omega
   go_step3;go_wp2;go_quiet (fail)
   have hbq:=below_drewN hbw nq;obtain ⟨wq,hwq⟩:=KZ6 (wr.drewN nq);rw [←hwq] at hbq ⊢;clear hbw hwq;go_wp2
   all_goals try omega
   refine wp_region_quiet_lit (by kernel_rfl) (by kernel_rfl) ?_;repeat (go_big_quiet_step (fail))
   go_big_quiet_want
   go_big_quiet_op
   apply Exists.intro;refine ⟨fun _=> ?_,?_⟩
   ·exact Calls.quiet_of_same ((HIB.out _).mono (fun _ _ h=>⟨h.1,h.2.symm⟩))
   go_big_quiet_on
   repeat (go_big_quiet_step (fail))
   refine wpQuiet_nil ?_;intro _ hw';obtain ⟨nq2,hw''⟩:=hw';subst hw'';go_wp2
   all_goals try omega
   simp +zetaDelta only [Exit.noGoto,Exit.then,Exit.inBlock];go_ret;exact ⟨rfl,below_drewN hbq _⟩
 ·have hnI:(E.size:Int)=((3:Nat):Int):=by omega
  have hcast:((3:Nat):Int) - 1=2:=rfl;have hEs:E.size=3:=by omega
  have hx:E[2]'(by rw [hEs];decide)=c:=by rw [hc]
  have hs1:(S[2]'(by omega)).toNat<128:=hS _ (by rw [←zR S 2 (by omega)];exact List.getElem_mem _);have g4:((((S[2]'(by omega)).toNat:Nat):Int) != (c.toNat:Int))=true:=by simp;omega
  have hib:=fun W=>wg ByteArray.empty c W;rw [show Lib.indexByte (un ByteArray.empty) c= -1 from rfl] at hib;have HIB:=KZ9 hib;clear hib hc hb hs1 e3 hn;go_enter Tryz.func204,Tryz.ntmps204
  go_wp2_with fail
  all_goals try omega
  refine HVR.out.mono ?_;rintro e w1 ⟨rfl,rfl⟩;go_wp2
  all_goals try omega
  go_step3;go_wp2
  all_goals try omega
  go_loopw [9,10] (fun iv fv wr=>iv= .int .i64 2∧fv= .int .i64 0∧Below w1.heap.size w1 wr) (fun _ _ _=>1)
  case atStart=>exact ⟨by first | rfl | simp,rfl,Below.refl _ _⟩
  case round =>
   obtain ⟨rfl,rfl,hbw⟩:=hrel;go_wp2_with fail
   all_goals try omega
   go_step3;go_wp2;go_quiet (fail)
   have hbq:=below_drewN hbw nq;obtain ⟨wq,hwq⟩:=KZ6 (wr.drewN nq);rw [←hwq] at hbq ⊢;clear hbw hwq;go_wp2
   all_goals try omega
   refine wp_region_quiet_lit (by kernel_rfl) (by kernel_rfl) ?_;repeat (go_big_quiet_step (fail))
   go_big_quiet_want
   go_big_quiet_op
   apply Exists.intro;refine ⟨fun _=> ?_,?_⟩
   ·exact Calls.quiet_of_same ((HIB.out _).mono (fun _ _ h=>⟨h.1,h.2.symm⟩))
   go_big_quiet_on
   repeat (go_big_quiet_step (fail))
   refine wpQuiet_nil ?_;intro _ hw';obtain ⟨nq2,hw''⟩:=hw';subst hw'';go_wp2
   all_goals try omega
   simp +zetaDelta only [Exit.noGoto,Exit.then,Exit.inBlock];go_ret;exact ⟨rfl,below_drewN hbq _⟩
 have hnI:(E.size:Int)=((4:Nat):Int):=by omega
 have hcast:((4:Nat):Int) - 1=3:=rfl;clear hc hb e3 hn;go_enter Tryz.func204,Tryz.ntmps204
 go_wp2_with fail
 all_goals try omega
 refine HVR.out.mono ?_;rintro e w1 ⟨rfl,rfl⟩;go_wp2
 all_goals try omega
 go_step3;go_wp2
 all_goals try omega
 go_loopw [9,10] (fun iv fv wr=>iv= .int .i64 3∧fv= .int .i64 0∧Below w1.heap.size w1 wr) (fun _ _ _=>1)
 case atStart=>exact ⟨by first | rfl | simp,rfl,Below.refl _ _⟩
 case round =>
  obtain ⟨rfl,rfl,hbw⟩:=hrel;go_wp2_with fail
  all_goals try omega
  (try rw [Exit.noGoto_ret])
  go_ret;exact ⟨rfl,hbw⟩
theorem Z3 (R:Nat) (w:World) (h:128≤R) (h1:R≤1114111) (hv:R<55296∨57343<R):Calls Tryz.prog 204 #[.string ⟨#[47,63,35]⟩,.int .i32 (R:Int)] w fun e w'=>e= .returned (.int .i64 (-1))∧Below w.heap.size w w':=by
 have g1:decide ((R:Int)<128)=false:=KZ8 (by omega);by_cases he:R=65533
 ·have g2:((R:Int)==65533)=true:=by simp;omega
  go_enter Tryz.func204,Tryz.ntmps204
  go_wp2
  all_goals try omega
  go_loopg [] 3 (fun f wr=>∃ pos:Nat,wr.heap[w.heap.size]? =some (.stringIter ⟨#[47,63,35]⟩ pos)∧Below w.heap.size w wr∧3≤pos+f∧pos≤3)
  case atStart=>exact ⟨0,World.iter_heap w _ 0,(Below.refl _ w).alloc (Nat.le_refl _) _,by omega,by omega⟩
  case round =>
   obtain ⟨pos,hit,hbw,hf,hp3⟩:=hrel;by_cases hp:pos<3
   ·obtain ⟨g',rfl⟩:∃ g',gk=g'+1:=⟨gk - 1,by omega⟩;have hnx:∀ ty,(Instr.next (.pointer (some ⟨w.heap.size,0,none⟩)) true ty).run Tryz.prog wr=_:=fun ty=>Lib.run_next_any_at wr w.heap.size _ pos ty hit (show pos<3 from hp);obtain ⟨d1,d2⟩:=PM pos hp;obtain ⟨r,hr⟩:∃ r,(Utf8.decode ⟨#[47,63,35]⟩ pos).1=r:=⟨_,rfl⟩;rw [d1,hr] at hnx;rw [hr] at d2;have g3:((r:Int)==65533)=false:=by simp;omega
    have hit2:=Lib.iterAt_heap wr w.heap.size _ pos (pos+1) hit;have hbw2:=Lib.below_iterAt hbw (k:=w.heap.size) (Nat.le_refl _) ⟨#[47,63,35]⟩ (pos+1);obtain ⟨W,hWd⟩:∃ W,wr.iterAt w.heap.size ⟨#[47,63,35]⟩ (pos+1)=W:=⟨_,rfl⟩;rw [hWd] at hnx hit2 hbw2;clear hWd hit hbw hr d1;go_wp2
    all_goals try omega
    go_roundg g'
    case measure=>omega
    case rel=>exact ⟨pos+1,hit2,hbw2,by omega,by omega⟩
   have hnx:∀ ty,(Instr.next (.pointer (some ⟨w.heap.size,0,none⟩)) true ty).run Tryz.prog wr=_:=fun ty=>Lib.run_next_end_at wr w.heap.size _ pos ty hit (show ¬ pos<3 from hp);go_wp2
   all_goals try omega
   go_ret;exact ⟨rfl,hbw⟩
 exact jl ⟨#[47,63,35]⟩ rfl (by decide) R w h h1 hv he
end Go.Proofs.YtbnnlkdhpifpeaaGreatDoor
namespace Hs
open Go
def set3:Bs:=[47,63,35]
theorem UO (n b0 b1 b2 b3:Nat) (h:128≤b0) (h0:b0<256):128≤(Lib.decodeN n b0 b1 b2 b3).1∧((Lib.decodeN n b0 b1 b2 b3).1<55296∨57343<(Lib.decodeN n b0 b1 b2 b3).1)∧(1<(Lib.decodeN n b0 b1 b2 b3).2→128≤b1)∧(2<(Lib.decodeN n b0 b1 b2 b3).2→128≤b2)∧(3<(Lib.decodeN n b0 b1 b2 b3).2→128≤b3)∧(Lib.decodeN n b0 b1 b2 b3).2≤4:=by
 unfold Lib.decodeN;rw [if_neg (by omega)]
 repeat' split
 all_goals (refine ⟨?_,?_,?_,?_,?_,?_⟩<;>simp only<;>omega)
theorem SG {b:UInt8} {r:Bs} (h:128≤b.toNat):128≤(Lib.decodeL (b::r)).1∧((Lib.decodeL (b::r)).1<55296∨57343<(Lib.decodeL (b::r)).1)∧∀ x∈(b::r).take (Lib.decodeL (b::r)).2,128≤x.toNat:=by
 rw [Lib.decodeL_N];obtain ⟨h1,h2,h3,h4,h5,h6⟩:=UO (b::r).length ((b::r).getD 0 0).toNat ((b::r).getD 1 0).toNat ((b::r).getD 2 0).toNat ((b::r).getD 3 0).toNat h b.toNat_lt;refine ⟨h1,h2,?_⟩;generalize (Lib.decodeN (b::r).length ((b::r).getD 0 0).toNat ((b::r).getD 1 0).toNat ((b::r).getD 2 0).toNat ((b::r).getD 3 0).toNat).2=K at *;intro x hx;obtain ⟨j,hj,rfl⟩:=List.getElem_of_mem hx;rw [List.length_take] at hj;rw [List.getElem_take];have hg:∀ k (hk:k<(b::r).length),(b::r).getD k 0=(b::r)[k]:=fun k hk=>by simp [List.getD,List.getElem?_eq_getElem hk]
 match j,hj with
 | 0,_=>exact h
 | 1,hj=>rw [hg 1 (by omega)] at h3;exact h3 (by omega)
 | 2,hj=>rw [hg 2 (by omega)] at h4;exact h4 (by omega)
 | 3,hj=>rw [hg 3 (by omega)] at h5;exact h5 (by omega)
 | j+4,hj=>omega
def KZ0 (pos:Nat) (i:Int):Int:=if i= -1 then -1 else i+pos
theorem sD:∀ (K:Nat) (l:Bs),(∀ x∈l.take K,set3.contains x=false)→K≤l.length→Lib.indexAny l set3=KZ0 K (Lib.indexAny (l.drop K) set3)
 | 0,l,_,_=>by
  rw [List.drop_zero];unfold KZ0;split
  ·assumption
  omega
 | K+1,[],_,h=>by simp at h
 | K+1,b::r,h,hl=>by
  have hb:set3.contains b=false:=h b (by simp);have ih:=sD K r (fun x hx=>h x (by rw [List.take_succ_cons];exact List.mem_cons_of_mem _ hx)) (by simpa using hl);have hge:=Lib.indexAny_ge set3 r;have hge2:=Lib.indexAny_ge set3 (r.drop K);have hc:Lib.indexAny (b::r) set3=if Lib.indexAny r set3= -1 then -1 else Lib.indexAny r set3+1:=by
   rw [Lib.indexAny,if_neg (by rw [hb];simp)];by_cases he:Lib.indexAny r set3= -1<;>simp [he]
  rw [hc,ih,List.drop_succ_cons];unfold KZ0
  repeat' split
  all_goals omega
theorem So {x:UInt8} (h:128≤x.toNat):set3.contains x=false:=by
 unfold set3;have h1:x≠47:=by rintro rfl;revert h;decide
 have h2:x≠63:=by rintro rfl;revert h;decide
 have h3:x≠35:=by rintro rfl;revert h;decide
 simp [h1,h2,h3]
theorem PI (b:UInt8):decide (0≤Lib.indexByte [47,63,35] b)=set3.contains b:=by
 by_cases h1:b=47
 ·subst h1;decide
 by_cases h2:b=63
 ·subst h2;decide
 by_cases h3:b=35
 ·subst h3;decide
 have e1:Lib.indexByte [47,63,35] b= -1:=uZ b _ (by
  intro x hx;simp only [List.mem_cons,List.not_mem_nil,or_false] at hx;rcases hx with rfl | rfl | rfl
  ·exact fun e=>h1 e.symm
  ·exact fun e=>h2 e.symm
  exact fun e=>h3 e.symm)
 rw [e1];unfold set3;simp [h1,h2,h3]
theorem jb (a b:Nat) (i:Int) (h: -1≤i):KZ0 a (KZ0 b i)=KZ0 (a+b) i:=by
 unfold KZ0
 repeat' split
 all_goals omega
end Hs
namespace Go.Proofs.YtbnnlkdhpifpeaaGreatDoor
open Go.RowKit Hs
set_option maxRecDepth 20000
set_option maxHeartbeats 4000000
theorem rY (s:ByteArray) (w:World) (hs:s.size≤8):Calls Tryz.prog 139 #[.string s,.string ⟨#[47,63,35]⟩] w fun e w'=>e= .returned (.int .i64 (Lib.indexAny (un s) set3))∧Below w.heap.size w w':=by
 have hlen:(un s).length=s.size:=za s;obtain ⟨l,hl⟩:=KZ6 (un s);rw [←hl] at hlen ⊢;obtain ⟨X,hX⟩:=KZ6 (Lib.indexAny l set3);have HX:Hid (X=KZ0 0 (Lib.indexAny (l.drop 0) set3)):=KZ9 (by
  rw [hX,List.drop_zero];unfold KZ0;split
  ·assumption
  omega)
 rw [←hX];have HL:=KZ9 hl;have HLEN:=KZ9 hlen;have hau:=Tryz.strings_shouldUseASCIISet (s.size:Int) w;have g8:decide ((8:Int)<(s.size:Int))=false:=KZ8 (by omega);have HAU:=KZ9 hau;have HIR:=KZ9 (fun (R:Nat) (W:World)=>Z3 R W);have HIA:=KZ9 (fun (r:Int) (W:World)=>Tryz.strings_IndexRune_ascii ⟨#[47,63,35]⟩ r W);clear hX hau hl hlen;go_enter Tryz.func139,Tryz.ntmps139
 go_wp2_with fail
 all_goals try omega
 refine HAU.out.mono ?_;rintro e w1 ⟨rfl,rfl⟩;go_wp2
 all_goals try omega
 go_loopg [] s.size (fun f wr=>∃ pos:Nat,wr.heap[w1.heap.size]? =some (.stringIter s pos)∧Below w1.heap.size w1 wr∧Hid (X=KZ0 pos (Lib.indexAny (l.drop pos) set3))∧s.size≤pos+f∧pos≤s.size)
 case atStart=>exact ⟨0,World.iter_heap w1 _ 0,(Below.refl _ w1).alloc (Nat.le_refl _) _,HX,by omega,by omega⟩
 case round =>
  obtain ⟨pos,hit,hbw,hst,hf,hp3⟩:=hrel;by_cases hp:pos<s.size
  ·obtain ⟨g',rfl⟩:∃ g',gk=g'+1:=⟨gk - 1,by omega⟩;have hnx:∀ ty,(Instr.next (.pointer (some ⟨w1.heap.size,0,none⟩)) true ty).run Tryz.prog wr=_:=fun ty=>Lib.run_next_any_at wr w1.heap.size s pos ty hit hp;have hdl:Lib.decodeL (l.drop pos)=Utf8.decode s pos:=by rw [HL.out];exact Lib.decodeL_drop s pos
   have hpl:pos<l.length:=by rw [HLEN.out];exact hp
   have hdc:l.drop pos=l[pos]::l.drop (pos+1):=List.drop_eq_getElem_cons hpl;obtain ⟨b,hb⟩:=KZ6 (l[pos]);rw [←hb] at hdc;clear hb;by_cases hba:b.toNat<128
   ·have hd1:Utf8.decode s pos=(b.toNat,1):=by rw [←hdl,hdc,Lib.decodeL_ascii _ _ hba]
    rw [hd1] at hnx;simp only [] at hnx;have hir:=HIA.out (b.toNat:Int) (wr.iterAt w1.heap.size s (pos+1)) (by omega) (by omega);have hbb:((b.toNat:Int)).toNat.toUInt8=b:=by simp
    rw [hbb] at hir;have hz:=PI b;have hir:Calls Tryz.prog 204 #[.string ⟨#[47,63,35]⟩,.int .i32 (b.toNat:Int)] (wr.iterAt w1.heap.size s (pos+1)) fun e w'=>e= .returned (.int .i64 (Lib.indexByte [47,63,35] b))∧w'=wr.iterAt w1.heap.size s (pos+1):=hir;obtain ⟨z,hzz⟩:=KZ6 (Lib.indexByte [47,63,35] b);rw [←hzz] at hir hz;have hit2:=Lib.iterAt_heap wr w1.heap.size s pos (pos+1) hit;have hbw2:=Lib.below_iterAt hbw (k:=w1.heap.size) (Nat.le_refl _) s (pos+1);obtain ⟨W,hWd⟩:∃ W,wr.iterAt w1.heap.size s (pos+1)=W:=⟨_,rfl⟩;rw [hWd] at hnx hit2 hbw2 hir;have HIRR:=KZ9 hir;by_cases hct:set3.contains b=true
    ·rw [hct] at hz;have hfin:X=(pos:Int):=by
      rw [hst.out,hdc,Lib.indexAny,if_pos hct];unfold KZ0;rw [if_neg (by decide)];omega
     have HF:=KZ9 hfin;clear hWd hit hbw hdl hdc hd1 hir hzz hst hfin hbb;go_wp2_with fail
     all_goals try omega
     refine HIRR.out.mono ?_;rintro e w2 ⟨rfl,rfl⟩;go_wp2
     all_goals try omega
     go_ret;exact ⟨by rw [HF.out];rfl,hbw2⟩
    have hct2:set3.contains b=false:=by simpa using hct
    rw [hct2] at hz;have hst2:Hid (X=KZ0 (pos+1) (Lib.indexAny (l.drop (pos+1)) set3)):=KZ9 (by
     rw [hst.out,sD 1 (l.drop pos) (by rw [hdc];intro x hx;simp at hx;rw [hx];exact hct2) (by rw [hdc];simp),List.drop_drop,jb _ _ _ (Lib.indexAny_ge _ _)])
    clear hWd hit hbw hdl hdc hd1 hir hzz hst hbb;go_wp2_with fail
    all_goals try omega
    refine HIRR.out.mono ?_;rintro e w2 ⟨rfl,rfl⟩;go_wp2
    all_goals try omega
    go_roundg g'
    case measure=>omega
    case rel=>exact ⟨pos+1,hit2,hbw2,hst2,by omega,by omega⟩
   have hdh:=SG (b:=b) (r:=l.drop (pos+1)) (by omega);rw [←hdc] at hdh;have hK:=Lib.decodeL_le (l.drop pos) (by rw [hdc];simp);have hK1:=Lib.decodeL_width (l.drop pos);have hR1:=Lib.decodeL_rune (l.drop pos);rw [List.length_drop,HLEN.out] at hK;have hst2:Hid (X=KZ0 (pos+(Lib.decodeL (l.drop pos)).2) (Lib.indexAny (l.drop (pos+(Lib.decodeL (l.drop pos)).2)) set3)):=KZ9 (by
    rw [hst.out,sD (Lib.decodeL (l.drop pos)).2 (l.drop pos) (fun x hx=>So (hdh.2.2 x hx)) (by rw [List.length_drop,HLEN.out];exact hK),List.drop_drop,jb _ _ _ (Lib.indexAny_ge _ _)])
   obtain ⟨h128,hsc,_⟩:=hdh;rw [hdl] at hK hK1 hR1 h128 hsc hst2;obtain ⟨R,hR⟩:∃ R,(Utf8.decode s pos).1=R:=⟨_,rfl⟩;obtain ⟨K,hKK⟩:∃ K,(Utf8.decode s pos).2=K:=⟨_,rfl⟩;rw [hR,hKK] at hnx;rw [hR] at hR1 h128 hsc;rw [hKK] at hK hK1 hst2;have hir:=HIR.out R (wr.iterAt w1.heap.size s (pos+K)) h128 hR1 hsc;have hit2:=Lib.iterAt_heap wr w1.heap.size s pos (pos+K) hit;have hbw2:=Lib.below_iterAt hbw (k:=w1.heap.size) (Nat.le_refl _) s (pos+K);obtain ⟨W,hWd⟩:∃ W,wr.iterAt w1.heap.size s (pos+K)=W:=⟨_,rfl⟩;rw [hWd] at hnx hit2 hbw2 hir;have hltW:w1.heap.size<W.heap.size:=(Array.getElem?_eq_some_iff.1 hit2).1;have HIRR:=KZ9 hir;clear hWd hit hbw hdl hdc hir hst hR hKK;go_wp2_with fail
   all_goals try omega
   refine HIRR.out.mono ?_;rintro e w2 ⟨rfl,hb2⟩;go_wp2
   all_goals try omega
   go_roundg g'
   case measure=>omega
   case rel=>exact ⟨pos+K,(hb2.block _ hltW).trans hit2,hbw2.trans (hb2.mono (by omega)),hst2,by omega,by omega⟩
  have hnx:∀ ty,(Instr.next (.pointer (some ⟨w1.heap.size,0,none⟩)) true ty).run Tryz.prog wr=_:=fun ty=>Lib.run_next_end_at wr w1.heap.size s pos ty hit hp;have hfin:X= -1:=by
   rw [hst.out,List.drop_of_length_le (by rw [HLEN.out];omega)];rfl
  have HF:=KZ9 hfin;clear hst hfin;go_wp2
  all_goals try omega
  go_ret;exact ⟨by rw [HF.out];rfl,hbw⟩
theorem gy (s:ByteArray) (w:World) (hs:s.size≤100000000):Calls Tryz.prog 139 #[.string s,.string ⟨#[47,63,35]⟩] w fun e w'=>e= .returned (.int .i64 (Lib.indexAny (un s) [47,63,35]))∧Below w.heap.size w w':=by
 by_cases h8:s.size≤8
 ·exact rY s w h8
 have hz0:(Tryz.prog.info? 292).map (fun i=>(i.zero,i.size))=some (some (.agg (Array.replicate 256 (.bool false))),256):=by kernel_rfl
 have hz:=(zero_of_info hz0).1;refine (Tryz.strings_IndexAny_long hz s ⟨#[47,63,35]⟩ w (by decide) (by omega) (by omega) (by decide) (fun j b hb=> ?_)).mono ?_
 ·have:=List.mem_of_getElem? hb;simp at this;rcases this with rfl | rfl | rfl<;>decide
 rintro e w' ⟨rfl,rfl⟩;exact ⟨rfl,((Below.refl _ w).alloc (Nat.le_refl _) _).alloc (by simp) _⟩
end Go.Proofs.YtbnnlkdhpifpeaaGreatDoor
namespace Hs
open Go
theorem X8 (c:UInt8) (l:Bs):(pF c l=(l,[],false)∧Lib.indexByte l c<0)∨(∃ k:Nat,Lib.indexByte l c=k∧k<l.length∧pF c l=(l.take k,l.drop (k+1),true)):=by
 unfold pF;by_cases h:Lib.indexByte l c<0
 ·left;rw [if_pos h];exact ⟨rfl,h⟩
 right;have:=vN c l;refine ⟨(Lib.indexByte l c).toNat,by omega,by omega,?_⟩;rw [if_neg h]
theorem XA {l:Bs} (h:l.any um=true):xr l=none:=if_pos h
theorem Uk {l:Bs} (h:l.any um=false) (hi:Lib.indexByte l 58<0):xr l=none:=by
 unfold xr;rw [if_neg (by rw [h];simp),if_pos hi]
theorem Xz {l:Bs} {k:Nat} (h:l.any um=false) (hi:Lib.indexByte l 58=k):xr l=if vI (l.take k)=true then wI (zt (l.take k)) (l.drop (k+1)) else none:=by
 unfold xr;rw [if_neg (by rw [h];simp),hi,if_neg (by omega)];simp
theorem authL_le (r:Bs):rC r≤r.length:=by
 unfold rC;split
 ·exact Nat.le_refl _
 have:=indexAny_lt [47,63,35] r;omega
where indexAny_lt (cs:Bs):∀ l:Bs,Lib.indexAny l cs<l.length
 | []=>by simp [Lib.indexAny]
 | b::r=>by
  have ih:=indexAny_lt cs r;rw [Lib.indexAny];split
  ·simp
  split<;>simp<;>omega
theorem Xa {s rest:Bs} (h:zS s<0):wI s rest=some ⟨s,[],zD,-1,rest⟩:=if_pos h
theorem Zk {s rest:Bs} (h:¬ zS s<0) (h2:rest.take 2≠[47,47]):wI s rest=none:=by
 unfold wI;rw [if_neg h,if_neg h2]
theorem Y9 {s rest:Bs} (h:¬ zS s<0) (h2:rest.take 2=[47,47]):wI s rest=xA ⟨s,[],zD,-1,Zl ((rest.drop 2).drop (rC (rest.drop 2)))⟩ ((rest.drop 2).take (rC (rest.drop 2))):=by
 unfold wI;rw [if_neg h,if_pos h2]
theorem S7 (l:Bs) (k:Nat) (h:k<l.length):(l.drop k).any um=(um l[k]||(l.drop (k+1)).any um):=by rw [List.drop_eq_getElem_cons h,List.any_cons]
end Hs
namespace Go.Proofs.YtbnnlkdhpifpeaaGreatDoor
open Go.RowKit Hs
theorem kq {u v:UrlP} {a:Bs} (h:xA u a=some v):rG v.host:=by
 unfold xA at h;split at h
 ·cases h
 unfold tw at h;split at h
 ·cases h
 split at h
 ·cases h
 rename_i hv;split at h
 ·cases h
 cases h;exact Vb hv
set_option maxRecDepth 20000
set_option maxHeartbeats 8000000
theorem Wx (s:ByteArray) (w:World) (hB:Base w) (hs:s.size≤100000) (hT:okT (un s)):Calls Tryz.prog 75 #[.string s] w (Wo (xr (un s)) w.heap.size w):=by
 have hlen:(un s).length=s.size:=za s;obtain ⟨W0,hW0⟩:=KZ6 (w.alloc (.cells (zb zJ).toArray 100));have hbA:Below w.heap.size w W0:=by rw [hW0];exact (Below.refl _ w).alloc (Nat.le_refl _) _
 have hr0:BlkL W0 w.heap.size 100 (zb zJ):=by rw [hW0];exact BlkL.new w _ _
 have HW0:Hid (w.alloc (.cells #[.string ⟨#[]⟩,.string ⟨#[]⟩,.int .i64 0,.string ⟨#[]⟩,.int .u32 0,.int .u16 0,.int .u16 0,.int .u16 0,.int .u16 0,.int .u16 0,.int .u16 0,.int .u16 0,.int .u16 0,.int .i64 0,.string ⟨#[]⟩] 100)=W0):=KZ9 hW0.symm;have hsz:W0.heap.size=w.heap.size+1:=by rw [hW0];simp
 have HBB:=KZ9 hB;have HBA:=KZ9 hbA;have HR0:=KZ9 hr0;have HT:=KZ9 hT;have HCUT:=KZ9 (Z4 s 58 W0 (hB.below hbA) (by omega));obtain ⟨l,hl⟩:=KZ6 (un s);rw [←hl] at hlen HCUT HT ⊢;have HL:=KZ9 hl;have HLEN:=KZ9 hlen;obtain ⟨n,hn⟩:=KZ6 s.size;have hsI:(s.size:Int)=(n:Int):=by rw [hn]
 have HN:=KZ9 hn;rw [←hn] at hs;clear hW0 hbA hr0 hB hl hlen hT hn;go_enter Tryz.func75,Tryz.ntmps75
 go_upto_region 1 with fail
 rw [HW0.out];clear HW0;go_wp2;go_loop [13] (fun iv=>∃ k:Nat,iv= .int .i64 k∧k≤n∧Hid (l.any um=(l.drop k).any um)) (fun iv=>n - (intOf iv).toNat)
 case atStart=>exact ⟨0,rfl,by omega,KZ9 (by rw [List.drop_zero])⟩
 case round =>
  obtain ⟨k,rfl,hk,hany⟩:=hrel;by_cases hlt:k<n
  ·have hks:k<s.size:=by rw [←HN.out];exact hlt
   have hkl:k<l.length:=by rw [HLEN.out];exact hks
   have hx:l[k]=s[k]:=by
    have:=HL.out;subst this;exact zR s k hks
   have hst:=S7 l k hkl;rw [hx] at hst;have hdb:um s[k]=decide ((s[k]).toNat≤32∨(s[k]).toNat=127):=rfl;rw [hdb] at hst;have hb256:=(s[k]).toNat_lt;obtain ⟨x,hx2⟩:=KZ6 ((s[k]).toNat);have cs:(s[k].toNat:Int)=(x:Int):=by rw [hx2]
   rw [←hx2] at hst hb256;have HST:=KZ9 (hany.out.trans hst);clear hst hany hx hx2 hdb hkl;by_cases hbad:x≤32∨x=127
   ·have hfin:=KZ9 (XA (HST.out.trans (by rw [KZ7 hbad];rfl)));clear HST HCUT;rcases hbad with h | rfl
    all_goals
     go_wp2_with (first
      | refine wpList_store_row rfl 100 (.tmp 2) (.tmp 26) rfl w.heap.size (zb zJ).toArray rfl rfl 100 _ HR0.out yp rfl (zh (yZ zJ)) ?_)
     all_goals try omega
     all_goals
      refine bodyPost_ret (zf rfl _ _ w.heap.size 100 _ _ rfl (HR0.out.setRow (zb zJ)) Tryz.underlying100 rfl yp) rfl ?_;exact ⟨⟨zJ,4,rfl,.inr ⟨by decide,rfl,hfin.out⟩⟩,below_setRow HBA.out (Nat.le_refl _) _⟩
   have hnext:Hid (l.any um=(l.drop (k+1)).any um):=KZ9 (HST.out.trans (by rw [KZ8 hbad];rfl));have g1:((x:Int)==127)=false:=by simp;omega
   clear HST HCUT;go_wp2
   all_goals try omega
   go_round
   case rel=>exact ⟨k+1,by go_num,by omega,hnext⟩
   case measure=>simp [intOf];omega
  have hgood:l.any um=false:=by rw [hany.out,List.drop_of_length_le (by rw [HLEN.out,←HN.out];omega)];rfl
  clear hany;rcases X8 58 l with ⟨hc,hi⟩ | ⟨j,hi,hj,hc⟩
  ·have hfin:=KZ9 (Uk hgood hi);have hcut:=HCUT.out;rw [hc] at hcut;have HC:=KZ9 hcut;clear hcut hc hi hgood HCUT;go_wp2_with fail
   all_goals try omega
   refine HC.out.mono ?_;rintro e w1 ⟨rfl,hb1⟩;have HR1:=KZ9 (HR0.out.below (by omega) hb1);have HA1:=KZ9 (HBA.out.trans (hb1.mono (by omega)));clear hb1 HC;go_wp2_with (first
    | refine wpList_store_row rfl 100 (.tmp 2) (.tmp 41) rfl w.heap.size (zb zJ).toArray rfl rfl 100 _ HR1.out yp rfl (zh (yZ zJ)) ?_)
   all_goals try omega
   refine bodyPost_ret (zf rfl _ _ w.heap.size 100 _ _ rfl (HR1.out.setRow (zb zJ)) Tryz.underlying100 rfl yp) rfl ?_;exact ⟨⟨zJ,15,rfl,.inr ⟨by decide,rfl,hfin.out⟩⟩,below_setRow HA1.out (Nat.le_refl _) _⟩
  have hdef:=Xz hgood hi;have hcut:=HCUT.out;rw [hc] at hcut;have hn1:(l.take j).length≤n:=by rw [List.length_take,HLEN.out,←HN.out];omega
  have hn2:(l.drop (j+1)).length≤n:=by rw [List.length_drop,HLEN.out,←HN.out];omega
  have hT2:okT (l.drop (j+1)):=ZJ HT.out _;obtain ⟨nm,hnm⟩:=KZ6 (l.take j);obtain ⟨rs,hrs⟩:=KZ6 (l.drop (j+1));rw [←hnm,←hrs] at hdef hcut;rw [←hnm] at hn1;rw [←hrs] at hn2 hT2;have hsch:=fun W=>Tl (mk nm) W (by rw [zi];omega);simp only [zk] at hsch;obtain ⟨sc,hsc⟩:=KZ6 (vI nm);rw [←hsc] at hdef;simp only [←hsc] at hsch;have HSC:=KZ9 hsch;have HC:=KZ9 hcut;have HDEF:=KZ9 hdef;have HT2:=KZ9 hT2;clear hcut hc hi hgood HCUT hdef hnm hrs hsch hsc hT2 HT HL HLEN hj;go_wp2_with fail
  all_goals try omega
  refine HC.out.mono ?_;rintro e w1 ⟨rfl,hb1⟩;have hs1:=hb1.size;have HR1:=KZ9 (HR0.out.below (by omega) hb1);have HA1:=KZ9 (HBA.out.trans (hb1.mono (by omega)));clear hb1 HC HR0 HBA;go_wp2_with fail
  all_goals try omega
  refine (HSC.out _).mono ?_;rintro e w2 ⟨rfl,rfl⟩;cases sc
  ·have hfin:=KZ9 (HDEF.out.trans (if_neg (by simp)));clear HDEF HSC;go_wp2_with (first
    | refine wpList_store_row rfl 100 (.tmp 2) (.tmp 41) rfl w.heap.size (zb zJ).toArray rfl rfl 100 _ HR1.out yp rfl (zh (yZ zJ)) ?_)
   all_goals try omega
   refine bodyPost_ret (zf rfl _ _ w.heap.size 100 _ _ rfl (HR1.out.setRow (zb zJ)) Tryz.underlying100 rfl yp) rfl ?_;exact ⟨⟨zJ,15,rfl,.inr ⟨by decide,rfl,hfin.out⟩⟩,below_setRow HA1.out (Nat.le_refl _) _⟩
  have hd2:=HDEF.out.trans (if_pos rfl);have hlow:=yw (mk nm) w1 (by rw [zi];omega);rw [zk] at hlow;obtain ⟨sch,hsch⟩:=KZ6 (zt nm);rw [←hsch] at hlow hd2;have HLOW:=KZ9 hlow;have HD2:=KZ9 hd2;clear hlow hd2 hsch HDEF HSC;go_wp2_with fail
  all_goals try omega
  refine HLOW.out.mono ?_;rintro e w3 ⟨rfl,hb3⟩;have hs3:=hb3.size;have HN3:=KZ9 (heap_alloc_new w3 (.cells (zb zJ).toArray 100));have hne:w.heap.size≠w3.heap.size:=by omega
  have hR4:=((HR1.out.below (by omega) hb3).alloc (.cells (zb zJ).toArray 100)).setRow_other hne (zb ⟨sch,[],zD,-1,rs⟩).toArray;have hY4:=(BlkL.new w3 100 (zb zJ)).setRow (zb ⟨sch,[],zD,-1,rs⟩);have hA4:=below_setRow ((HA1.out.trans (hb3.mono (by omega))).alloc (by omega) (.cells (zb zJ).toArray 100)) (show w.heap.size≤w3.heap.size by omega) (zb ⟨sch,[],zD,-1,rs⟩).toArray;obtain ⟨W4,hW4⟩:=KZ6 ((w3.alloc (.cells (zb zJ).toArray 100)).setRow w3.heap.size (zb ⟨sch,[],zD,-1,rs⟩).toArray);rw [←hW4] at hR4 hY4 hA4;have hs4:W4.heap.size=w3.heap.size+1:=by rw [hW4];simp [World.setRow]
  have HW4:Hid ((w3.alloc (.cells #[.string ⟨#[]⟩,.string ⟨#[]⟩,.int .i64 0,.string ⟨#[]⟩,.int .u32 0,.int .u16 0,.int .u16 0,.int .u16 0,.int .u16 0,.int .u16 0,.int .u16 0,.int .u16 0,.int .u16 0,.int .i64 0,.string ⟨#[]⟩] 100)).setRow w3.heap.size (zb ⟨sch,[],zD,-1,rs⟩).toArray=W4):=KZ9 hW4.symm;have HR4:=KZ9 hR4;have HY4:=KZ9 hY4;have HA4:=KZ9 hA4;have B4:=KZ9 (HBB.out.below hA4);have hyw:w.heap.size<w3.heap.size:=by omega
  clear hb3 HLOW HR1 HA1 hR4 hY4 hA4 hW4;go_upto_region 11 with (first
   | refine wpList_store_row rfl 100 (.tmp 8) (.tmp 45) rfl w3.heap.size (zb ⟨sch,[],zD,-1,rs⟩).toArray rfl rfl 100 _ HN3.out yp rfl (zh (yZ _)) ?_)
  all_goals try omega
  rw [HW4.out];clear HW4 HN3;have c4:=HY4.out.c 0 _ rfl;have hsp:=fun W=>sS (mk sch) W;simp only [zk] at hsp;have hpc:=uu sch;by_cases hp:zS sch<0
  ·have hfin:=KZ9 (HD2.out.trans (Xa hp));have hdec:decide (0<zS sch)=false:=KZ8 (by omega);simp only [hdec] at hsp;have HSP:=KZ9 hsp;have HIU:=KZ9 (yg (u:=⟨sch,[],zD,-1,rs⟩) rfl);clear hsp hdec hpc hp;go_wp2_with fail
   all_goals try omega
   refine (HSP.out _).mono ?_;rintro e w5 ⟨rfl,rfl⟩;go_wp2_with (first
    | refine wpList_load_row rfl 100 (.tmp 8) rfl w3.heap.size rfl 100 _ _ _ HY4.out Tryz.underlying100 rfl HIU.out ?_
    | refine wpList_store_row rfl 100 (.tmp 2) (.tmp 50) rfl w.heap.size (zb ⟨sch,[],zD,-1,rs⟩).toArray rfl rfl 100 _ HR4.out HIU.out rfl (zh (yZ _)) ?_)
   all_goals try omega
   refine bodyPost_ret (zf rfl _ _ w.heap.size 100 _ _ rfl (HR4.out.setRow (zb ⟨sch,[],zD,-1,rs⟩)) Tryz.underlying100 rfl HIU.out) rfl ?_;exact ⟨⟨_,0,rfl,.inl ⟨rfl,hfin.out⟩⟩,below_setRow HA4.out (Nat.le_refl _) _⟩
  have hdec:decide (0<zS sch)=true:=KZ7 (by omega);simp only [hdec] at hsp;have HSP:=KZ9 hsp;have hcp:=rz (mk rs) ⟨#[47,47]⟩ W4;have hsz2:(⟨#[47,47]⟩:ByteArray).size=2:=rfl;have hun2:un (⟨#[47,47]⟩:ByteArray)=[47,47]:=rfl;rw [zk,hsz2,hun2] at hcp;clear hsp hdec hpc hsz2 hun2;by_cases h2:rs.take 2=[47,47]
  ·have hd5:=HD2.out.trans (Y9 hp h2);rw [if_pos h2,KZ7 h2] at hcp;have hr2l:(rs.drop 2).length≤n:=by rw [List.length_drop];omega
   have hr2t:okT (rs.drop 2):=ZJ HT2.out 2;obtain ⟨r2,hr2⟩:=KZ6 (rs.drop 2);rw [←hr2] at hd5 hcp hr2l hr2t;have hia:=gy (mk r2) W4 (by rw [zi];omega);rw [zk] at hia;have hal:=authL_le r2;have hil:=authL_le.indexAny_lt [47,63,35] r2;have hadef:rC r2=if Lib.indexAny r2 [47,63,35]<0 then r2.length else (Lib.indexAny r2 [47,63,35]).toNat:=rfl
   obtain ⟨ix,hix⟩:=KZ6 (Lib.indexAny r2 [47,63,35]);rw [←hix] at hia hadef hil;obtain ⟨A,hA⟩:=KZ6 (rC r2);rw [←hA] at hd5 hal hadef;have HD5:=KZ9 hd5;have HCP:=KZ9 hcp;have HIA:=KZ9 hia;have HAD:=KZ9 hadef;have HT3:=KZ9 hr2t;clear hd5 hcp hia hadef hix hA hr2 hr2t h2 hp HD2 HT2;go_wp2_with fail
   all_goals try omega
   refine (HSP.out _).mono ?_;rintro e w5 ⟨rfl,rfl⟩;go_wp2_with fail
   all_goals try omega
   refine HCP.out.mono ?_;rintro e w5 ⟨rfl,rfl⟩;go_wp2_with fail
   all_goals try omega
   refine HIA.out.mono ?_;rintro e w5 ⟨rfl,hb5⟩;have hs5:=hb5.size;have HR5:=KZ9 (HR4.out.below (by omega) hb5);have HY5:=KZ9 (HY4.out.below (by omega) hb5);have HA5:=KZ9 (HA4.out.trans (hb5.mono (by omega)));clear hb5 HSP HCP HIA HR4 HY4 HA4 c4;go_upto_if 63 with fail
   all_goals try omega
   go_cut [9] (fun s9 wx=>s9= .string (mk (r2.take A))∧wx=w5)
   case first =>
    by_cases h0:ix<0
    ·have g1:decide ((0:Int)≤ix)=false:=KZ8 (by omega);have hA2:=HAD.out;rw [if_pos h0] at hA2;have ht:r2.take A=r2:=by rw [hA2,List.take_length]
     have HTK:=KZ9 ht;clear hA2 ht;go_wp2
     all_goals try omega
     go_meet;exact ⟨by rw [HTK.out],rfl⟩
    have g1:decide ((0:Int)≤ix)=true:=KZ7 (by omega);have hA2:=HAD.out;rw [if_neg h0] at hA2;obtain ⟨k,rfl⟩:∃ k:Nat,ix=k:=⟨ix.toNat,by omega⟩;have hAk:A=k:=by rw [hA2];simp
    have hI2:(k:Int)≤(r2.length:Int):=by omega
    have hx1:=pB (mk r2) k;rw [zk] at hx1;clear hA2 HAD;have HAK:=KZ9 hAk;clear hAk;go_wp2
    all_goals try omega
    go_meet;exact ⟨by rw [HAK.out],rfl⟩
   case rest =>
   obtain ⟨rfl,rfl⟩:=hcut;have hau:(r2.take A).length=A:=by rw [List.length_take];omega
   have hTa:okT (r2.take A):=T1 HT3.out A;have hx2:=td (mk r2) A;rw [zk,zi] at hx2;have hrl:(r2.drop A).length≤n:=by rw [List.length_drop];omega
   obtain ⟨au,hau2⟩:=KZ6 (r2.take A);obtain ⟨rr,hrr⟩:=KZ6 (r2.drop A);have HD6:Hid (xr l=xA ⟨sch,[],zD,-1,Zl rr⟩ au):=KZ9 (by rw [HD5.out,hau2,hrr]);rw [←hau2] at hau hTa ⊢;rw [←hrr] at hx2 hrl;have HTA:=KZ9 hTa;clear hau2 hrr HD5 HAD HT3 hTa;have hauI:(au.length:Int)≤(r2.length:Int):=by omega
   have f5:=HY5.out.f 14;have d5:=HY5.out.c 14 _ rfl;have hY6:BlkL (wc.setCell ⟨w3.heap.size,14,none⟩ (.string (mk rr))) w3.heap.size 100 (zb ⟨sch,[],zD,-1,rr⟩):=HY5.out.set 14 (by rw [xN (u:=⟨sch,[],zD,-1,rs⟩) rfl];omega) (.string (mk rr));have hR6:=HR5.out.other (p:=w3.heap.size) (by omega) 14 (.string (mk rr));have hA6:=HA5.out.trans (ze wc w3.heap.size 14 (.string (mk rr)) (by omega));have c6:=hY6.c 14 _ rfl;have f6:=hY6.f 14;have hpf:=fun W=>uN (mk rr) 47 W;simp only [zk] at hpf;have HIU:Hid ((Tryz.prog.info? 100).map (·.size)=some 15):=KZ9 yp;by_cases hh:rr.head? =some 47
   ·have HD7:Hid (xr l=xA ⟨sch,[],zD,-1,rr⟩ au):=KZ9 (by rw [HD6.out];unfold Zl;rw [if_pos hh]);simp only [KZ7 hh] at hpf;have HPF:=KZ9 hpf;have hpl:=Ww ⟨sch,[],zD,-1,rr⟩ (mk au) (wc.setCell ⟨w3.heap.size,14,none⟩ (.string (mk rr))) (HBB.out.below hA6) Ve rfl (by rw [zi];omega) (by rw [zk];exact HTA.out);rw [zk] at hpl;have HPL:=KZ9 hpl;have HY7:=KZ9 hY6;have HR7:=KZ9 hR6;have HA7:=KZ9 hA6;clear hpf hh hpl hY6 hR6 hA6 HD6 HY5 HR5 HA5;go_wp2_with fail
    all_goals try omega
    refine (HPF.out _).mono ?_;rintro e w6 ⟨rfl,rfl⟩;go_wp2_with (first
     | refine wpList_load_row rfl 100 (.tmp 8) rfl w3.heap.size rfl 100 _ _ _ HY7.out Tryz.underlying100 rfl yp ?_)
    all_goals try omega
    refine HPL.out.mono ?_;rintro e w7 ⟨⟨v,c,rfl,hres⟩,hb7⟩;have hw:rG v.host:=by
     rcases hres with ⟨_,h2⟩ | ⟨_,h2,_⟩
     ·exact kq h2
     rw [h2];exact qO
    have HI:=KZ9 (yg hw.1);have HSZ:=KZ9 (show (zb zJ).toArray.size=(zb v).toArray.size by rw [List.size_toArray,List.size_toArray,xN hw.1];rfl);have HR8:=KZ9 (HR7.out.below (by simp;omega) hb7);have HA8:=KZ9 (HA7.out.trans (hb7.mono (by simp;omega)));have HRES:=KZ9 hres;clear hb7 hres hw HPL HR7 HA7 HY7;go_wp2_with (first
     | refine wpList_store_row rfl 100 (.tmp 2) (.tmp 83) rfl w.heap.size (zb v).toArray rfl rfl 100 _ HR8.out HI.out HSZ.out (zh (yZ v)) ?_)
    all_goals try omega
    refine bodyPost_ret (zf rfl _ _ w.heap.size 100 _ _ rfl (HR8.out.setRow (zb v)) Tryz.underlying100 rfl HI.out) rfl ?_;refine ⟨⟨v,c,rfl,?_⟩,below_setRow HA8.out (Nat.le_refl _) _⟩;rw [HD7.out];exact HRES.out
   have HD7:Hid (xr l=xA ⟨sch,[],zD,-1,47::rr⟩ au):=KZ9 (by rw [HD6.out];unfold Zl;rw [if_neg hh]);simp only [KZ8 hh] at hpf;have HPF:=KZ9 hpf;have hadd:(⟨#[47]⟩:ByteArray)++mk rr=mk (47::rr):=by
    have:=yU [47] rr;exact this.symm
   have hY7:BlkL ((wc.setCell ⟨w3.heap.size,14,none⟩ (.string (mk rr))).setCell ⟨w3.heap.size,14,none⟩ (.string (mk (47::rr)))) w3.heap.size 100 (zb ⟨sch,[],zD,-1,47::rr⟩):=hY6.set 14 (by rw [xN (u:=⟨sch,[],zD,-1,rr⟩) rfl];omega) (.string (mk (47::rr)));have hR7:=hR6.other (p:=w3.heap.size) (by omega) 14 (.string (mk (47::rr)));have hA7:=hA6.trans (ze (wc.setCell ⟨w3.heap.size,14,none⟩ (.string (mk rr))) w3.heap.size 14 (.string (mk (47::rr))) (by omega));have hpl:=Ww ⟨sch,[],zD,-1,47::rr⟩ (mk au) _ (HBB.out.below hA7) Ve rfl (by rw [zi];omega) (by rw [zk];exact HTA.out);rw [zk] at hpl;have HPL:=KZ9 hpl;have HY7:=KZ9 hY7;have HR7:=KZ9 hR7;have HA7:=KZ9 hA7;have hrs1:(mk rr).size≤100000:=by rw [zi];omega
   clear hpf hh hpl hY6 hR6 hA6 HD6 HY5 HR5 HA5 hY7 hR7 hA7;go_wp2_with fail
   all_goals try omega
   refine (HPF.out _).mono ?_;rintro e w6 ⟨rfl,rfl⟩;go_wp2_with (first
    | refine wpList_load_row rfl 100 (.tmp 8) rfl w3.heap.size rfl 100 _ _ _ HY7.out Tryz.underlying100 rfl yp ?_)
   all_goals try omega
   refine HPL.out.mono ?_;rintro e w7 ⟨⟨v,c,rfl,hres⟩,hb7⟩;have hw:rG v.host:=by
    rcases hres with ⟨_,h2⟩ | ⟨_,h2,_⟩
    ·exact kq h2
    rw [h2];exact qO
   have HI:=KZ9 (yg hw.1);have HSZ:=KZ9 (show (zb zJ).toArray.size=(zb v).toArray.size by rw [List.size_toArray,List.size_toArray,xN hw.1];rfl);have HR8:=KZ9 (HR7.out.below (by simp;omega) hb7);have HA8:=KZ9 (HA7.out.trans (hb7.mono (by simp;omega)));have HRES:=KZ9 hres;clear hb7 hres hw HPL HR7 HA7 HY7;go_wp2_with (first
    | refine wpList_store_row rfl 100 (.tmp 2) (.tmp 83) rfl w.heap.size (zb v).toArray rfl rfl 100 _ HR8.out HI.out HSZ.out (zh (yZ v)) ?_)
   all_goals try omega
   refine bodyPost_ret (zf rfl _ _ w.heap.size 100 _ _ rfl (HR8.out.setRow (zb v)) Tryz.underlying100 rfl HI.out) rfl ?_;refine ⟨⟨v,c,rfl,?_⟩,below_setRow HA8.out (Nat.le_refl _) _⟩;rw [HD7.out];exact HRES.out
  have hfin:=KZ9 (HD2.out.trans (Zk hp h2));rw [if_neg h2,KZ8 h2] at hcp;have HCP:=KZ9 hcp;clear hcp h2 hp HD2;go_wp2_with fail
  all_goals try omega
  refine (HSP.out _).mono ?_;rintro e w5 ⟨rfl,rfl⟩;go_wp2_with fail
  all_goals try omega
  refine HCP.out.mono ?_;rintro e w5 ⟨rfl,rfl⟩;go_wp2_with (first
   | refine wpList_store_row rfl 100 (.tmp 2) (.tmp 58) rfl w.heap.size (zb zJ).toArray rfl rfl 100 _ HR4.out yp rfl (zh (yZ zJ)) ?_)
  all_goals try omega
  refine bodyPost_ret (zf rfl _ _ w.heap.size 100 _ _ rfl (HR4.out.setRow (zb zJ)) Tryz.underlying100 rfl yp) rfl ?_;exact ⟨⟨zJ,4,rfl,.inr ⟨by decide,rfl,hfin.out⟩⟩,below_setRow HA4.out (Nat.le_refl _) _⟩
theorem wM {P : Program} (d : Nat) (xs ys : Array Value) (f : Field) (fs : List Field) (W : World) (va vb : Value) (r : Bool) (hn : f.name ≠ "_") (ha : (part f.type xs f.offset).run P W = .ok va W) (hb : (part f.type ys f.offset).run P W = .ok vb W) (he : (Op.equalIn d f.type va vb).run P W = .ok r W) :
  (Op.eqFields d xs ys (f::fs)).run P W=if r=true then (Op.eqFields d xs ys fs).run P W else .ok false W:=by
 rw [Op.eqFields,if_pos hn];simp only [Sem.run_bind,ha,hb,he,Result.andThen_ok];cases r<;>simp
theorem vJ {P:Program} {t:TypeId} {d:TypeDesc} {n:Nat} (hu:P.underlying t=some d) (hd:d.isRow=true) (hi:(P.info? t).map (·.size)=some n) (cs:Array Value) (off:Nat) (W:World):(part t cs off).run P W= .ok (.agg (cs.extract off (off+n))) W:=by
 cases hq:P.info? t with
 | none=>simp [hq] at hi
 | some i =>
  have hs:i.size=n:=by simpa [hq] using hi
  have hagg:(isAgg t).run P W= .ok true W:=by
   unfold isAgg;rw [Sem.run_bind,run_underlying hu W];cases d<;>simp_all
  simp [part,Sem.run_bind,hagg,sizeOf,typeInfo,hq,hs]
theorem S6 (d:Nat) (a b:List Nat) (ha:a.length=8) (hb:b.length=8) (W:World):(Op.equalIn (d+2) 96 (.agg (yd a).toArray) (.agg (yd b).toArray)).run Tryz.prog W= .ok (decide (a=b)) W:=by
 obtain ⟨i,hi,_⟩:=Option.map_eq_some_iff.1 Z9;have h:=run_equalIn_array W (d+1) (yd a).toArray (yd b).toArray Tryz.underlying96 hi;rw [Vv,bE d a b W _ (fun j hj=>by have:=List.mem_range.1 hj;omega)] at h;refine h.trans ?_;have key:(∀ i∈List.range 8,a[i]? =b[i]?)↔a=b:=by
  constructor
  ·intro hh;apply List.ext_getElem?;intro j;by_cases hj:j<8
   ·exact hh j (List.mem_range.2 hj)
   rw [List.getElem?_eq_none (by omega),List.getElem?_eq_none (by omega)]
  intro e j _;rw [e]
 rw [decide_eq_decide.2 key]
theorem XW:Tryz.prog.underlying 98=some (.struct (Tryz.prog.fieldsOf 98)):=by kernel_rfl
theorem VF:Tryz.prog.underlying 100=some (.struct (Tryz.prog.fieldsOf 100)):=by kernel_rfl
theorem SA (h:HostP) (h8:h.v6.length=8):(zj h).toArray.extract 3 (3+8)=(yd h.v6).toArray:=by
 apply Array.ext';rw [Array.toList_extract];have:((zj h).drop 3)=yd h.v6:=rfl;simp only [List.extract_eq_take_drop];show ((zj h).drop 3).take (3+8 - 3)=_;rw [this];exact List.take_of_length_le (by simp [h8])
theorem Ys (u:UrlP) (h8:u.host.v6.length=8):(zb u).toArray.extract 2 (2+11)=(zj u.host).toArray:=by
 apply Array.ext';rw [Array.toList_extract];simp only [List.extract_eq_take_drop];show ((zb u).drop 2).take (2+11 - 2)=_;have:(zb u).drop 2=zj u.host++[.int .i64 u.port,.string (mk u.rest)]:=rfl;rw [this,List.take_left' (by rw [wd h8])]
theorem bh (a b:Bs):((mk a).toList==(mk b).toList)=decide (a=b):=by
 rw [toList_mk',toList_mk'];by_cases h:a=b<;>simp [h]
theorem R6 : (Tryz.prog.fieldsOf 98).toList.map (fun f => (f.name, f.type, f.offset)) = [("Kind", 3, 0), ("Name", 9, 1), ("V4", 94, 2), ("V6", 96, 3)] := by kernel_rfl
theorem Rk : (Tryz.prog.fieldsOf 100).toList.map (fun f => (f.name, f.type, f.offset)) = [("Scheme", 9, 0), ("User", 9, 1), ("Host", 98, 2), ("Port", 3, 13), ("Rest", 9, 14)] := by kernel_rfl
theorem yK {α β:Type} {f:α→β} {l:List α} {b:β} {r:List β} (h:l.map f=b::r):∃ a t,l=a::t∧f a=b∧t.map f=r:=by
 cases l with
 | nil=>cases h
 | cons a t=>simp at h;exact ⟨a,t,rfl,h.1,h.2⟩
theorem Sn (d:Nat) (a b:HostP) (ha:a.v6.length=8) (hb:b.v6.length=8) (W:World):(Op.equalIn (d+4) 98 (.agg (zj a).toArray) (.agg (zj b).toArray)).run Tryz.prog W= .ok (decide (a=b)) W:=by
 rw [run_equalIn_struct W (d+3) _ _ _ XW (by kernel_rfl)];have hl:=R6;generalize (Tryz.prog.fieldsOf 98).toList=L at hl;obtain ⟨f0,t0,rfl,e0,hl⟩:=yK hl;obtain ⟨f1,t1,rfl,e1,hl⟩:=yK hl;obtain ⟨f2,t2,rfl,e2,hl⟩:=yK hl;obtain ⟨f3,t3,rfl,e3,hl⟩:=yK hl;obtain rfl:t3=[]:=by simpa using hl
 simp only [Prod.mk.injEq] at e0 e1 e2 e3;obtain ⟨k0,v0,x0,g0⟩:=a;obtain ⟨k1,v1,x1,g1⟩:=b;simp only at ha hb;rw [wM _ _ _ f0 _ W (.int .i64 (k0:Int)) (.int .i64 (k1:Int)) (decide (k0=k1)) (by rw [e0.1];decide) (by rw [e0.2.1,e0.2.2];exact run_part_plain W (by kernel_rfl) rfl) (by rw [e0.2.1,e0.2.2];exact run_part_plain W (by kernel_rfl) rfl) (by rw [e0.2.1,run_equalIn_int W (d+2) _ .i64 .i64 _ _ Tryz.underlying3];congr 1;by_cases h:k0=k1<;>simp [h]<;>omega)];rw [wM _ _ _ f1 _ W (.string (mk v0)) (.string (mk v1)) (decide (v0=v1)) (by rw [e1.1];decide) (by rw [e1.2.1,e1.2.2];exact run_part_plain W (by kernel_rfl) rfl) (by rw [e1.2.1,e1.2.2];exact run_part_plain W (by kernel_rfl) rfl) (by rw [e1.2.1,run_equalIn_string W (d+2) _ _ _ Tryz.underlying9,bh])]
 rw [wM _ _ _ f2 _ W (.int .u32 (x0:Int)) (.int .u32 (x1:Int)) (decide (x0=x1)) (by rw [e2.1];decide) (by rw [e2.2.1,e2.2.2];exact run_part_plain W (by kernel_rfl) rfl) (by rw [e2.2.1,e2.2.2];exact run_part_plain W (by kernel_rfl) rfl) (by rw [e2.2.1,run_equalIn_int W (d+2) _ .u32 .u32 _ _ Tryz.underlying94];congr 1;by_cases h:x0=x1<;>simp [h]<;>omega)];rw [wM _ _ _ f3 _ W (.agg (yd g0).toArray) (.agg (yd g1).toArray) (decide (g0=g1)) (by rw [e3.1];decide) (by rw [e3.2.1,e3.2.2,vJ Tryz.underlying96 rfl kN];congr 2;exact SA ⟨k0,v0,x0,g0⟩ ha) (by rw [e3.2.1,e3.2.2,vJ Tryz.underlying96 rfl kN];congr 2;exact SA ⟨k1,v1,x1,g1⟩ hb) (by rw [e3.2.1];exact S6 (d+1) g0 g1 ha hb W)];simp only [Op.eqFields,Sem.run_pure,HostP.mk.injEq];by_cases h0:k0=k1<;>by_cases h1:v0=v1<;>by_cases h2:x0=x1<;>by_cases h3:g0=g1<;>simp [h0,h1,h2,h3]
theorem Ri (d:Nat) (a b:UrlP) (ha:a.host.v6.length=8) (hb:b.host.v6.length=8) (W:World):(Op.equalIn (d+5) 100 (.agg (zb a).toArray) (.agg (zb b).toArray)).run Tryz.prog W= .ok (decide (a=b)) W:=by
 rw [run_equalIn_struct W (d+4) _ _ _ VF (by kernel_rfl)];have hl:=Rk;generalize (Tryz.prog.fieldsOf 100).toList=L at hl;obtain ⟨f0,t0,rfl,e0,hl⟩:=yK hl;obtain ⟨f1,t1,rfl,e1,hl⟩:=yK hl;obtain ⟨f2,t2,rfl,e2,hl⟩:=yK hl;obtain ⟨f3,t3,rfl,e3,hl⟩:=yK hl;obtain ⟨f4,t4,rfl,e4,hl⟩:=yK hl;obtain rfl:t4=[]:=by simpa using hl
 simp only [Prod.mk.injEq] at e0 e1 e2 e3 e4;have p3:∀ u:UrlP,u.host.v6.length=8→(zb u).toArray[13]? =some (.int .i64 u.port)∧(zb u).toArray[14]? =some (.string (mk u.rest)):=fun u h8=>by
  have e6:zb u=([.string (mk u.scheme),.string (mk u.user)]++zj u.host)++[.int .i64 u.port,.string (mk u.rest)]:=by simp [zb]
  constructor
  ·rw [List.getElem?_toArray,e6,List.getElem?_append_right (by simp [wd h8])];simp [wd h8]
  rw [List.getElem?_toArray,e6,List.getElem?_append_right (by simp [wd h8])];simp [wd h8]
 have pa:=p3 a ha;have pb:=p3 b hb;rw [wM _ _ _ f0 _ W (.string (mk a.scheme)) (.string (mk b.scheme)) (decide (a.scheme=b.scheme)) (by rw [e0.1];decide) (by rw [e0.2.1,e0.2.2];exact run_part_plain W (by kernel_rfl) rfl) (by rw [e0.2.1,e0.2.2];exact run_part_plain W (by kernel_rfl) rfl) (by rw [e0.2.1,run_equalIn_string W (d+3) _ _ _ Tryz.underlying9,bh])];rw [wM _ _ _ f1 _ W (.string (mk a.user)) (.string (mk b.user)) (decide (a.user=b.user)) (by rw [e1.1];decide) (by rw [e1.2.1,e1.2.2];exact run_part_plain W (by kernel_rfl) rfl) (by rw [e1.2.1,e1.2.2];exact run_part_plain W (by kernel_rfl) rfl) (by rw [e1.2.1,run_equalIn_string W (d+3) _ _ _ Tryz.underlying9,bh])]
 rw [wM _ _ _ f2 _ W (.agg (zj a.host).toArray) (.agg (zj b.host).toArray) (decide (a.host=b.host)) (by rw [e2.1];decide) (by rw [e2.2.1,e2.2.2,vJ Tryz.underlying98 rfl yl];congr 2;exact Ys a ha) (by rw [e2.2.1,e2.2.2,vJ Tryz.underlying98 rfl yl];congr 2;exact Ys b hb) (by rw [e2.2.1];exact Sn d a.host b.host ha hb W)];rw [wM _ _ _ f3 _ W (.int .i64 a.port) (.int .i64 b.port) (decide (a.port=b.port)) (by rw [e3.1];decide) (by rw [e3.2.1,e3.2.2];exact run_part_plain W (by kernel_rfl) pa.1) (by rw [e3.2.1,e3.2.2];exact run_part_plain W (by kernel_rfl) pb.1) (by rw [e3.2.1,run_equalIn_int W (d+3) _ .i64 .i64 _ _ Tryz.underlying3];rfl)]
 rw [wM _ _ _ f4 _ W (.string (mk a.rest)) (.string (mk b.rest)) (decide (a.rest=b.rest)) (by rw [e4.1];decide) (by rw [e4.2.1,e4.2.2];exact run_part_plain W (by kernel_rfl) pa.2) (by rw [e4.2.1,e4.2.2];exact run_part_plain W (by kernel_rfl) pb.2) (by rw [e4.2.1,run_equalIn_string W (d+3) _ _ _ Tryz.underlying9,bh])];simp only [Op.eqFields,Sem.run_pure];obtain ⟨s0,r0,h0,q0,z0⟩:=a;obtain ⟨s1,r1,h1,q1,z1⟩:=b;simp only [UrlP.mk.injEq];by_cases c0:s0=s1<;>by_cases c1:r0=r1<;>by_cases c2:h0=h1<;>by_cases c3:q0=q1<;>by_cases c4:z0=z1<;>simp [c0,c1,c2,c3,c4]
theorem QQ (a b:UrlP) (ha:a.host.v6.length=8) (hb:b.host.v6.length=8) (W:World):(Op.equalIn 10000 100 (.agg (zb a).toArray) (.agg (zb b).toArray)).run Tryz.prog W= .ok (decide (a=b)) W:=Ri 9995 a b ha hb W
def sG (v:Nat):Nat→Bs
 | 0=>[]
 | 1=>Lib.decDigits (v / 16777216 % 256)++[46]
 | 2=>(Lib.decDigits (v / 16777216 % 256)++[46])++(Lib.decDigits (v / 65536 % 256)++[46])
 | 3=>((Lib.decDigits (v / 16777216 % 256)++[46])++(Lib.decDigits (v / 65536 % 256)++[46]))++(Lib.decDigits (v / 256 % 256)++[46])
 | _=>(((Lib.decDigits (v / 16777216 % 256)++[46])++(Lib.decDigits (v / 65536 % 256)++[46]))++(Lib.decDigits (v / 256 % 256)++[46]))++(Lib.decDigits (v % 256)++[46])
theorem kT (v:Nat):sG v 4=XY v++[46]:=by simp [sG,XY]
theorem jB (x:Nat) (hx:x<4294967296):bits .and .u32 (x:Int) 255=((x % 256:Nat):Int):=by
 have h:=u32_and_nat x 255 hx (by omega);have e:x &&& 255=x % 256:=Nat.and_two_pow_sub_one_eq_mod x 8;rw [e] at h;exact h
theorem Yo (v k:Nat):(sG v k).length≤44:=by
 have h:∀ q,(Lib.decDigits (q % 256)).length≤10:=fun q=>yR _ (by omega);have h1:=h (v / 16777216);have h2:=h (v / 65536);have h3:=h (v / 256);have h4:=h v
 match k with
 | 0=>simp [sG]
 | 1=>simp [sG];omega
 | 2=>simp [sG];omega
 | 3=>simp [sG];omega
 | k+4=>simp [sG];omega
theorem UF (v:Nat) (w:World) (hB:Base w) (hv:v<4294967296):Calls Tryz.prog 165 #[.int .u32 (v:Int)] w fun e w'=>e= .returned (.string (mk (XY v)))∧Below w.heap.size w w':=by
 have HBS:=KZ9 hB;have HV:=KZ9 hv;clear hB;go_enter Tryz.func165,Tryz.ntmps165
 go_wp2;go_loopw [3,4] (fun ov iv wr=>∃ (k:Nat) (S:ByteArray),iv= .int .i64 (24 - 8*(k:Int))∧k≤4∧ov= .string S∧Hid (un S=sG v k)∧Below w.heap.size w wr) (fun _ iv _=>((match iv with | .int _ z=>z | _=>0)+8).toNat)
 case atStart=>exact ⟨0,⟨#[]⟩,by go_num,by omega,rfl,KZ9 rfl,Below.refl _ _⟩
 case round =>
  obtain ⟨k,S,rfl,hk,rfl,hS,hnx⟩:=hrel;have hSz:S.size≤44:=by rw [←za,hS.out];exact Yo v k
  have hBr:=HBS.out.below hnx;rcases (by omega:k=0∨k=1∨k=2∨k=3∨k=4) with rfl | rfl | rfl | rfl | rfl
  ·obtain ⟨q,hq⟩:=KZ6 (v / 16777216 % 256);have HI:=KZ9 (sy q wr hBr (by omega));have ha:bits .and .u32 ((v:Int) / 16777216) 255=(q:Int):=by rw [hq,←jB (v / 16777216) (by omega)];rfl
   have hq5:q≤255:=by omega
   have HS:=KZ9 (show sG v 1=sG v 0++(Lib.decDigits q++[46]) by rw [hq];rfl);have hqz:(Lib.decDigits q).length≤10:=yR q (by omega);clear hBr hq;go_wp2_with fail
   refine HI.out.mono ?_;rintro e w2 ⟨rfl,hb2⟩;go_wp2
   all_goals try omega
   go_roundw
   case rel=>exact ⟨1,_,by go_num,by omega,rfl,KZ9 (by rw [HS.out,yT,yT,hS.out,zk];rfl),hnx.trans (hb2.mono hnx.size)⟩
   case measure=>simp
  ·obtain ⟨q,hq⟩:=KZ6 (v / 65536 % 256);have HI:=KZ9 (sy q wr hBr (by omega));have ha:bits .and .u32 ((v:Int) / 65536) 255=(q:Int):=by rw [hq,←jB (v / 65536) (by omega)];rfl
   have hq5:q≤255:=by omega
   have HS:=KZ9 (show sG v 2=sG v 1++(Lib.decDigits q++[46]) by rw [hq];rfl);have hqz:(Lib.decDigits q).length≤10:=yR q (by omega);clear hBr hq;go_wp2_with fail
   refine HI.out.mono ?_;rintro e w2 ⟨rfl,hb2⟩;go_wp2
   all_goals try omega
   go_roundw
   case rel=>exact ⟨2,_,by go_num,by omega,rfl,KZ9 (by rw [HS.out,yT,yT,hS.out,zk];rfl),hnx.trans (hb2.mono hnx.size)⟩
   case measure=>simp
  ·obtain ⟨q,hq⟩:=KZ6 (v / 256 % 256);have HI:=KZ9 (sy q wr hBr (by omega));have ha:bits .and .u32 ((v:Int) / 256) 255=(q:Int):=by rw [hq,←jB (v / 256) (by omega)];rfl
   have hq5:q≤255:=by omega
   have HS:=KZ9 (show sG v 3=sG v 2++(Lib.decDigits q++[46]) by rw [hq];rfl);have hqz:(Lib.decDigits q).length≤10:=yR q (by omega);clear hBr hq;go_wp2_with fail
   refine HI.out.mono ?_;rintro e w2 ⟨rfl,hb2⟩;go_wp2
   all_goals try omega
   go_roundw
   case rel=>exact ⟨3,_,by go_num,by omega,rfl,KZ9 (by rw [HS.out,yT,yT,hS.out,zk];rfl),hnx.trans (hb2.mono hnx.size)⟩
   case measure=>simp
  ·obtain ⟨q,hq⟩:=KZ6 (v % 256);have HI:=KZ9 (sy q wr hBr (by omega));have ha:bits .and .u32 ((v:Int)) 255=(q:Int):=by rw [hq,←jB (v) (by omega)]
   have hq5:q≤255:=by omega
   have HS:=KZ9 (show sG v 4=sG v 3++(Lib.decDigits q++[46]) by rw [hq];rfl);have hqz:(Lib.decDigits q).length≤10:=yR q (by omega);clear hBr hq;go_wp2_with fail
   refine HI.out.mono ?_;rintro e w2 ⟨rfl,hb2⟩;go_wp2
   all_goals try omega
   go_roundw
   case rel=>exact ⟨4,_,by go_num,by omega,rfl,KZ9 (by rw [HS.out,yT,yT,hS.out,zk];rfl),hnx.trans (hb2.mono hnx.size)⟩
   case measure=>simp
  have hS4:S.size=(XY v).length+1:=by rw [←za,hS.out,kT];simp
  have hS1:1≤S.size:=by omega
  have HE:=KZ9 (show S.extract 0 (S.size - 1)=mk (XY v) from pi (by rw [xj,hS.out,kT,zk,hS4];simp));clear hBr hS4;go_wp2
  all_goals try omega
  go_ret;rw [HE.out];exact ⟨rfl,hnx⟩
theorem Ye {h:HostP} (hv:yo h=false):xK h=[]:=by unfold xK;rw [if_neg (by rw [hv];simp)]
theorem Vd {n:Bs} {v:Nat} {x:List Nat} (hv:yo ⟨1,n,v,x⟩=true):xK ⟨1,n,v,x⟩=n:=by unfold xK;rw [if_pos hv];rfl
theorem Vc {n:Bs} {v:Nat} {x:List Nat} (hv:yo ⟨2,n,v,x⟩=true):xK ⟨2,n,v,x⟩=XY v:=by unfold xK;rw [if_pos hv];rfl
theorem sE {k:Nat} {n:Bs} {v:Nat} {x:List Nat} (hv:yo ⟨k,n,v,x⟩=true):k=1∨k=2∨k=3:=by
 rw [qf] at hv;split at hv
 ·omega
 split at hv
 ·omega
 split at hv
 ·omega
 cases hv
theorem Yj (h:HostP) (w:World) (hB:Base6 w) (hw:xR h) (hn:h.name.length≤100000):Calls Tryz.prog 101 #[.agg (zj h).toArray] w fun e w'=>e= .returned (.string (mk (xK h)))∧Below w.heap.size w w':=by
 obtain ⟨W0,hW0⟩:=KZ6 (w.alloc (.cells (zj h).toArray 98));have hbA:Below w.heap.size w W0:=by rw [hW0];exact (Below.refl _ w).alloc (Nat.le_refl _) _
 have hb0:BlkL W0 w.heap.size 98 (zj h):=by rw [hW0];exact BlkL.new w _ _
 have HW0:Hid (w.alloc (.cells (zj h).toArray 98)=W0):=KZ9 hW0.symm;have hsz:W0.heap.size=w.heap.size+1:=by rw [hW0];simp
 have B0:=hB.below hbA;have HV:=KZ9 (jx h W0 B0.1 hw hn);have HI:=KZ9 (uf hw.1);have HB0:=KZ9 hb0;clear hW0 hB;go_enter Tryz.func101,Tryz.ntmps101
 go_upto_region 1 with fail
 rw [HW0.out];clear HW0;go_wp2_with (refine wpList_load_row rfl 98 (.tmp 1) rfl w.heap.size rfl 98 _ _ _ HB0.out Tryz.underlying98 rfl HI.out ?_)
 refine HV.out.mono ?_;rintro e w1 ⟨rfl,hb1⟩;have HALL:=KZ9 (hbA.trans (hb1.mono (by omega)));have B1:=B0.below hb1;have hb2:=hb0.below (by omega) hb1;clear hb1 HB0 hb0 HV hbA;obtain ⟨ok,hok⟩:=KZ6 (yo h);rw [←hok];cases ok
 ·have hfin:=KZ9 (Ye hok.symm);clear hok;go_wp2;go_ret;rw [hfin.out];exact ⟨rfl,HALL.out⟩
 obtain ⟨kind,name,v4,v6⟩:=h;simp only at hn;have c0:=hb2.c 0 _ (qg _).1;have c1:=hb2.c 1 _ (qg _).2.1;have c2:=hb2.c 2 _ (qg _).2.2.1;simp only at c0 c1 c2;rcases sE hok.symm with rfl | rfl | rfl
 ·have hfin:=KZ9 (Vd hok.symm);clear hok hb2;go_wp2;go_ret;rw [hfin.out];exact ⟨rfl,HALL.out⟩
 ·have hfin:=KZ9 (Vc hok.symm);have HF:=KZ9 (UF v4 w1 B1.1 hw.2.2.1);clear hok hb2;go_wp2_with fail
  refine HF.out.mono ?_;rintro e w2 ⟨rfl,hb3⟩;go_wp2;go_ret;rw [hfin.out];exact ⟨rfl,HALL.out.trans (hb3.mono (by have:=HALL.out.size;omega))⟩
 exact absurd rfl hw.2.2.2
end Go.Proofs.YtbnnlkdhpifpeaaGreatDoor
