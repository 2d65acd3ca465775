/- What the proof of TopClock uses, part Clk03. -/
import Derived.Test.YtbnnlkdhpifpeaaGreatDoorClk02
import Derived.Deep.RegionHeld3
import Derived.Shelf.Strings.OnBuilder
import Derived.Shelf.Small.Utf8
import Derived.Shelf.Small.Bits
import Derived.Shelf.Small.Wraps
import Derived.Shelf.Utf8.RuneCount
import Derived.Shelf.Strconv.Itoa3
import Derived.Shelf.Strings.Shaped
import Derived.Shelf.Sort.Plain
import Derived.Shelf.Strings.LastIndex
import Derived.Shelf.Strings.Prefix
import Derived.Shelf.Strings.SplitShaped
import Derived.Shelf.Strings.IndexAnyAll
import Derived.Shelf.Strings.Explode
import Derived.Shelf.Strings.BuilderCap
import Derived.Shelf.Slices.Turned
import Derived.Shelf.Slices.SearchI
import Derived.Shelf.Slices.Cells
import Derived.Shelf.Slices.In.SortNone
import Derived.Shelf.Path.Small
import Derived.Shelf.Unicode.ValidAny
set_option linter.unusedSimpArgs false
set_option linter.unusedVariables false
namespace Go.Proofs.YtbnnlkdhpifpeaaGreatDoor
open Go.RowKit Hs
set_option maxRecDepth 20000
set_option maxHeartbeats 16000000
theorem Q8 (g:Nat) (l:Bs) (v:Value) (pts:List Nat) (nn ii bi:Nat) (st:Bool) (w:World) (hd:BlkL w g 357 [.string (mk l),v,.int .i64 (nn:Int),.int .i64 (ii:Int),.int .i64 (bi:Int),.bool st]) (hown:w.ownsRow (g+1) 3 1 v pts.length (zo pts))
  (h0:l≠[]) (hl:l.length≤100000) (hnn:nn≤1114111) (hii:ii≤257) (hbi:bi≤324) (hpl:pts.length≤256) :
  Calls Tryz.prog 290 #[.pointer (some ⟨g,0,none⟩)] w fun e w'=>(∃ c,e= .returned (.int .i64 c)∧((c=0∧∃ (l2:Bs) (v2:Value) (pts2:List Nat) (nn2 ii2 bi2:Nat),ro l nn ii bi (!st) pts=ro l2 nn2 ii2 bi2 false pts2∧l2.length<l.length∧nn2≤1114111∧ii2≤257∧bi2≤324∧pts2.length≤256∧BlkL w' g 357 [.string (mk l2),v2,.int .i64 (nn2:Int),.int .i64 (ii2:Int),.int .i64 (bi2:Int),.bool true]∧w'.ownsRow (g+1) 3 1 v2 pts2.length (zo pts2))∨(c≠0∧ro l nn ii bi (!st) pts=none)))∧Below g w w':=by
 have hnum:=SI g l v nn ii bi st w hd hl hii hbi;have HNUM:=KZ9 hnum;have c3:=hd.c 3 _ rfl;have hgl:=hd.lt;have HD:=KZ9 hd;have HDL:Hid (∃ x,x=ro l nn ii bi (!st) pts):=KZ9 ⟨_,rfl⟩;obtain ⟨R,hR⟩:=HDL.out;have HR:=KZ9 hR;rw [←hR];have HOWN:=KZ9 hown;obtain ⟨m,hm⟩:=KZ6 pts.length;rw [←hm] at hpl hown;have HM:=KZ9 hm;obtain ⟨a,cp,rfl⟩:=yk hown;clear hR hown hm hnum hd HDL;go_enter Tryz.func290,Tryz.ntmps290
 go_wp2_with fail
 all_goals try omega
 refine (HNUM.out).mono ?_;rintro e w2 ⟨⟨c,rfl,hres⟩,hg2⟩;have HG2:=KZ9 hg2;clear hg2 HNUM c3;rcases hres with ⟨rfl,p,hp,hd2⟩ | ⟨hc,hnone⟩
 ·have hps:=tF l ii 1 0 bi p hp;have hdl:=dR (n:=nn) (first:= !st) (pts:=pts) hp;rw [←HR.out,←HM.out] at hdl;obtain ⟨I,l2⟩:=p;simp only at hps hdl hd2;have HO2:=KZ9 (HOWN.out.kept HG2.out (ux HOWN.out (Nat.lt_succ_self g)));have q1:=hd2.c 1 _ rfl;have q3:=hd2.c 3 _ rfl;have q5:=hd2.c 5 _ rfl;have k4:=hd2.f 4;have q4:=hd2.c 4 _ rfl;obtain ⟨D,hD⟩:=KZ6 (I - ii);rw [←hD] at hdl;have hDi:(I:Int) - (ii:Int)=(D:Int):=by omega
  have hDb:D≤1099511627776:=by omega
  have had:=fun W=>kj D (m+1) (!st) W hDb (by omega) (by omega);have hadb:=vT D (m+1) (!st) hDb;obtain ⟨bi2,hbi2⟩:∃ b2,b2=xw D (m+1) (!st):=⟨_,rfl⟩;rw [←hbi2] at hadb hdl;simp only [←hbi2] at had
  push_cast at had
  have had2:∀ (W:World) (x y:Int),x=(D:Int)→y=(m:Int)+1→Calls Tryz.prog 293 #[.int .i64 x,.int .i64 y,.bool (!st)] W fun e w'=>e= .returned (.int .i64 (bi2:Int))∧W=w':=by rintro W x y rfl rfl;exact had W
  have HAD:=KZ9 had2;obtain ⟨q,hq⟩:=KZ6 (I / (m+1));obtain ⟨r,hr⟩:=KZ6 (I % (m+1));rw [←hq,←hr] at hdl;have hrm:r≤m:=by have:=Nat.mod_lt I (show 0<m+1 by omega);omega
  have hqb:q≤1099511627776:=by have:=Nat.div_le_self I (m+1);omega
  have e2:(m:Int)+1=((m+1:Nat):Int):=by omega
  have HQI:Hid ((I:Int) / ((m:Int)+1)=(q:Int)):=KZ9 (by rw [e2,hq];rfl);have HQT:Hid ((I:Int).tdiv ((m:Int)+1)=(q:Int)):=KZ9 (by rw [Int.tdiv_eq_ediv_of_nonneg (by omega)];exact HQI.out);have HRI:Hid ((I:Int) % ((m:Int)+1)=(r:Int)):=KZ9 (by rw [e2,hr];rfl);have HRT:Hid ((I:Int).tmod ((m:Int)+1)=(r:Int)):=KZ9 (by rw [Int.tmod_eq_emod_of_nonneg (by omega)];exact HRI.out);have hpt:=fun W=>Zy (nn+q) W (by omega);obtain ⟨ok,hok⟩:=KZ6 (xX (nn+q));have hokb:Hid (ok=true→nn+q≤1114111):=KZ9 (fun h=>by rw [hok] at h;exact (of_decide_eq_true h).1);rw [←hok] at hdl;simp only [←hok] at hpt
  push_cast at hpt
  have HPT:=KZ9 hpt;have HDL2:=KZ9 hdl;have HD2:=KZ9 hd2;have hI0:I≤1099511627776:=hps.2.2;have HLS:=KZ9 hps.1;clear hdl hD had had2 hbi2 hq hr e2 hpt hok hd2 hps hp;go_upto_region 6 with fail
  all_goals try omega
  go_cut [] (fun wx=>BlkL wx g 357 [.string (mk l2),.slice a m cp,.int .i64 (nn:Int),.int .i64 (I:Int),.int .i64 (bi2:Int),.bool st]∧w2.grownBy wx (some g))
  case first =>
   go_still_tail 16,(by kernel_rfl)
   still_call ((HAD.out _ _ _ (by first | exact hDi | (rw [IntKind.wrap_i64]<;>omega) | omega) (by first | rfl | (rw [IntKind.wrap_i64]<;>omega) | omega)).mono (fun _ _ h=>⟨h.1,h.2.symm⟩))
   repeat still_step
   refine wpStill_nil ?_;change wpList _ _ _ _ _ w2.drew
   all_goals (go_wp2;go_meet;exact ⟨HD2.out.drew.set 4 (by simp) (.int .i64 (bi2:Int)),wi (tR (tQ _ _)) (xF _ g 4 (.int .i64 (bi2:Int)))⟩)
  case rest =>
  obtain ⟨hd3,hg3⟩:=hcut;clear q1 q3 q5 k4 q4 HD2 HAD;have p5:=hd3.c 5 _ rfl;have g5:=hd3.f 5;have HD3:=KZ9 hd3;have HG3:=KZ9 hg3;clear hd3 hg3;have hb5:BlkL (wc.setCell ⟨g,5,none⟩ (.bool true)) g 357 [.string (mk l2),.slice a m cp,.int .i64 (nn:Int),.int .i64 (I:Int),.int .i64 (bi2:Int),.bool true]:=HD3.out.set 5 (by simp) (.bool true);have hg5:=wi HG3.out (xF wc g 5 (.bool true));obtain ⟨w5,hw5⟩:=KZ6 (wc.setCell ⟨g,5,none⟩ (.bool true));rw [←hw5] at hb5 hg5;have HW5:=KZ9 hw5;have HB5:=KZ9 hb5;have HG5:=KZ9 hg5;clear hw5 hb5 hg5;go_upto_region 8 with fail
  all_goals try omega
  go_cut [] (fun wx=>BlkL wx g 357 [.string (mk l2),.slice a m cp,.int .i64 ((nn:Int)+(q:Int)),.int .i64 (I:Int),.int .i64 (bi2:Int),.bool true]∧w2.grownBy wx (some g))
  case first =>
   rw [←HW5.out];have p2:=HB5.out.c 2 _ rfl;have p3:=HB5.out.c 3 _ rfl;have k2:=HB5.out.f 2;have hqi:=HQI.out;have hqt:=HQT.out;have hmz:(m:Int)+1≠0:=by omega
   clear p5 g5;go_still_tail 13,(by kernel_rfl)
   all_goals (change wpList _ _ _ _ _ w5.drew)
   go_wp2
   all_goals (go_meet;exact ⟨HB5.out.drew.set 2 (by simp) (.int .i64 ((nn:Int)+(q:Int))),wi (tR HG5.out) (xF _ g 2 (.int .i64 ((nn:Int)+(q:Int))))⟩)
  case rest =>
  obtain ⟨hd6,hg6⟩:=hcut;clear p5 g5 HD3 HG3 HB5 HG5 HW5;have p3:=hd6.c 3 _ rfl;have k3:=hd6.f 3;have b7:BlkL (wc.setCell ⟨g,3,none⟩ (.int .i64 (r:Int))) g 357 [.string (mk l2),.slice a m cp,.int .i64 ((nn:Int)+(q:Int)),.int .i64 (r:Int),.int .i64 (bi2:Int),.bool true]:=hd6.set 3 (by simp) (.int .i64 (r:Int));have p2:=b7.c 2 _ rfl;have HG7:=KZ9 (wi hg6 (xF wc g 3 (.int .i64 (r:Int))));have HB7:=KZ9 b7;have hri:=HRI.out;have hrt:=HRT.out;have hmz:(m:Int)+1≠0:=by omega
  obtain ⟨w7,hw7⟩:=KZ6 (wc.setCell ⟨g,3,none⟩ (.int .i64 (r:Int)));rw [←hw7] at HG7 HB7;have HW7:=KZ9 hw7;have HO7:=KZ9 (HO2.out.kept HG7.out (ux HO2.out (Nat.lt_succ_self g)));have HBEL:=KZ9 (YP (wi HG2.out HG7.out) (Nat.le_refl _) (by omega));clear b7 hd6 hg6 hw7;cases ok
  ·have HN:=KZ9 (HDL2.out.trans (if_pos rfl));clear HDL2;go_wp2_with fail
   all_goals try omega
   refine (HPT.out _).mono ?_;rintro e w6 ⟨rfl,rfl⟩;go_wp2
   all_goals try omega
   go_ret;rw [←HW7.out];exact ⟨⟨_,rfl,.inr ⟨by decide,HN.out⟩⟩,HBEL.out⟩
  have hN1:=hokb.out rfl;have HDL3:=KZ9 (HDL2.out.trans (if_neg (by simp)));clear HDL2;by_cases h256:256<m+1
  ·have HN:=KZ9 (HDL3.out.trans (if_pos h256));have g8:decide ((256:Int)<(m:Int)+1)=true:=KZ7 (by omega);clear HDL3;go_wp2_with fail
   all_goals try omega
   refine (HPT.out _).mono ?_;rintro e w6 ⟨rfl,rfl⟩;go_wp2
   all_goals try omega
   go_ret;rw [←HW7.out];exact ⟨⟨_,rfl,.inr ⟨by decide,HN.out⟩⟩,HBEL.out⟩
  have HDL4:=KZ9 (HDL3.out.trans (if_neg h256));have g8:decide ((256:Int)<(m:Int)+1)=false:=KZ8 (by omega);clear HDL3;go_wp2_with fail
  all_goals try omega
  refine (HPT.out _).mono ?_;rintro e w6 ⟨rfl,rfl⟩;go_upto_region 14 with fail
  all_goals try omega
  go_cut [] (fun wx=>∃ v2,BlkL wx g 357 [.string (mk l2),v2,.int .i64 ((nn:Int)+(q:Int)),.int .i64 (r:Int),.int .i64 (bi2:Int),.bool true]∧wx.ownsRow (g+1) 3 1 v2 (m+1) (zo (yE pts r (nn+q)))∧Below g w wx)
  case first =>
   rw [←HW7.out];clear p3 k3 p2 hri hrt hmz;have y1:=HB7.out.c 1 _ rfl;have y2:=HB7.out.c 2 _ rfl;have y3:=HB7.out.c 3 _ rfl;have hx7:BlkL ((w7.alloc (.cells #[.int .i64 ((nn:Int)+(q:Int))] 3)).drew) w7.heap.size 3 [.int .i64 ((nn+q:Nat):Int)]:=by
    rw [Int.natCast_add];exact (BlkL.new w7 3 [.int .i64 ((nn:Int)+(q:Int))]).drew
   have ho7:((w7.alloc (.cells #[.int .i64 ((nn:Int)+(q:Int))] 3)).drew).ownsRow (g+1) 3 1 (.slice a m cp) pts.length (zo pts):=(HO7.out.alloc _).drew;have hins:=Sl (.slice a m cp) pts r (nn+q) (g+1) w7.heap.size _ ho7 (by simp;have:=HB7.out.lt;omega) (by rw [←HM.out];exact hrm) (by rw [←HM.out];omega) hx7 (by intro e;have:=(HO7.out.lt _ e).2;omega);rw [←HM.out] at hins;have HINS:=KZ9 hins;have HBX:=KZ9 (HB7.out.alloc (.cells #[.int .i64 ((nn:Int)+(q:Int))] 3)).drew;have hgw:=HB7.out.lt;have z1:∀ o,(w7.alloc o).cell? ⟨g,1,none⟩=some (.slice a m cp):=fun o=>(HB7.out.alloc o).c 1 _ rfl;have z3:∀ o,(w7.alloc o).cell? ⟨g,3,none⟩=some (.int .i64 (r:Int)):=fun o=>(HB7.out.alloc o).c 3 _ rfl;clear hins hx7 ho7
   go_region_with (go_at_call 314;refine HINS.out.mono ?_;rintro e w' ⟨⟨v',rfl,hown'⟩,hg'⟩;obtain ⟨a',c',rfl⟩:=yk hown';have hB':=HBX.out.grown hg' (fun e=>by have:=(HO7.out.lt g e.symm).1;omega);have u1:=hB'.c 1 _ rfl;have t1:=hB'.f 1)
   all_goals (go_wp2;go_meet;exact ⟨_,hB'.set 1 (by simp) _,by
    have h9:=hown'.kept (xF w' g 1 (.slice a' (m+1) c')) (ux hown' (Nat.lt_succ_self g));exact h9,((((HBEL.out.alloc (by have:=HBEL.out.size;omega) _).drew).grown hg' (by simp;have:=HBEL.out.size;omega) (fun k hk=>by have:=(HO7.out.lt k hk).1;omega)).setCell (p:=⟨g,1,none⟩) (Nat.le_refl _) _)⟩)
  case rest =>
   obtain ⟨v2,hb2,ho2,hbel2⟩:=hcut;clear p3 k3 p2 hri hrt hmz;have y3:=hb2.c 3 _ rfl;have f3:=hb2.f 3;have HFB:=KZ9 (hb2.set 3 (by simp) (.int .i64 ((r:Int)+1)));have HFO:=KZ9 (ho2.kept (xF _ g 3 (.int .i64 ((r:Int)+1))) (ux ho2 (Nat.lt_succ_self g)));have HFL:=KZ9 (hbel2.setCell (p:=⟨g,3,none⟩) (Nat.le_refl _) (.int .i64 ((r:Int)+1)));clear hb2 ho2 hbel2;go_wp2
   all_goals try omega
   go_ret;refine ⟨⟨_,rfl,.inl ⟨rfl,l2,v2,yE pts r (nn+q),nn+q,r+1,bi2,HDL4.out,HLS.out,hN1,by omega,hadb,by rw [xZ,←HM.out];omega,?_,?_⟩⟩,HFL.out⟩
   ·have h9:=HFB.out;rw [Int.natCast_add,Int.natCast_add];exact h9
   rw [xZ,←HM.out];exact HFO.out
 have HN:=KZ9 (HR.out.trans (tf h0 hnone));have hcb:(c != 0)=true:=by simpa using hc
 have hcd:Hid (c≠0):=KZ9 hc;clear hnone hc;go_wp2
 all_goals try omega
 go_ret;exact ⟨⟨_,rfl,.inr ⟨hcd.out,HN.out⟩⟩,YP HG2.out (Nat.le_refl _) (by omega)⟩
end Go.Proofs.YtbnnlkdhpifpeaaGreatDoor
namespace Go.Proofs.YtbnnlkdhpifpeaaGreatDoor
open Go.Shelf
def Tryz.lays169_ren:Go.Shelf.Ren:=⟨fun | 169=>303 | n=>n,fun | 70=>363 | 9=>9 | 0=>0 | 72=>365 | 37=>34 | 127=>389 | 3=>3 | 5=>5 | n=>n,fun | n=>n⟩
theorem Tryz.lays169:Go.Proofs.Lays.n169 Tryz.prog Tryz.lays169_ren:={
 mixed:=by kernel_rfl
 f169:=Tryz.func303.trans (congrArg some (by kernel_rfl))
 t0:=Tryz.underlying0
 a0:=Tryz.isAgg0
 z0:=Tryz.sizeOf0
 v0:=Tryz.zeroValue0
 t3:=Tryz.underlying3
 a3:=Tryz.isAgg3
 z3:=Tryz.sizeOf3
 v3:=Tryz.zeroValue3
 t9:=Tryz.underlying9
 a9:=Tryz.isAgg9
 z9:=Tryz.sizeOf9
 v9:=Tryz.zeroValue9
 t37:=Tryz.underlying34
 a37:=Tryz.isAgg34
 z37:=Tryz.sizeOf34
 v37:=Tryz.zeroValue34
 t70:=Tryz.underlying363
 a70:=Tryz.isAgg363
 z70:=Tryz.sizeOf363
 v70:=Tryz.zeroValue363
 t72:=Tryz.underlying365
 a72:=Tryz.isAgg365
 z72:=Tryz.sizeOf365
 v72:=Tryz.zeroValue365
 t127:=Tryz.underlying389
 a127:=Tryz.isAgg389
 z127:=Tryz.sizeOf389
 v127:=Tryz.zeroValue389 }
theorem Tryz.Builder_Extra_169:Builder.Extra Tryz.prog Tryz.lays169_ren:={
 sizeBuilder:=by kernel_rfl
 liesBuilder:=by kernel_rfl
 t5:=Tryz.underlying5
 a5:=Tryz.isAgg5
 z5:=Tryz.sizeOf5
 v5:=Tryz.zeroValue5
 infoByte:=by kernel_rfl
 cellsByte:=by kernel_rfl
 sizeByte:=by kernel_rfl
 neB5:=by decide }
open Go.RowKit in
open Go.RowKit in
open Go.RowKit in
theorem Tryz.Builder_String_any (B b:Nat) (l:List UInt8) (w:World) (h:Lib.IsBuilder 365 5 B b (Lib.byteCells l) w) (hBw:B≤w.heap.size) :
  Calls Tryz.prog 303 #[.pointer (some ⟨b,0,none⟩)] w fun e w'=>e= .returned (.string ⟨l.toArray⟩)∧Below B w w':=Any.Builder_String_any Tryz.lays169 Tryz.Builder_Extra_169 B b l w h hBw
open Go.RowKit in
open Go.RowKit in
def Tryz.lays156_ren:Go.Shelf.Ren:=⟨fun | 156=>271 | 165=>301 | 166=>302 | 169=>303 | 240=>320 | 241=>321 | 276=>334 | 277=>335 | n=>n,fun | 31=>43 | 9=>9 | 3=>3 | 4=>4 | 0=>0 | 20=>20 | 72=>365 | 76=>368 | 70=>363 | 37=>34 | 75=>367 | 127=>389 | 164=>399 | 5=>5 | 80=>370 | n=>n,fun | n=>n⟩
theorem Tryz.lays156:Go.Proofs.Lays.n156 Tryz.prog Tryz.lays156_ren:={
 mixed:=by kernel_rfl
 f156:=Tryz.func271.trans (congrArg some (by kernel_rfl))
 f165:=Tryz.func301.trans (congrArg some (by kernel_rfl))
 f166:=Tryz.func302.trans (congrArg some (by kernel_rfl))
 f169:=Tryz.func303.trans (congrArg some (by kernel_rfl))
 f240:=Tryz.func320.trans (congrArg some (by kernel_rfl))
 f241:=Tryz.func321.trans (congrArg some (by kernel_rfl))
 f276:=Tryz.func334.trans (congrArg some (by kernel_rfl))
 f277:=Tryz.func335.trans (congrArg some (by kernel_rfl))
 t0:=Tryz.underlying0
 a0:=Tryz.isAgg0
 z0:=Tryz.sizeOf0
 v0:=Tryz.zeroValue0
 t3:=Tryz.underlying3
 a3:=Tryz.isAgg3
 z3:=Tryz.sizeOf3
 v3:=Tryz.zeroValue3
 t4:=Tryz.underlying4
 a4:=Tryz.isAgg4
 z4:=Tryz.sizeOf4
 v4:=Tryz.zeroValue4
 t9:=Tryz.underlying9
 a9:=Tryz.isAgg9
 z9:=Tryz.sizeOf9
 v9:=Tryz.zeroValue9
 t20:=Tryz.underlying20
 a20:=Tryz.isAgg20
 z20:=Tryz.sizeOf20
 v20:=Tryz.zeroValue20
 t31:=Tryz.underlying43
 a31:=Tryz.isAgg43
 z31:=Tryz.sizeOf43
 v31:=Tryz.zeroValue43
 t37:=Tryz.underlying34
 a37:=Tryz.isAgg34
 z37:=Tryz.sizeOf34
 v37:=Tryz.zeroValue34
 t70:=Tryz.underlying363
 a70:=Tryz.isAgg363
 z70:=Tryz.sizeOf363
 v70:=Tryz.zeroValue363
 t72:=Tryz.underlying365
 a72:=Tryz.isAgg365
 z72:=Tryz.sizeOf365
 v72:=Tryz.zeroValue365
 t75:=Tryz.underlying367
 a75:=Tryz.isAgg367
 z75:=Tryz.sizeOf367
 v75:=Tryz.zeroValue367
 t76:=Tryz.underlying368
 a76:=Tryz.isAgg368
 z76:=Tryz.sizeOf368
 v76:=Tryz.zeroValue368
 t127:=Tryz.underlying389
 a127:=Tryz.isAgg389
 z127:=Tryz.sizeOf389
 v127:=Tryz.zeroValue389
 t164:=Tryz.underlying399
 a164:=Tryz.isAgg399
 z164:=Tryz.sizeOf399
 v164:=Tryz.zeroValue399 }
theorem Tryz.Builder_Extra_156:Builder.Extra Tryz.prog Tryz.lays156_ren:={
 sizeBuilder:=by kernel_rfl
 liesBuilder:=by kernel_rfl
 t5:=Tryz.underlying5
 a5:=Tryz.isAgg5
 z5:=Tryz.sizeOf5
 v5:=Tryz.zeroValue5
 infoByte:=by kernel_rfl
 cellsByte:=by kernel_rfl
 sizeByte:=by kernel_rfl
 neB5:=by decide }
open Go.RowKit in
theorem Tryz.strings_Join_none (a:Option Addr) (c:Nat) (sep:ByteArray) (w:World) :
  Calls Tryz.prog 271 #[.slice a 0 c,.string sep] w fun e w'=>e= .returned (.string ⟨#[]⟩)∧w'=w:=Any.strings_Join_none Tryz.lays156 Tryz.Builder_Extra_156 a c sep w
open Go.RowKit in
theorem Tryz.strings_Join (bk o c:Nat) (xs:List ByteArray) (sep:ByteArray) (w:World) (zj:∀ (j:Nat) x,xs[j]? =some x→w.cell? ⟨bk,o+j,none⟩=some (.string x)) (hbk:bk<w.heap.size) (hN:xs.length≤140737488355328) (hcap:xs.length≤c) (hlen:(Lib.join (xs.map (·.data.toList)) sep.data.toList).length≤140737488355328) :
  Calls Tryz.prog 271 #[.slice (some ⟨bk,o,none⟩) xs.length c,.string sep] w fun e w'=>e= .returned (.string ⟨(Lib.join (xs.map (·.data.toList)) sep.data.toList).toArray⟩)∧Below w.heap.size w w':=Any.strings_Join Tryz.lays156 Tryz.Builder_Extra_156 bk o c xs sep w zj hbk hN hcap hlen
def Tryz.lays119_ren:Go.Shelf.Ren:=⟨fun | 119=>264 | n=>n,fun | 21=>21 | 4=>4 | n=>n,fun | n=>n⟩
theorem Tryz.lays119:Go.Proofs.Lays.n119 Tryz.prog Tryz.lays119_ren:={
 mixed:=by kernel_rfl
 f119:=Tryz.func264.trans (congrArg some (by kernel_rfl))
 t4:=Tryz.underlying4
 a4:=Tryz.isAgg4
 z4:=Tryz.sizeOf4
 v4:=Tryz.zeroValue4
 t21:=Tryz.underlying21
 a21:=Tryz.isAgg21
 z21:=Tryz.sizeOf21
 v21:=Tryz.zeroValue21 }
theorem Tryz.utf8_ValidRune (r:Int) (w:World) :
  Calls Tryz.prog 264 #[.int .i32 r] w fun e w'=>e= .returned (.bool (Lib.validRune r))∧w'=w:=Any.utf8_ValidRune Tryz.lays119 r w
def Tryz.lays125_ren:Go.Shelf.Ren:=⟨fun | 125=>117 | 128=>186 | 129=>187 | n=>n,fun | 46=>213 | 3=>3 | 51=>94 | 53=>152 | 4=>4 | 5=>5 | 9=>9 | n=>n,fun | n=>n⟩
theorem Tryz.lays125:Go.Proofs.Lays.n125 Tryz.prog Tryz.lays125_ren:={
 mixed:=by kernel_rfl
 f125:=Tryz.func117.trans (congrArg some (by kernel_rfl))
 f128:=Tryz.func186.trans (congrArg some (by kernel_rfl))
 f129:=Tryz.func187.trans (congrArg some (by kernel_rfl))
 t3:=Tryz.underlying3
 a3:=Tryz.isAgg3
 z3:=Tryz.sizeOf3
 v3:=Tryz.zeroValue3
 t4:=Tryz.underlying4
 a4:=Tryz.isAgg4
 z4:=Tryz.sizeOf4
 v4:=Tryz.zeroValue4
 t5:=Tryz.underlying5
 a5:=Tryz.isAgg5
 z5:=Tryz.sizeOf5
 v5:=Tryz.zeroValue5
 t9:=Tryz.underlying9
 a9:=Tryz.isAgg9
 z9:=Tryz.sizeOf9
 v9:=Tryz.zeroValue9
 t46:=Tryz.underlying213
 a46:=Tryz.isAgg213
 z46:=Tryz.sizeOf213
 v46:=Tryz.zeroValue213
 t51:=Tryz.underlying94
 a51:=Tryz.isAgg94
 z51:=Tryz.sizeOf94
 v51:=Tryz.zeroValue94
 t53:=Tryz.underlying152
 a53:=Tryz.isAgg152
 z53:=Tryz.sizeOf152
 v53:=Tryz.zeroValue152 }
theorem Tryz.bits_Len (x:Int) (w:World) (h0:0≤x) (h1:x≤18446744073709551615) :
  Calls Tryz.prog 117 #[.int .u64 x] w fun e w'=>e= .returned (.int .i64 (Lib.bitLen x.toNat))∧w'=w:=Any.bits_Len Tryz.lays125 x w h0 h1
def Tryz.lays137_ren:Go.Shelf.Ren:=⟨fun | 137=>202 | 217=>263 | 266=>296 | n=>n,fun | 9=>9 | 5=>5 | 3=>3 | n=>n,fun | n=>n⟩
theorem Tryz.lays137:Go.Proofs.Lays.n137 Tryz.prog Tryz.lays137_ren:={
 mixed:=by kernel_rfl
 f137:=Tryz.func202.trans (congrArg some (by kernel_rfl))
 f217:=Tryz.func263.trans (congrArg some (by kernel_rfl))
 f266:=Tryz.func296.trans (congrArg some (by kernel_rfl))
 t3:=Tryz.underlying3
 a3:=Tryz.isAgg3
 z3:=Tryz.sizeOf3
 v3:=Tryz.zeroValue3
 t5:=Tryz.underlying5
 a5:=Tryz.isAgg5
 z5:=Tryz.sizeOf5
 v5:=Tryz.zeroValue5
 t9:=Tryz.underlying9
 a9:=Tryz.isAgg9
 z9:=Tryz.sizeOf9
 v9:=Tryz.zeroValue9 }
open Go.RowKit in
theorem Tryz.strings_IndexByte (s:ByteArray) (c:Int) (w:World) :
  Calls Tryz.prog 202 #[.string s,.int .u8 c] w fun e w'=>e= .returned (.int .i64 (Lib.indexByte s.data.toList c.toNat.toUInt8))∧w'=w:=Any.strings_IndexByte Tryz.lays137 s c w
open Go.RowKit in
def Tryz.lays103_ren:Go.Shelf.Ren:=⟨fun | 103=>138 | 210=>203 | 206=>208 | n=>n,fun | 9=>9 | 4=>4 | 24=>107 | 3=>3 | n=>n,fun | n=>n⟩
theorem Tryz.lays103:Go.Proofs.Lays.n103 Tryz.prog Tryz.lays103_ren:={
 mixed:=by kernel_rfl
 f103:=Tryz.func138.trans (congrArg some (by kernel_rfl))
 f206:=Tryz.func208.trans (congrArg some (by kernel_rfl))
 f210:=Tryz.func203.trans (congrArg some (by kernel_rfl))
 t3:=Tryz.underlying3
 a3:=Tryz.isAgg3
 z3:=Tryz.sizeOf3
 v3:=Tryz.zeroValue3
 t4:=Tryz.underlying4
 a4:=Tryz.isAgg4
 z4:=Tryz.sizeOf4
 v4:=Tryz.zeroValue4
 t9:=Tryz.underlying9
 a9:=Tryz.isAgg9
 z9:=Tryz.sizeOf9
 v9:=Tryz.zeroValue9
 t24:=Tryz.underlying107
 a24:=Tryz.isAgg107
 z24:=Tryz.sizeOf107
 v24:=Tryz.zeroValue107 }
open Go.RowKit in
theorem Tryz.strings_CutPrefix (s p:ByteArray) (w:World) :
  Calls Tryz.prog 138 #[.string s,.string p] w fun e w'=>e= .returned (.tuple #[.string ⟨(Lib.trimPrefix s.data.toList p.data.toList).toArray⟩,.bool (Lib.hasPrefix s.data.toList p.data.toList)])∧w'=w:=Any.strings_CutPrefix Tryz.lays103 s p w
open Go.RowKit in
def Tryz.lays122_ren:Go.Shelf.Ren:=⟨fun | 122=>120 | 215=>190 | n=>n,fun | 3=>3 | 4=>4 | n=>n,fun | n=>n⟩
theorem Tryz.lays122:Go.Proofs.Lays.n122 Tryz.prog Tryz.lays122_ren:={
 mixed:=by kernel_rfl
 f122:=Tryz.func120.trans (congrArg some (by kernel_rfl))
 f215:=Tryz.func190.trans (congrArg some (by kernel_rfl))
 t3:=Tryz.underlying3
 a3:=Tryz.isAgg3
 z3:=Tryz.sizeOf3
 v3:=Tryz.zeroValue3
 t4:=Tryz.underlying4
 a4:=Tryz.isAgg4
 z4:=Tryz.sizeOf4
 v4:=Tryz.zeroValue4 }
open Go.RowKit in
theorem Tryz.cmp_Compare_int (x y:Int) (w:World) :
  Calls Tryz.prog 120 #[.int .i64 x,.int .i64 y] w fun e w'=>e= .returned (.int .i64 (Lib.compareInt x y))∧w'=w:=Any.cmp_Compare_int Tryz.lays122 x y w
open Go.RowKit in
open Go.RowKit in
open Go.RowKit in
open Go.RowKit in
open Go.RowKit in
open Go.RowKit in
def Tryz.lays195_ren:Go.Shelf.Ren:=⟨fun | 195=>300 | n=>n,fun | 9=>9 | 3=>3 | 0=>0 | 4=>4 | n=>n,fun | n=>n⟩
theorem Tryz.lays195:Go.Proofs.Lays.n195 Tryz.prog Tryz.lays195_ren:={
 mixed:=by kernel_rfl
 f195:=Tryz.func300.trans (congrArg some (by kernel_rfl))
 t0:=Tryz.underlying0
 a0:=Tryz.isAgg0
 z0:=Tryz.sizeOf0
 v0:=Tryz.zeroValue0
 t3:=Tryz.underlying3
 a3:=Tryz.isAgg3
 z3:=Tryz.sizeOf3
 v3:=Tryz.zeroValue3
 t4:=Tryz.underlying4
 a4:=Tryz.isAgg4
 z4:=Tryz.sizeOf4
 v4:=Tryz.zeroValue4
 t9:=Tryz.underlying9
 a9:=Tryz.isAgg9
 z9:=Tryz.sizeOf9
 v9:=Tryz.zeroValue9 }
open Go.RowKit in
theorem Tryz.utf8_RuneCountInString (s:ByteArray) (w:World) (hs:s.size<9223372036854775807) :
  Calls Tryz.prog 300 #[.string s] w fun e w'=>e= .returned (.int .i64 (Lib.runeCount s))∧∃ pos,w'=w.iter s pos:=Any.utf8_RuneCountInString Tryz.lays195 s w hs
open Go.RowKit in
open Go.RowKit in
open Go.Lib in
open Go.Lib in
open Go.Lib in
open Go.Lib in
open Go.RowKit Go.Sort Go.Lib in
open Go.RowKit Go.Sort Go.Lib in
open Go.RowKit Go.Sort Go.Lib in
open Go.RowKit Go.Sort Go.Lib in
open Go.RowKit Go.Sort Go.Lib in
def Tryz.laysM171_ren:Go.Shelf.Ren:=⟨fun | 171=>226 | 243=>280 | 246=>307 | 283=>322 | 284=>323 | 285=>324 | 286=>325 | 129=>187 | 317=>336 | 318=>337 | 319=>338 | 320=>339 | 337=>341 | 338=>342 | n=>n,fun | 3=>3 | 9=>9 | 2=>2 | 4=>4 | 171=>390 | 0=>0 | 53=>152 | 37=>34 | 5=>5 | 173=>392 | 212=>402 | 51=>94 | 20=>20 | 213=>403 | 46=>213 | 232=>405 | 233=>227 | n=>n,fun | 17=>3 | 18=>4 | 19=>5 | n=>n⟩
theorem Tryz.laysM171:Go.Proofs.LaysM.n171 Tryz.prog Tryz.laysM171_ren:={
 mixed:=by kernel_rfl
 f129:=Tryz.func187.trans (congrArg some (by kernel_rfl))
 f171:=Tryz.func226.trans (congrArg some (by kernel_rfl))
 f243:=Tryz.func280.trans (congrArg some (by kernel_rfl))
 f246:=Tryz.func307.trans (congrArg some (by kernel_rfl))
 f283:=Tryz.func322.trans (congrArg some (by kernel_rfl))
 f284:=Tryz.func323.trans (congrArg some (by kernel_rfl))
 f285:=Tryz.func324.trans (congrArg some (by kernel_rfl))
 f286:=Tryz.func325.trans (congrArg some (by kernel_rfl))
 f317:=Tryz.func336.trans (congrArg some (by kernel_rfl))
 f318:=Tryz.func337.trans (congrArg some (by kernel_rfl))
 f319:=Tryz.func338.trans (congrArg some (by kernel_rfl))
 f320:=Tryz.func339.trans (congrArg some (by kernel_rfl))
 f337:=Tryz.func341.trans (congrArg some (by kernel_rfl))
 f338:=Tryz.func342.trans (congrArg some (by kernel_rfl))
 t0:=Tryz.underlying0
 a0:=Tryz.isAgg0
 z0:=Tryz.sizeOf0
 v0:=Tryz.zeroValue0
 t2:=Tryz.underlying2
 a2:=Tryz.isAgg2
 z2:=Tryz.sizeOf2
 v2:=Tryz.zeroValue2
 t3:=Tryz.underlying3
 a3:=Tryz.isAgg3
 z3:=Tryz.sizeOf3
 v3:=Tryz.zeroValue3
 t4:=Tryz.underlying4
 a4:=Tryz.isAgg4
 z4:=Tryz.sizeOf4
 v4:=Tryz.zeroValue4
 t5:=Tryz.underlying5
 a5:=Tryz.isAgg5
 z5:=Tryz.sizeOf5
 v5:=Tryz.zeroValue5
 t9:=Tryz.underlying9
 a9:=Tryz.isAgg9
 z9:=Tryz.sizeOf9
 v9:=Tryz.zeroValue9
 t20:=Tryz.underlying20
 a20:=Tryz.isAgg20
 z20:=Tryz.sizeOf20
 v20:=Tryz.zeroValue20
 t37:=Tryz.underlying34
 a37:=Tryz.isAgg34
 z37:=Tryz.sizeOf34
 v37:=Tryz.zeroValue34
 t46:=Tryz.underlying213
 a46:=Tryz.isAgg213
 z46:=Tryz.sizeOf213
 v46:=Tryz.zeroValue213
 t51:=Tryz.underlying94
 a51:=Tryz.isAgg94
 z51:=Tryz.sizeOf94
 v51:=Tryz.zeroValue94
 t53:=Tryz.underlying152
 a53:=Tryz.isAgg152
 z53:=Tryz.sizeOf152
 v53:=Tryz.zeroValue152
 t171:=Tryz.underlying390
 a171:=Tryz.isAgg390
 z171:=Tryz.sizeOf390
 v171:=Tryz.zeroValue390
 t173:=Tryz.underlying392
 a173:=Tryz.isAgg392
 z173:=Tryz.sizeOf392
 v173:=Tryz.zeroValue392
 t212:=Tryz.underlying402
 a212:=Tryz.isAgg402
 z212:=Tryz.sizeOf402
 v212:=Tryz.zeroValue402
 t213:=Tryz.underlying403
 a213:=Tryz.isAgg403
 z213:=Tryz.sizeOf403
 t232:=Tryz.underlying405
 a232:=Tryz.isAgg405
 z232:=Tryz.sizeOf405
 v232:=Tryz.zeroValue405
 t233:=Tryz.underlying227
 a233:=Tryz.isAgg227
 z233:=Tryz.sizeOf227
 v233:=Tryz.zeroValue227
 g17:=by kernel_rfl
 g18:=by kernel_rfl
 g19:=by kernel_rfl
 i0:=by kernel_rfl
 i2:=by kernel_rfl
 i3:=by kernel_rfl
 i4:=by kernel_rfl
 i5:=by kernel_rfl
 i9:=by kernel_rfl
 i20:=by kernel_rfl
 i37:=by kernel_rfl
 i46:=by kernel_rfl
 i51:=by kernel_rfl
 i53:=by kernel_rfl
 i171:=by kernel_rfl
 i173:=by kernel_rfl
 i212:=by kernel_rfl
 i232:=by kernel_rfl
 i233:=by kernel_rfl
 m17:=by kernel_rfl
 m18:=by kernel_rfl
 m19:=by kernel_rfl }
open Go.RowKit Go.Sort Go.Lib in
theorem Tryz.strconv_Itoa (n : Int) (h0 : -9223372036854775808 ≤ n) (h1 : n ≤ 9223372036854775807) (w : World) (htab : Lib.TabIs Tryz.prog w "internal/strconv.uint64pow10" .u64 Lib.pow10Tab) :
  Calls Tryz.prog 226 #[.int .i64 n] w fun e w'=>e= .returned (.string ⟨(Lib.itoa n).toArray⟩)∧∃ k os,w'=grow (w.drewN k) os:=Any.strconv_Itoa Tryz.laysM171 n h0 h1 w htab
open Go.RowKit Go.Sort Go.Lib in
open Go.RowKit Go.Lib in
open Go.RowKit Go.Lib in
open Go.RowKit Go.Lib in
open Go.RowKit Go.Lib in
open Go.RowKit Go.Lib in
open Go.RowKit Go.Lib in
def Tryz.lays143_ren:Go.Shelf.Ren:=⟨fun | 143=>250 | 219=>213 | 217=>263 | 225=>266 | 224=>265 | 267=>274 | 266=>296 | 314=>304 | n=>n,fun | 9=>9 | 3=>3 | 4=>4 | 5=>5 | 46=>213 | 146=>371 | 51=>94 | n=>n,fun | 1=>0 | n=>n⟩
theorem Tryz.lays143:Go.Proofs.Lays.n143 Tryz.prog Tryz.lays143_ren:={
 mixed:=by kernel_rfl
 f143:=Tryz.func250.trans (congrArg some (by kernel_rfl))
 f217:=Tryz.func263.trans (congrArg some (by kernel_rfl))
 f219:=Tryz.func213.trans (congrArg some (by kernel_rfl))
 f224:=Tryz.func265.trans (congrArg some (by kernel_rfl))
 f225:=Tryz.func266.trans (congrArg some (by kernel_rfl))
 f266:=Tryz.func296.trans (congrArg some (by kernel_rfl))
 f267:=Tryz.func274.trans (congrArg some (by kernel_rfl))
 f314:=Tryz.func304.trans (congrArg some (by kernel_rfl))
 t3:=Tryz.underlying3
 a3:=Tryz.isAgg3
 z3:=Tryz.sizeOf3
 v3:=Tryz.zeroValue3
 t4:=Tryz.underlying4
 a4:=Tryz.isAgg4
 z4:=Tryz.sizeOf4
 v4:=Tryz.zeroValue4
 t5:=Tryz.underlying5
 a5:=Tryz.isAgg5
 z5:=Tryz.sizeOf5
 v5:=Tryz.zeroValue5
 t9:=Tryz.underlying9
 a9:=Tryz.isAgg9
 z9:=Tryz.sizeOf9
 v9:=Tryz.zeroValue9
 t46:=Tryz.underlying213
 a46:=Tryz.isAgg213
 z46:=Tryz.sizeOf213
 v46:=Tryz.zeroValue213
 t51:=Tryz.underlying94
 a51:=Tryz.isAgg94
 z51:=Tryz.sizeOf94
 v51:=Tryz.zeroValue94
 t146:=Tryz.underlying371
 a146:=Tryz.isAgg371
 z146:=Tryz.sizeOf371
 v146:=Tryz.zeroValue371
 g1:=by kernel_rfl }
open Go.RowKit Go.Lib in
theorem Tryz.strings_Index_one (s:ByteArray) (c:UInt8) (w:World) :
  Calls Tryz.prog 250 #[.string s,.string ⟨#[c]⟩] w fun e w'=>e= .returned (.int .i64 (Lib.indexByte s.data.toList c))∧w'=w:=Any.strings_Index_one Tryz.lays143 s c w
open Go.RowKit Go.Lib in
open Go.RowKit Go.Lib in
def Tryz.lays145_ren:Go.Shelf.Ren:=⟨fun | 145=>77 | 220=>144 | 219=>213 | 217=>263 | 225=>266 | 224=>265 | 267=>274 | 266=>296 | 314=>304 | n=>n,fun | 9=>9 | 4=>4 | 59=>164 | 3=>3 | 5=>5 | 46=>213 | 146=>371 | 51=>94 | n=>n,fun | 1=>0 | n=>n⟩
theorem Tryz.lays145:Go.Proofs.Lays.n145 Tryz.prog Tryz.lays145_ren:={
 mixed:=by kernel_rfl
 f145:=Tryz.func77.trans (congrArg some (by kernel_rfl))
 f217:=Tryz.func263.trans (congrArg some (by kernel_rfl))
 f219:=Tryz.func213.trans (congrArg some (by kernel_rfl))
 f220:=Tryz.func144.trans (congrArg some (by kernel_rfl))
 f224:=Tryz.func265.trans (congrArg some (by kernel_rfl))
 f225:=Tryz.func266.trans (congrArg some (by kernel_rfl))
 f266:=Tryz.func296.trans (congrArg some (by kernel_rfl))
 f267:=Tryz.func274.trans (congrArg some (by kernel_rfl))
 f314:=Tryz.func304.trans (congrArg some (by kernel_rfl))
 t3:=Tryz.underlying3
 a3:=Tryz.isAgg3
 z3:=Tryz.sizeOf3
 v3:=Tryz.zeroValue3
 t4:=Tryz.underlying4
 a4:=Tryz.isAgg4
 z4:=Tryz.sizeOf4
 v4:=Tryz.zeroValue4
 t5:=Tryz.underlying5
 a5:=Tryz.isAgg5
 z5:=Tryz.sizeOf5
 v5:=Tryz.zeroValue5
 t9:=Tryz.underlying9
 a9:=Tryz.isAgg9
 z9:=Tryz.sizeOf9
 v9:=Tryz.zeroValue9
 t46:=Tryz.underlying213
 a46:=Tryz.isAgg213
 z46:=Tryz.sizeOf213
 v46:=Tryz.zeroValue213
 t51:=Tryz.underlying94
 a51:=Tryz.isAgg94
 z51:=Tryz.sizeOf94
 v51:=Tryz.zeroValue94
 t59:=Tryz.underlying164
 a59:=Tryz.isAgg164
 z59:=Tryz.sizeOf164
 v59:=Tryz.zeroValue164
 t146:=Tryz.underlying371
 a146:=Tryz.isAgg371
 z146:=Tryz.sizeOf371
 v146:=Tryz.zeroValue371
 g1:=by kernel_rfl }
open Go.RowKit Go.Lib in
theorem Tryz.strings_Cut (s sep:ByteArray) (m:Int) (w:World) (hs:s.size<4294967281) (hm:w.cell? ⟨0,0,none⟩=some (.int .i64 m)) :
  Calls Tryz.prog 77 #[.string s,.string sep] w fun e w'=>e= .returned (.tuple #[.string ⟨(Lib.cut s.data.toList sep.data.toList).1.toArray⟩,.string ⟨(Lib.cut s.data.toList sep.data.toList).2.1.toArray⟩,.bool (Lib.cut s.data.toList sep.data.toList).2.2])∧∃ n,w'=w.drewN n:=Any.strings_Cut Tryz.lays145 s sep m w hs hm
open Go.RowKit Go.Lib in
open Go.RowKit Go.Lib in
open Go.RowKit Go.Lib in
open Go.RowKit Go.Lib in
open Go.RowKit Go.Lib in
open Go.RowKit Go.Lib in
open Go.RowKit Go.Lib in
def Tryz.lays190_ren:Go.Shelf.Ren:=⟨fun | 190=>102 | 125=>117 | 258=>167 | 128=>186 | 129=>187 | 302=>229 | 303=>230 | 304=>231 | 305=>232 | 306=>233 | 307=>234 | 308=>235 | 309=>236 | 310=>237 | 333=>282 | 329=>254 | 330=>255 | 334=>283 | 335=>284 | 336=>189 | 344=>309 | n=>n,fun | 31=>43 | 9=>9 | 3=>3 | 46=>213 | 0=>0 | 51=>94 | 53=>152 | 4=>4 | 183=>267 | 182=>266 | 131=>77 | 5=>5 | 218=>323 | 222=>327 | 228=>359 | 229=>303 | n=>n,fun | n=>n⟩
theorem Tryz.lays190:Go.Proofs.Lays.n190 Tryz.prog Tryz.lays190_ren:={
 mixed:=by kernel_rfl
 f125:=Tryz.func117.trans (congrArg some (by kernel_rfl))
 f128:=Tryz.func186.trans (congrArg some (by kernel_rfl))
 f129:=Tryz.func187.trans (congrArg some (by kernel_rfl))
 f190:=Tryz.func102.trans (congrArg some (by kernel_rfl))
 f258:=Tryz.func167.trans (congrArg some (by kernel_rfl))
 f302:=Tryz.func229.trans (congrArg some (by kernel_rfl))
 f303:=Tryz.func230.trans (congrArg some (by kernel_rfl))
 f304:=Tryz.func231.trans (congrArg some (by kernel_rfl))
 f305:=Tryz.func232.trans (congrArg some (by kernel_rfl))
 f306:=Tryz.func233.trans (congrArg some (by kernel_rfl))
 f307:=Tryz.func234.trans (congrArg some (by kernel_rfl))
 f308:=Tryz.func235.trans (congrArg some (by kernel_rfl))
 f309:=Tryz.func236.trans (congrArg some (by kernel_rfl))
 f310:=Tryz.func237.trans (congrArg some (by kernel_rfl))
 f329:=Tryz.func254.trans (congrArg some (by kernel_rfl))
 f330:=Tryz.func255.trans (congrArg some (by kernel_rfl))
 f333:=Tryz.func282.trans (congrArg some (by kernel_rfl))
 f334:=Tryz.func283.trans (congrArg some (by kernel_rfl))
 f335:=Tryz.func284.trans (congrArg some (by kernel_rfl))
 f336:=Tryz.func189.trans (congrArg some (by kernel_rfl))
 f344:=Tryz.func309.trans (congrArg some (by kernel_rfl))
 t0:=Tryz.underlying0
 a0:=Tryz.isAgg0
 z0:=Tryz.sizeOf0
 v0:=Tryz.zeroValue0
 t3:=Tryz.underlying3
 a3:=Tryz.isAgg3
 z3:=Tryz.sizeOf3
 v3:=Tryz.zeroValue3
 t4:=Tryz.underlying4
 a4:=Tryz.isAgg4
 z4:=Tryz.sizeOf4
 v4:=Tryz.zeroValue4
 t5:=Tryz.underlying5
 a5:=Tryz.isAgg5
 z5:=Tryz.sizeOf5
 v5:=Tryz.zeroValue5
 t9:=Tryz.underlying9
 a9:=Tryz.isAgg9
 z9:=Tryz.sizeOf9
 v9:=Tryz.zeroValue9
 t31:=Tryz.underlying43
 a31:=Tryz.isAgg43
 z31:=Tryz.sizeOf43
 v31:=Tryz.zeroValue43
 t46:=Tryz.underlying213
 a46:=Tryz.isAgg213
 z46:=Tryz.sizeOf213
 v46:=Tryz.zeroValue213
 t51:=Tryz.underlying94
 a51:=Tryz.isAgg94
 z51:=Tryz.sizeOf94
 v51:=Tryz.zeroValue94
 t53:=Tryz.underlying152
 a53:=Tryz.isAgg152
 z53:=Tryz.sizeOf152
 v53:=Tryz.zeroValue152
 t131:=Tryz.underlying77
 a131:=Tryz.isAgg77
 z131:=Tryz.sizeOf77
 v131:=Tryz.zeroValue77
 t182:=Tryz.underlying266
 a182:=Tryz.isAgg266
 z182:=Tryz.sizeOf266
 v182:=Tryz.zeroValue266
 t183:=Tryz.underlying267
 a183:=Tryz.isAgg267
 z183:=Tryz.sizeOf267
 v183:=Tryz.zeroValue267
 t218:=Tryz.underlying323
 a218:=Tryz.isAgg323
 z218:=Tryz.sizeOf323
 v218:=Tryz.zeroValue323
 t222:=Tryz.underlying327
 a222:=Tryz.isAgg327
 z222:=Tryz.sizeOf327
 v222:=Tryz.zeroValue327
 t228:=Tryz.underlying359
 a228:=Tryz.isAgg359
 z228:=Tryz.sizeOf359
 v228:=Tryz.zeroValue359
 t229:=Tryz.underlying303
 a229:=Tryz.isAgg303
 z229:=Tryz.sizeOf303
 v229:=Tryz.zeroValue303 }
open Go.Sort Go.RowKit in
open Go.RowKit Go.Lib in
def Tryz.lays149_ren:Go.Shelf.Ren:=⟨fun | 149=>118 | 222=>188 | n=>n,fun | 9=>9 | 5=>5 | 3=>3 | 4=>4 | n=>n,fun | n=>n⟩
theorem Tryz.lays149:Go.Proofs.Lays.n149 Tryz.prog Tryz.lays149_ren:={
 mixed:=by kernel_rfl
 f149:=Tryz.func118.trans (congrArg some (by kernel_rfl))
 f222:=Tryz.func188.trans (congrArg some (by kernel_rfl))
 t3:=Tryz.underlying3
 a3:=Tryz.isAgg3
 z3:=Tryz.sizeOf3
 v3:=Tryz.zeroValue3
 t4:=Tryz.underlying4
 a4:=Tryz.isAgg4
 z4:=Tryz.sizeOf4
 v4:=Tryz.zeroValue4
 t5:=Tryz.underlying5
 a5:=Tryz.isAgg5
 z5:=Tryz.sizeOf5
 v5:=Tryz.zeroValue5
 t9:=Tryz.underlying9
 a9:=Tryz.isAgg9
 z9:=Tryz.sizeOf9
 v9:=Tryz.zeroValue9 }
open Go.RowKit Go.Lib in
theorem Tryz.strings_LastIndexByte (s:ByteArray) (c:Int) (hs:s.size<4611686018427387904) (w:World) :
  Calls Tryz.prog 118 #[.string s,.int .u8 c] w fun e w'=>e= .returned (.int .i64 (Lib.lastIndexByte s c))∧w'=w:=Any.strings_LastIndexByte Tryz.lays149 s c hs w
open Go.RowKit Go.Lib in
def Tryz.lays99_ren:Go.Shelf.Ren:=⟨fun | 99=>140 | 206=>208 | n=>n,fun | 9=>9 | 4=>4 | 3=>3 | n=>n,fun | n=>n⟩
theorem Tryz.lays99:Go.Proofs.Lays.n99 Tryz.prog Tryz.lays99_ren:={
 mixed:=by kernel_rfl
 f99:=Tryz.func140.trans (congrArg some (by kernel_rfl))
 f206:=Tryz.func208.trans (congrArg some (by kernel_rfl))
 t3:=Tryz.underlying3
 a3:=Tryz.isAgg3
 z3:=Tryz.sizeOf3
 v3:=Tryz.zeroValue3
 t4:=Tryz.underlying4
 a4:=Tryz.isAgg4
 z4:=Tryz.sizeOf4
 v4:=Tryz.zeroValue4
 t9:=Tryz.underlying9
 a9:=Tryz.isAgg9
 z9:=Tryz.sizeOf9
 v9:=Tryz.zeroValue9 }
open Go.RowKit Go.Lib in
theorem Tryz.strings_HasPrefix (s p:ByteArray) (w:World) :
  Calls Tryz.prog 140 #[.string s,.string p] w fun e w'=>e= .returned (.bool (Lib.hasPrefix s.data.toList p.data.toList))∧w'=w:=Any.strings_HasPrefix Tryz.lays99 s p w
open Go.RowKit Go.Lib in
def Tryz.lays100_ren:Go.Shelf.Ren:=⟨fun | 100=>279 | 207=>273 | n=>n,fun | 9=>9 | 4=>4 | 3=>3 | n=>n,fun | n=>n⟩
theorem Tryz.lays100:Go.Proofs.Lays.n100 Tryz.prog Tryz.lays100_ren:={
 mixed:=by kernel_rfl
 f100:=Tryz.func279.trans (congrArg some (by kernel_rfl))
 f207:=Tryz.func273.trans (congrArg some (by kernel_rfl))
 t3:=Tryz.underlying3
 a3:=Tryz.isAgg3
 z3:=Tryz.sizeOf3
 v3:=Tryz.zeroValue3
 t4:=Tryz.underlying4
 a4:=Tryz.isAgg4
 z4:=Tryz.sizeOf4
 v4:=Tryz.zeroValue4
 t9:=Tryz.underlying9
 a9:=Tryz.isAgg9
 z9:=Tryz.sizeOf9
 v9:=Tryz.zeroValue9 }
open Go.RowKit Go.Lib in
theorem Tryz.strings_HasSuffix (s p:ByteArray) (w:World) (hs:s.size≤9223372036854775807) :
  Calls Tryz.prog 279 #[.string s,.string p] w fun e w'=>e= .returned (.bool (Lib.hasSuffix s.data.toList p.data.toList))∧w'=w:=Any.strings_HasSuffix Tryz.lays100 s p w hs
open Go.RowKit Go.Lib in
def Tryz.lays101_ren:Go.Shelf.Ren:=⟨fun | 101=>211 | 208=>272 | 206=>208 | n=>n,fun | 9=>9 | 4=>4 | 3=>3 | n=>n,fun | n=>n⟩
theorem Tryz.lays101:Go.Proofs.Lays.n101 Tryz.prog Tryz.lays101_ren:={
 mixed:=by kernel_rfl
 f101:=Tryz.func211.trans (congrArg some (by kernel_rfl))
 f206:=Tryz.func208.trans (congrArg some (by kernel_rfl))
 f208:=Tryz.func272.trans (congrArg some (by kernel_rfl))
 t3:=Tryz.underlying3
 a3:=Tryz.isAgg3
 z3:=Tryz.sizeOf3
 v3:=Tryz.zeroValue3
 t4:=Tryz.underlying4
 a4:=Tryz.isAgg4
 z4:=Tryz.sizeOf4
 v4:=Tryz.zeroValue4
 t9:=Tryz.underlying9
 a9:=Tryz.isAgg9
 z9:=Tryz.sizeOf9
 v9:=Tryz.zeroValue9 }
open Go.RowKit Go.Lib in
theorem Tryz.strings_TrimPrefix (s p:ByteArray) (w:World) :
  Calls Tryz.prog 211 #[.string s,.string p] w fun e w'=>e= .returned (.string ⟨(Lib.trimPrefix s.data.toList p.data.toList).toArray⟩)∧w'=w:=Any.strings_TrimPrefix Tryz.lays101 s p w
open Go.RowKit Go.Lib in
def Tryz.lays102_ren:Go.Shelf.Ren:=⟨fun | 102=>143 | 209=>212 | 207=>273 | n=>n,fun | 9=>9 | 4=>4 | 3=>3 | n=>n,fun | n=>n⟩
theorem Tryz.lays102:Go.Proofs.Lays.n102 Tryz.prog Tryz.lays102_ren:={
 mixed:=by kernel_rfl
 f102:=Tryz.func143.trans (congrArg some (by kernel_rfl))
 f207:=Tryz.func273.trans (congrArg some (by kernel_rfl))
 f209:=Tryz.func212.trans (congrArg some (by kernel_rfl))
 t3:=Tryz.underlying3
 a3:=Tryz.isAgg3
 z3:=Tryz.sizeOf3
 v3:=Tryz.zeroValue3
 t4:=Tryz.underlying4
 a4:=Tryz.isAgg4
 z4:=Tryz.sizeOf4
 v4:=Tryz.zeroValue4
 t9:=Tryz.underlying9
 a9:=Tryz.isAgg9
 z9:=Tryz.sizeOf9
 v9:=Tryz.zeroValue9 }
open Go.RowKit Go.Lib in
theorem Tryz.strings_TrimSuffix (s p:ByteArray) (w:World) (hs:s.size≤9223372036854775807) :
  Calls Tryz.prog 143 #[.string s,.string p] w fun e w'=>e= .returned (.string ⟨(Lib.trimSuffix s.data.toList p.data.toList).toArray⟩)∧w'=w:=Any.strings_TrimSuffix Tryz.lays102 s p w hs
open Go.RowKit Go.Lib in
open Go.RowKit Go.Lib in
def Tryz.lays146_ren:Go.Shelf.Ren:=⟨fun | 146=>247 | 221=>288 | 268=>311 | 138=>312 | 143=>250 | 195=>300 | 197=>249 | 218=>326 | 219=>213 | 260=>289 | 217=>263 | 225=>266 | 224=>265 | 267=>274 | 266=>296 | 314=>304 | n=>n,fun | 9=>9 | 31=>43 | 3=>3 | 4=>4 | 0=>0 | 105=>321 | 21=>21 | 5=>5 | 46=>213 | 119=>377 | 139=>380 | 138=>379 | 146=>371 | 51=>94 | n=>n,fun | 1=>0 | 3=>1 | 4=>2 | n=>n⟩
theorem Tryz.lays146:Go.Proofs.Lays.n146 Tryz.prog Tryz.lays146_ren:={
 mixed:=by kernel_rfl
 f138:=Tryz.func312.trans (congrArg some (by kernel_rfl))
 f143:=Tryz.func250.trans (congrArg some (by kernel_rfl))
 f146:=Tryz.func247.trans (congrArg some (by kernel_rfl))
 f195:=Tryz.func300.trans (congrArg some (by kernel_rfl))
 f197:=Tryz.func249.trans (congrArg some (by kernel_rfl))
 f217:=Tryz.func263.trans (congrArg some (by kernel_rfl))
 f218:=Tryz.func326.trans (congrArg some (by kernel_rfl))
 f219:=Tryz.func213.trans (congrArg some (by kernel_rfl))
 f221:=Tryz.func288.trans (congrArg some (by kernel_rfl))
 f224:=Tryz.func265.trans (congrArg some (by kernel_rfl))
 f225:=Tryz.func266.trans (congrArg some (by kernel_rfl))
 f260:=Tryz.func289.trans (congrArg some (by kernel_rfl))
 f266:=Tryz.func296.trans (congrArg some (by kernel_rfl))
 f267:=Tryz.func274.trans (congrArg some (by kernel_rfl))
 f268:=Tryz.func311.trans (congrArg some (by kernel_rfl))
 f314:=Tryz.func304.trans (congrArg some (by kernel_rfl))
 t0:=Tryz.underlying0
 a0:=Tryz.isAgg0
 z0:=Tryz.sizeOf0
 v0:=Tryz.zeroValue0
 t3:=Tryz.underlying3
 a3:=Tryz.isAgg3
 z3:=Tryz.sizeOf3
 v3:=Tryz.zeroValue3
 t4:=Tryz.underlying4
 a4:=Tryz.isAgg4
 z4:=Tryz.sizeOf4
 v4:=Tryz.zeroValue4
 t5:=Tryz.underlying5
 a5:=Tryz.isAgg5
 z5:=Tryz.sizeOf5
 v5:=Tryz.zeroValue5
 t9:=Tryz.underlying9
 a9:=Tryz.isAgg9
 z9:=Tryz.sizeOf9
 v9:=Tryz.zeroValue9
 t21:=Tryz.underlying21
 a21:=Tryz.isAgg21
 z21:=Tryz.sizeOf21
 v21:=Tryz.zeroValue21
 t31:=Tryz.underlying43
 a31:=Tryz.isAgg43
 z31:=Tryz.sizeOf43
 v31:=Tryz.zeroValue43
 t46:=Tryz.underlying213
 a46:=Tryz.isAgg213
 z46:=Tryz.sizeOf213
 v46:=Tryz.zeroValue213
 t51:=Tryz.underlying94
 a51:=Tryz.isAgg94
 z51:=Tryz.sizeOf94
 v51:=Tryz.zeroValue94
 t105:=Tryz.underlying321
 a105:=Tryz.isAgg321
 z105:=Tryz.sizeOf321
 v105:=Tryz.zeroValue321
 t119:=Tryz.underlying377
 a119:=Tryz.isAgg377
 z119:=Tryz.sizeOf377
 t138:=Tryz.underlying379
 a138:=Tryz.isAgg379
 z138:=Tryz.sizeOf379
 v138:=Tryz.zeroValue379
 t139:=Tryz.underlying380
 a139:=Tryz.isAgg380
 z139:=Tryz.sizeOf380
 v139:=Tryz.zeroValue380
 t146:=Tryz.underlying371
 a146:=Tryz.isAgg371
 z146:=Tryz.sizeOf371
 v146:=Tryz.zeroValue371
 g1:=by kernel_rfl
 g3:=by kernel_rfl
 g4:=by kernel_rfl }
open Go.RowKit Go.Lib in
theorem Tryz.strings_Split (s sep:ByteArray) (m:Int) (w:World) (hs:s.size<4294967281) (hm:w.cell? ⟨0,0,none⟩=some (.int .i64 m)) (h1:1≤sep.size) :
  Calls Tryz.prog 247 #[.string s,.string sep] w fun e w' =>
   e= .returned (.slice (some ⟨w.heap.size,0,none⟩) (Lib.countB s sep+1) (Lib.countB s sep+1))∧w'=w.alloc (.cells ((Lib.splitB sep 0 (Lib.countB s sep) s).map Value.string).toArray 9):=Any.strings_Split Tryz.lays146 (by kernel_rfl) s sep m w hs hm h1
open Go.RowKit Go.Lib in
open Go.RowKit Go.Lib in
def Tryz.lays152_ren:Go.Shelf.Ren:=⟨fun | 152=>204 | 137=>202 | 119=>264 | 224=>265 | 225=>266 | 217=>263 | 266=>296 | n=>n,fun | 9=>9 | 21=>21 | 3=>3 | 4=>4 | 5=>5 | 0=>0 | 46=>213 | n=>n,fun | n=>n⟩
theorem Tryz.lays152:Go.Proofs.Lays.n152 Tryz.prog Tryz.lays152_ren:={
 mixed:=by kernel_rfl
 f119:=Tryz.func264.trans (congrArg some (by kernel_rfl))
 f137:=Tryz.func202.trans (congrArg some (by kernel_rfl))
 f152:=Tryz.func204.trans (congrArg some (by kernel_rfl))
 f217:=Tryz.func263.trans (congrArg some (by kernel_rfl))
 f224:=Tryz.func265.trans (congrArg some (by kernel_rfl))
 f225:=Tryz.func266.trans (congrArg some (by kernel_rfl))
 f266:=Tryz.func296.trans (congrArg some (by kernel_rfl))
 t0:=Tryz.underlying0
 a0:=Tryz.isAgg0
 z0:=Tryz.sizeOf0
 v0:=Tryz.zeroValue0
 t3:=Tryz.underlying3
 a3:=Tryz.isAgg3
 z3:=Tryz.sizeOf3
 v3:=Tryz.zeroValue3
 t4:=Tryz.underlying4
 a4:=Tryz.isAgg4
 z4:=Tryz.sizeOf4
 v4:=Tryz.zeroValue4
 t5:=Tryz.underlying5
 a5:=Tryz.isAgg5
 z5:=Tryz.sizeOf5
 v5:=Tryz.zeroValue5
 t9:=Tryz.underlying9
 a9:=Tryz.isAgg9
 z9:=Tryz.sizeOf9
 v9:=Tryz.zeroValue9
 t21:=Tryz.underlying21
 a21:=Tryz.isAgg21
 z21:=Tryz.sizeOf21
 v21:=Tryz.zeroValue21
 t46:=Tryz.underlying213
 a46:=Tryz.isAgg213
 z46:=Tryz.sizeOf213
 v46:=Tryz.zeroValue213 }
open Go.RowKit Go.Lib in
theorem Tryz.strings_IndexRune_ascii (s:ByteArray) (r:Int) (w:World) (h0:0≤r) (h1:r<128) :
  Calls Tryz.prog 204 #[.string s,.int .i32 r] w fun e w'=>e= .returned (.int .i64 (Lib.indexByte s.data.toList r.toNat.toUInt8))∧w'=w:=Any.strings_IndexRune_ascii Tryz.lays152 s r w h0 h1
open Go.RowKit Go.Lib in
theorem Tryz.utf8_RuneCountInString_ascii (s:ByteArray) (w:World) (hs:s.size<4294967281) (hascii:∀ (j:Nat) b,s.data.toList[j]? =some b→b.toNat<128) :
  Calls Tryz.prog 300 #[.string s] w fun e w'=>e= .returned (.int .i64 s.size)∧w'=w.iter s s.size:=Any.utf8_RuneCountInString_ascii Tryz.lays195 s w hs hascii
def Tryz.lays226_ren:Go.Shelf.Ren:=⟨fun | 226=>205 | n=>n,fun | 3=>3 | 4=>4 | n=>n,fun | n=>n⟩
theorem Tryz.lays226:Go.Proofs.Lays.n226 Tryz.prog Tryz.lays226_ren:={
 mixed:=by kernel_rfl
 f226:=Tryz.func205.trans (congrArg some (by kernel_rfl))
 t3:=Tryz.underlying3
 a3:=Tryz.isAgg3
 z3:=Tryz.sizeOf3
 v3:=Tryz.zeroValue3
 t4:=Tryz.underlying4
 a4:=Tryz.isAgg4
 z4:=Tryz.sizeOf4
 v4:=Tryz.zeroValue4 }
open Go.RowKit Go.Lib in
theorem Tryz.strings_shouldUseASCIISet (n:Int) (w:World) :
  Calls Tryz.prog 205 #[.int .i64 n] w fun e w'=>e= .returned (.bool (decide (8<n)))∧w'=w:=Any.strings_shouldUseASCIISet Tryz.lays226 n w
def Tryz.lays153_ren:Go.Shelf.Ren:=⟨fun | 153=>139 | 152=>204 | 226=>205 | 227=>206 | 228=>207 | 137=>202 | 119=>264 | 224=>265 | 225=>266 | 217=>263 | 266=>296 | n=>n,fun | 9=>9 | 3=>3 | 4=>4 | 5=>5 | 21=>21 | 117=>293 | 116=>292 | 0=>0 | 46=>213 | 124=>339 | n=>n,fun | n=>n⟩
theorem Tryz.lays153:Go.Proofs.Lays.n153 Tryz.prog Tryz.lays153_ren:={
 mixed:=by kernel_rfl
 f119:=Tryz.func264.trans (congrArg some (by kernel_rfl))
 f137:=Tryz.func202.trans (congrArg some (by kernel_rfl))
 f152:=Tryz.func204.trans (congrArg some (by kernel_rfl))
 f153:=Tryz.func139.trans (congrArg some (by kernel_rfl))
 f217:=Tryz.func263.trans (congrArg some (by kernel_rfl))
 f224:=Tryz.func265.trans (congrArg some (by kernel_rfl))
 f225:=Tryz.func266.trans (congrArg some (by kernel_rfl))
 f226:=Tryz.func205.trans (congrArg some (by kernel_rfl))
 f227:=Tryz.func206.trans (congrArg some (by kernel_rfl))
 f228:=Tryz.func207.trans (congrArg some (by kernel_rfl))
 f266:=Tryz.func296.trans (congrArg some (by kernel_rfl))
 t0:=Tryz.underlying0
 a0:=Tryz.isAgg0
 z0:=Tryz.sizeOf0
 v0:=Tryz.zeroValue0
 t3:=Tryz.underlying3
 a3:=Tryz.isAgg3
 z3:=Tryz.sizeOf3
 v3:=Tryz.zeroValue3
 t4:=Tryz.underlying4
 a4:=Tryz.isAgg4
 z4:=Tryz.sizeOf4
 v4:=Tryz.zeroValue4
 t5:=Tryz.underlying5
 a5:=Tryz.isAgg5
 z5:=Tryz.sizeOf5
 v5:=Tryz.zeroValue5
 t9:=Tryz.underlying9
 a9:=Tryz.isAgg9
 z9:=Tryz.sizeOf9
 v9:=Tryz.zeroValue9
 t21:=Tryz.underlying21
 a21:=Tryz.isAgg21
 z21:=Tryz.sizeOf21
 v21:=Tryz.zeroValue21
 t46:=Tryz.underlying213
 a46:=Tryz.isAgg213
 z46:=Tryz.sizeOf213
 v46:=Tryz.zeroValue213
 t116:=Tryz.underlying292
 a116:=Tryz.isAgg292
 z116:=Tryz.sizeOf292
 t117:=Tryz.underlying293
 a117:=Tryz.isAgg293
 z117:=Tryz.sizeOf293
 v117:=Tryz.zeroValue293
 t124:=Tryz.underlying339
 a124:=Tryz.isAgg339
 z124:=Tryz.sizeOf339
 v124:=Tryz.zeroValue339 }
open Go.RowKit Go.Lib in
open Go.RowKit Go.Lib in
open Go.RowKit Go.Lib in
open Go.RowKit Go.Lib in
open Go.RowKit Go.Lib in
open Go.RowKit Go.Lib in
theorem Tryz.strings_IndexAny_long (hv116:∀ w,(zeroValue 292).run Tryz.prog w= .ok (.agg (Array.replicate 256 (.bool false))) w) (s chars:ByteArray) (w:World) (h2:2≤chars.size) (h8:8<s.size) (hs:s.size<4294967281) (hcs:chars.size<4294967281) (hascii:∀ (j:Nat) b,chars.data.toList[j]? =some b→b.toNat<128) :
  Calls Tryz.prog 139 #[.string s,.string chars] w fun e w'=>e= .returned (.int .i64 (Lib.indexAny s.data.toList chars.data.toList))∧w'=((w.alloc (.cells (Lib.setCells chars.data.toList) 292)).alloc (.cells (Lib.setCells chars.data.toList) 292)):=Any.strings_IndexAny_long Tryz.lays153 hv116 (by kernel_rfl) s chars w h2 h8 hs hcs hascii
open Go.RowKit Go.Lib in
open Go.RowKit Go.Lib in
open Go.RowKit Go.Lib in
open Go.RowKit Go.Lib in
open Go.RowKit Go.Lib in
open Go.RowKit Go.Lib in
open Go.RowKit Go.Lib in
open Go.Lib in
open Go.Lib in
def Tryz.lays110_ren:Go.Shelf.Ren:=⟨fun | 110=>160 | 109=>223 | n=>n,fun | 31=>43 | 9=>9 | 4=>4 | 3=>3 | 0=>0 | n=>n,fun | n=>n⟩
theorem Tryz.lays110:Go.Proofs.Lays.n110 Tryz.prog Tryz.lays110_ren:={
 mixed:=by kernel_rfl
 f109:=Tryz.func223.trans (congrArg some (by kernel_rfl))
 f110:=Tryz.func160.trans (congrArg some (by kernel_rfl))
 t0:=Tryz.underlying0
 a0:=Tryz.isAgg0
 z0:=Tryz.sizeOf0
 v0:=Tryz.zeroValue0
 t3:=Tryz.underlying3
 a3:=Tryz.isAgg3
 z3:=Tryz.sizeOf3
 v3:=Tryz.zeroValue3
 t4:=Tryz.underlying4
 a4:=Tryz.isAgg4
 z4:=Tryz.sizeOf4
 v4:=Tryz.zeroValue4
 t9:=Tryz.underlying9
 a9:=Tryz.isAgg9
 z9:=Tryz.sizeOf9
 v9:=Tryz.zeroValue9
 t31:=Tryz.underlying43
 a31:=Tryz.isAgg43
 z31:=Tryz.sizeOf43
 v31:=Tryz.zeroValue43 }
open Go.Lib in
theorem Tryz.slices_Contains_string (b off n c:Nat) (zs:List ByteArray) (x:ByteArray) (w:World) (hz:n≤zs.length) (hbig:n≤9223372036854775807) (hc:∀ j,j<zs.length→w.cell? ⟨b,off+j,none⟩=some (.string (zs.getD j ByteArray.empty))) :
  Calls Tryz.prog 160 #[.slice (some ⟨b,off,none⟩) n c,.string x] w fun e w'=>e= .returned (.bool (Lib.containsS (zs.take n) x))∧w'=w:=Any.slices_Contains_string Tryz.lays110 b off n c zs x w hz hbig hc
open Go.Lib in
theorem Tryz.slices_Contains_string_empty (a:Option Addr) (c:Nat) (x:ByteArray) (w:World) :
  Calls Tryz.prog 160 #[.slice a 0 c,.string x] w fun e w'=>e= .returned (.bool false)∧w'=w:=Any.slices_Contains_string_empty Tryz.lays110 a c x w
open Go.RowKit Go.Lib Go.Sort in
open Go.RowKit Go.Lib Go.Sort in
open Go.RowKit Go.Lib Go.Sort in
def Tryz.lays194_ren:Go.Shelf.Ren:=⟨fun | 194=>103 | n=>n,fun | 31=>43 | 9=>9 | 3=>3 | 4=>4 | 0=>0 | n=>n,fun | n=>n⟩
theorem Tryz.lays194:Go.Proofs.Lays.n194 Tryz.prog Tryz.lays194_ren:={
 mixed:=by kernel_rfl
 f194:=Tryz.func103.trans (congrArg some (by kernel_rfl))
 t0:=Tryz.underlying0
 a0:=Tryz.isAgg0
 z0:=Tryz.sizeOf0
 v0:=Tryz.zeroValue0
 t3:=Tryz.underlying3
 a3:=Tryz.isAgg3
 z3:=Tryz.sizeOf3
 v3:=Tryz.zeroValue3
 t4:=Tryz.underlying4
 a4:=Tryz.isAgg4
 z4:=Tryz.sizeOf4
 v4:=Tryz.zeroValue4
 t9:=Tryz.underlying9
 a9:=Tryz.isAgg9
 z9:=Tryz.sizeOf9
 v9:=Tryz.zeroValue9
 t31:=Tryz.underlying43
 a31:=Tryz.isAgg43
 z31:=Tryz.sizeOf43
 v31:=Tryz.zeroValue43 }
open Go.RowKit Go.Lib Go.Sort in
open Go.RowKit Go.Lib Go.Sort in
open Go.RowKit Go.Lib Go.Sort in
theorem Tryz.slices_Compact_string_empty (a:Option Addr) (cap:Nat) (w:World) :
  Calls Tryz.prog 103 #[.slice a 0 cap] w fun e w'=>e= .returned (.slice a 0 cap)∧w'=w:=Any.slices_Compact_string_empty Tryz.lays194 a cap w
open Go.RowKit Go.Lib in
open Go.RowKit Go.Lib Go.Sort in
open Go.RowKit Go.Lib Go.Sort in
open Go.RowKit Go.Sort in
theorem Tryz.slices_Sort_string_none (p:Option Addr) (cap:Nat) (w:World) :
  Calls Tryz.prog 102 #[.slice p 0 cap] w fun e w'=>e= .returned (.tuple #[])∧w'=w:=Any.slices_Sort_string_none Tryz.lays190 p cap w
open Go.RowKit Go.Lib in
def Tryz.lays196_ren:Go.Shelf.Ren:=⟨fun | 196=>299 | 259=>319 | n=>n,fun | 9=>9 | 4=>4 | 3=>3 | 5=>5 | 12=>12 | 119=>377 | 0=>0 | 46=>213 | 139=>380 | 138=>379 | 53=>152 | n=>n,fun | 3=>1 | 4=>2 | n=>n⟩
theorem Tryz.lays196:Go.Proofs.Lays.n196 Tryz.prog Tryz.lays196_ren:={
 mixed:=by kernel_rfl
 f196:=Tryz.func299.trans (congrArg some (by kernel_rfl))
 f259:=Tryz.func319.trans (congrArg some (by kernel_rfl))
 t0:=Tryz.underlying0
 a0:=Tryz.isAgg0
 z0:=Tryz.sizeOf0
 v0:=Tryz.zeroValue0
 t3:=Tryz.underlying3
 a3:=Tryz.isAgg3
 z3:=Tryz.sizeOf3
 v3:=Tryz.zeroValue3
 t4:=Tryz.underlying4
 a4:=Tryz.isAgg4
 z4:=Tryz.sizeOf4
 v4:=Tryz.zeroValue4
 t5:=Tryz.underlying5
 a5:=Tryz.isAgg5
 z5:=Tryz.sizeOf5
 v5:=Tryz.zeroValue5
 t9:=Tryz.underlying9
 a9:=Tryz.isAgg9
 z9:=Tryz.sizeOf9
 v9:=Tryz.zeroValue9
 t12:=Tryz.underlying12
 a12:=Tryz.isAgg12
 z12:=Tryz.sizeOf12
 v12:=Tryz.zeroValue12
 t46:=Tryz.underlying213
 a46:=Tryz.isAgg213
 z46:=Tryz.sizeOf213
 v46:=Tryz.zeroValue213
 t53:=Tryz.underlying152
 a53:=Tryz.isAgg152
 z53:=Tryz.sizeOf152
 v53:=Tryz.zeroValue152
 t119:=Tryz.underlying377
 a119:=Tryz.isAgg377
 z119:=Tryz.sizeOf377
 t138:=Tryz.underlying379
 a138:=Tryz.isAgg379
 z138:=Tryz.sizeOf379
 v138:=Tryz.zeroValue379
 t139:=Tryz.underlying380
 a139:=Tryz.isAgg380
 z139:=Tryz.sizeOf380
 v139:=Tryz.zeroValue380
 g3:=by kernel_rfl
 g4:=by kernel_rfl }
open Go.RowKit Go.Lib in
theorem Tryz.utf8_ValidString (s:ByteArray) (w:World) (hs:s.size≤9223372036854775807) (hT:Lib.Utf8Tabs 1 2 w) :
  Calls Tryz.prog 299 #[.string s] w fun e w'=>e= .returned (.bool (Lib.validD s.data.toList))∧Below w.heap.size w w':=Any.utf8_ValidString Tryz.lays196 s w hs hT
end Go.Proofs.YtbnnlkdhpifpeaaGreatDoor
namespace Go.Proofs.YtbnnlkdhpifpeaaGreatDoor
open Go.RowKit Hs
set_option maxRecDepth 20000
set_option maxHeartbeats 16000000
theorem Uc (s:ByteArray) (w:World) (hs:s.size≤100000000):Calls Tryz.prog 251 #[.string s] w fun e w'=>(∃ v c,e= .returned (.tuple #[v,.int .i64 c])∧((c=0∧∃ pts:List Nat,wR (un s)=some pts∧w'.ownsRow w.heap.size 3 1 v pts.length (zo pts))∨(c≠0∧v= .slice none 0 0∧wR (un s)=none)))∧Below w.heap.size w w':=by
 obtain ⟨iN0,iN⟩:=info_parts jw;have hlen:(un s).length=s.size:=za s;have hli:=fun W=>Tryz.strings_LastIndexByte s 45 (by omega) W;have hdash:Lib.lastIndexByte s 45=xL (un s):=by rw [qS];exact uX s 45
 obtain ⟨l,hl⟩:=KZ6 (un s);have hdef:Hid (wR l=if 1024<l.length then none else if l.any (fun b=>decide (128≤b.toNat))=true then none else if 256<(vw l).1.length then none else ro (vw l).2 128 0 72 true ((vw l).1.map UInt8.toNat)):=KZ9 rfl;rw [←hl] at hlen hdash ⊢;simp only [hdash] at hli;have HLI:=KZ9 hli;have HL:=KZ9 hl;have HLEN:=KZ9 hlen;have HDB:=KZ9 (vP l);clear hl hli hdash;obtain ⟨n,hn⟩:=KZ6 s.size;rw [←hn] at hs hlen;have HN:=KZ9 hn;have hsn:(s.size:Int)=(n:Int):=by rw [hn]
 clear hn hlen;by_cases hlong:1024<n
 ·have g1:decide ((1024:Int)<(n:Int))=true:=KZ7 (by omega);have hend:Hid (wR l=none):=KZ9 (by rw [hdef.out,if_pos (by rw [HLEN.out,←HN.out];exact hlong)]);clear hdef;go_enter Tryz.func251,Tryz.ntmps251
  go_wp2
  all_goals try omega
  go_ret2;exact ⟨⟨_,_,rfl,.inr ⟨by decide,rfl,hend.out⟩⟩,Below.refl _ _⟩
 have g1:decide ((1024:Int)<(n:Int))=false:=KZ8 (by omega);have hdef2:=KZ9 (hdef.out.trans (if_neg (by rw [HLEN.out,←HN.out];exact hlong)));clear hdef;go_enter Tryz.func251,Tryz.ntmps251
 go_wp2
 all_goals try omega
 go_loop [14] (fun iv=>∃ k:Nat,iv= .int .i64 k∧k≤n∧Hid (l.any (fun b=>decide (128≤b.toNat))=(l.drop k).any (fun b=>decide (128≤b.toNat)))) (fun iv=>n - (intOf iv).toNat)
 case atStart=>exact ⟨0,rfl,by omega,KZ9 (by rw [List.drop_zero])⟩
 case round =>
  obtain ⟨k,rfl,hk,han⟩:=hrel;by_cases hlt:k<n
  ·have hks:k<s.size:=by rw [←HN.out];exact hlt
   have hkl:k<l.length:=by rw [HLEN.out];exact hks
   have hx:l[k]=s[k]:=by
    have:=HL.out;subst this;exact zR s k hks
   obtain ⟨b,hb⟩:=KZ6 (s[k]);rw [←hb] at hx;have hb256:=b.toNat_lt;have cs:(s[k].toNat:Int)=(b.toNat:Int):=by rw [hb]
   have hst:=rE l (fun b=>decide (128≤b.toNat)) k hkl;have hdr:=kY l (fun b=>decide (128≤b.toNat)) k hkl;rw [hx] at hst hdr;have HS:=KZ9 hst;have HD:=KZ9 hdr;clear hst hdr hx hb hkl;obtain ⟨x,hx⟩:=KZ6 b.toNat;rw [←hx] at cs hb256;by_cases h128:128≤x
   ·have g2:decide ((128:Int)≤(x:Int))=true:=KZ7 (by omega);have hend:Hid (wR l=none):=KZ9 (by rw [hdef2.out,han.out,HD.out,if_pos (by simp [←hx,h128])]);clear hdef2 HS HD han hx;go_wp2
    all_goals try omega
    go_ret2;exact ⟨⟨_,_,rfl,.inr ⟨by decide,rfl,hend.out⟩⟩,Below.refl _ _⟩
   have g2:decide ((128:Int)≤(x:Int))=false:=KZ8 (by omega);have han2:Hid (l.any (fun b=>decide (128≤b.toNat))=(l.drop (k+1)).any (fun b=>decide (128≤b.toNat))):=KZ9 (by rw [han.out];exact HS.out (by rw [←hx];simp;omega));clear hdef2 HS HD han hx;go_wp2
   all_goals try omega
   go_round
   case rel=>exact ⟨k+1,by go_num,by omega,han2⟩
   case measure=>simp [intOf];omega
  have hln:l.length≤k:=by rw [HLEN.out,←HN.out];omega
  have hdef3:=hdef2.out.trans (if_neg (by rw [han.out,List.drop_of_length_le hln];simp));clear hdef2 han;obtain ⟨d,hd⟩:=KZ6 (xL l);have hdb:=HDB.out;rw [←hd] at hdb;have hlenN:l.length=n:=by rw [HLEN.out,←HN.out]
  rw [hlenN] at hdb;have hc:vw l=if 0<d then (l.take d.toNat,l.drop (d.toNat+1)) else ([],l):=by rw [hd];rfl
  have hli2:=HLI.out;rw [←hd] at hli2;have HLI2:=KZ9 hli2;have HDEF3:=KZ9 hdef3;clear hd hli2 HLI hln HDB hdef3;obtain ⟨g,hg⟩:=KZ6 w.heap.size;have hnew:BlkL (w.alloc (.cells #[.string s,.slice none 0 0,.int .i64 128,.int .i64 0,.int .i64 72,.bool false] 357)) w.heap.size 357 [.string s,.slice none 0 0,.int .i64 128,.int .i64 0,.int .i64 72,.bool false]:=BlkL.new w 357 _;have hbel0:Below w.heap.size w (w.alloc (.cells #[.string s,.slice none 0 0,.int .i64 128,.int .i64 0,.int .i64 72,.bool false] 357)):=(Below.refl _ _).alloc (Nat.le_refl _) _;have hsz0:(w.alloc (.cells #[.string s,.slice none 0 0,.int .i64 128,.int .i64 0,.int .i64 72,.bool false] 357)).heap.size=g+1:=by rw [hg];simp
  obtain ⟨w0,hw0⟩:=KZ6 (w.alloc (.cells #[.string s,.slice none 0 0,.int .i64 128,.int .i64 0,.int .i64 72,.bool false] 357));rw [←hw0,←hg] at hnew hbel0;rw [←hw0] at hsz0;have HW0:=KZ9 hw0;have HG:=KZ9 hg;have HNEW:=KZ9 hnew;have HBEL0:=KZ9 hbel0;have HSZ0:=KZ9 hsz0;clear hg hw0 hnew hbel0 hsz0;go_wp2_with fail
  all_goals try omega
  rw [←HW0.out,←HG.out];refine (HLI2.out _).mono ?_;rintro e w2 ⟨rfl,rfl⟩;go_upto_if 28 with fail
  all_goals try omega
  go_cut [] (fun wx=>∃ v,BlkL wx g 357 [.string (mk (vw l).2),v,.int .i64 128,.int .i64 0,.int .i64 72,.bool false]∧wx.ownsRow (g+1) 3 1 v (vw l).1.length (zo ((vw l).1.map UInt8.toNat))∧Below g w wx)
  case first =>
   rcases Int.lt_or_le 0 d with h0 | h0
   ·have g2:decide ((0:Int)<d)=true:=KZ7 h0;rw [g2];obtain ⟨c,rfl⟩:∃ c:Nat,d=(c:Int):=⟨d.toNat,by omega⟩;have hc2:vw l=(l.take c,l.drop (c+1)):=by rw [hc,if_pos h0];rfl
    have HC2:=KZ9 hc2;clear hc hc2;have hcn:c<n:=by omega
    have g2n:decide (0<c)=true:=KZ7 (by omega);go_wp2
    all_goals try omega
    go_loopw [30] (fun iv wr=>∃ (j:Nat) (v:Value),iv= .int .i64 j∧j≤c∧BlkL wr g 357 [.string s,v,.int .i64 128,.int .i64 0,.int .i64 72,.bool false]∧wr.ownsRow (g+1) 3 1 v j (zo ((l.take j).map UInt8.toNat))∧Below g w wr) (fun iv _=>c - (intOf iv).toNat)
    case atStart=>exact ⟨0,.slice none 0 0,rfl,by omega,HNEW.out,World.ownsRow_nil _ _ _ _,HBEL0.out⟩
    case round =>
     obtain ⟨j,v,rfl,hj,hb,hown,hnx⟩:=hrel;obtain ⟨a,cp,rfl⟩:=yk hown;by_cases hlt:j<c
     ·have hks:j<s.size:=by rw [←HN.out];omega
      have hkl:j<l.length:=by rw [HLEN.out];exact hks
      have hx:l[j]=s[j]:=by
       have:=HL.out;subst this;exact zR s j hks
      have hms:=dB l j hkl;rw [hx] at hms;have hb256:=(s[j]).toNat_lt;obtain ⟨x,hx2⟩:=KZ6 ((s[j]).toNat);have cs:(s[j].toNat:Int)=(x:Int):=by rw [hx2]
      rw [←hx2] at hb256 hms;have HMS:=KZ9 hms;clear hms hx hx2 hkl;have hjI:(j:Int)<(s.size:Int):=by omega
      have hjI2:(j:Int)<(n:Int):=by omega
      have hjI3:(0:Int)≤(j:Int):=by omega
      have hjI4:¬ ((n:Int)≤(j:Int)):=by omega
      have y1:=hb.c 1 _ rfl;have z1:∀ o,(wr.alloc o).cell? ⟨g,1,none⟩=some (.slice a j cp):=fun o=>(hb.alloc o).c 1 _ rfl;have HBX:=KZ9 ((hb.alloc (.cells #[.int .i64 (IntKind.i64.wrap (x:Int))] 3)).drew);have HOX:=KZ9 ((hown.alloc (.cells #[.int .i64 (IntKind.i64.wrap (x:Int))] 3)).drew);have HSX:Hid (Nums (wr.alloc (.cells #[.int .i64 (IntKind.i64.wrap (x:Int))] 3)).drew (.slice (some ⟨wr.heap.size,0,none⟩) 1 1) [x]):=KZ9 (by
       rw [show IntKind.i64.wrap (x:Int)=(x:Int) by rw [IntKind.wrap_i64];omega];exact (WS wr x 3).below (Below.refl _ _).drew)
      have HNX:=KZ9 ((hnx.alloc (by have:=HSZ0.out;have:=hb.lt;omega) (.cells #[.int .i64 (IntKind.i64.wrap (x:Int))] 3)).drew);have hgl:=hb.lt;have hne:some g≠(Value.slice a j cp).ownBlock:=fun e=>by have:=(hown.lt g e.symm).1;omega
      have HROW:=KZ9 hown;clear hb hown hnx;go_wp2_with fail
      all_goals try omega
      go_region_law (first | (refine yA (by rfl) _ _ (by rfl) (g+1) (.slice a j cp) j _ (by rfl) HOX.out _ (by rfl) [x] HSX.out (by simp;omega) (by simp;omega) ?_;intro vA wA hA gA;obtain ⟨a',c',rfl⟩:=yk hA;have hB':=HBX.out.grown gA hne;have u1:=hB'.c 1 _ rfl;have t1:=hB'.f 1;have hL':=HNX.out.grown gA (by simp;omega) (fun k hk=>by have:=(HROW.out.lt k hk).1;omega)))
      ·have hF:=hA.kept (xF wA g 1 (.slice a' (j+[x].length) c')) (ux hA (Nat.lt_succ_self g));have hFB:=hB'.set 1 (by simp) (.slice a' (j+[x].length) c');have hFL:=hL'.setCell (p:=⟨g,1,none⟩) (Nat.le_refl _) (.slice a' (j+[x].length) c');rw [←HMS.out] at hF;have HF:=KZ9 hF;have HFB:=KZ9 hFB;have HFL:=KZ9 hFL;clear hF hFB hFL hA hB' hL' gA u1 t1 z1 y1;go_wp2
       all_goals try omega
       go_roundw
       case rel =>
        exact ⟨j+1,_,by go_num,by omega,HFB.out,HF.out,HFL.out⟩
       case measure=>simp [intOf];omega
      ·have hF:=hA.kept (xF wA g 1 (.slice a' (j+[x].length) c')) (ux hA (Nat.lt_succ_self g));have hFB:=hB'.set 1 (by simp) (.slice a' (j+[x].length) c');have hFL:=hL'.setCell (p:=⟨g,1,none⟩) (Nat.le_refl _) (.slice a' (j+[x].length) c');rw [←HMS.out] at hF;have HF:=KZ9 hF;have HFB:=KZ9 hFB;have HFL:=KZ9 hFL;clear hF hFB hFL hA hB' hL' gA u1 t1 z1 y1;go_wp2
       all_goals try omega
       go_roundw
       case rel =>
        exact ⟨j+1,_,by go_num,by omega,HFB.out,HF.out,HFL.out⟩
       case measure=>simp [intOf];omega
      have hF:=hA.kept (xF wA g 1 (.slice a' (j+[x].length) c')) (ux hA (Nat.lt_succ_self g));have hFB:=hB'.set 1 (by simp) (.slice a' (j+[x].length) c');have hFL:=hL'.setCell (p:=⟨g,1,none⟩) (Nat.le_refl _) (.slice a' (j+[x].length) c');rw [←HMS.out] at hF;have HF:=KZ9 hF;have HFB:=KZ9 hFB;have HFL:=KZ9 hFL;clear hF hFB hFL hA hB' hL' gA u1 t1 z1 y1;go_wp2
      all_goals try omega
      go_roundw
      case rel =>
       exact ⟨j+1,_,by go_num,by omega,HFB.out,HF.out,HFL.out⟩
      case measure=>simp [intOf];omega
     obtain rfl:j=c:=by omega
     have hex:s.extract (j+1) n=mk (l.drop (j+1)):=by
      apply pi;rw [xj,zk,HL.out];apply List.take_of_length_le;rw [List.length_drop,za,HN.out];omega
     have y0:=hb.c 0 _ rfl;have f0:=hb.f 0;have hsN:s.size=n:=HN.out.symm;go_wp2
     all_goals try omega
     all_goals (go_meet;exact ⟨.slice a j cp,by rw [HC2.out];exact hb.set 0 (by simp) _,by
      rw [HC2.out];have h9:=hown.kept (xF wr g 0 (.string (mk (l.drop (j+1))))) (ux hown (Nat.lt_succ_self g));have h8:(l.take j).length=j:=by rw [List.length_take,hlenN];omega
      rw [h8];exact h9,hnx.setCell (p:=⟨g,0,none⟩) (Nat.le_refl _) _⟩)
   have g2:decide ((0:Int)<d)=false:=KZ8 (by omega);rw [g2];rw [if_neg (by omega)] at hc;have hss:mk l=s:=by rw [HL.out,x8]
   go_wp2
   all_goals try omega
   all_goals (go_meet;exact ⟨.slice none 0 0,by rw [hc];simp only [hss];exact HNEW.out,by rw [hc];exact World.ownsRow_nil _ _ _ _,HBEL0.out⟩)
  case rest =>
   obtain ⟨v,hb,hown,hnx⟩:=hcut;clear HNEW HBEL0 HSZ0 HLI2 hc hdb;obtain ⟨R0,hR0⟩:=KZ6 ((vw l).2);obtain ⟨P0,hP0⟩:=KZ6 ((vw l).1.map UInt8.toNat);have hdef4:=HDEF3.out;have hPl:P0.length=(vw l).1.length:=by rw [hP0,List.length_map]
   have hRl:R0.length≤n:=by have:=SM l;rw [hR0];omega
   rw [←hPl,←hR0,←hP0] at hdef4;rw [←hPl,←hP0] at hown;rw [←hR0] at hb;have HDEF4:=KZ9 hdef4;clear hdef4 HDEF3 hR0 hP0 hPl;obtain ⟨m,hm⟩:=KZ6 P0.length;rw [←hm] at hown HDEF4;obtain ⟨a,cp,rfl⟩:=yk hown;have y1:=hb.c 1 _ rfl;have HM:=KZ9 hm;have HB:=KZ9 hb;have HOWN:=KZ9 hown;have HNX:=KZ9 hnx;clear hm hb hown hnx;by_cases h256:256<m
   ·have g2:decide ((256:Int)<(m:Int))=true:=KZ7 (by omega);have hend:Hid (wR l=none):=KZ9 (by rw [HDEF4.out,if_pos h256]);clear HDEF4;go_wp2
    all_goals try omega
    go_ret2;exact ⟨⟨_,_,rfl,.inr ⟨by decide,rfl,hend.out⟩⟩,by rw [←HG.out];exact HNX.out⟩
   have g2:decide ((256:Int)<(m:Int))=false:=KZ8 (by omega);have HDEF5:=KZ9 (HDEF4.out.trans (if_neg h256));clear HDEF4;go_wp2
   all_goals try omega
   go_loopg [] R0.length (fun mm wr=>∃ (l2:Bs) (v:Value) (pts:List Nat) (nn ii bi:Nat) (st:Bool),mm=l2.length∧l2.length≤n∧nn≤1114111∧ii≤257∧bi≤324∧pts.length≤256∧BlkL wr g 357 [.string (mk l2),v,.int .i64 (nn:Int),.int .i64 (ii:Int),.int .i64 (bi:Int),.bool st]∧wr.ownsRow (g+1) 3 1 v pts.length (zo pts)∧Hid (wR l=ro l2 nn ii bi (!st) pts)∧Below g w wr)
   case atStart=>exact ⟨R0,_,P0,128,0,72,false,rfl,hRl,by omega,by omega,by omega,by rw [←HM.out];omega,HB.out,by rw [←HM.out];exact HOWN.out,HDEF5,HNX.out⟩
   case round =>
    clear HB HOWN HNX HDEF5 y1 HM g2 h256;obtain ⟨l2,v,pts,nn,ii,bi,st,rfl,hl2,hnn,hii,hbi,hpl,hb,hown,hst,hnx⟩:=hrel;have y0:=hb.c 0 _ rfl;cases l2 with
    | nil =>
     have e0:mk ([]:Bs)=⟨#[]⟩:=rfl;rw [e0] at y0;have hend:Hid (wR l=some pts):=KZ9 (hst.out.trans (YD _ _ _ _ _));obtain ⟨a,cp,rfl⟩:=yk hown;have y1:=hb.c 1 _ rfl;clear hst e0;go_wp2
     all_goals try omega
     go_ret2;exact ⟨⟨_,_,rfl,.inl ⟨rfl,pts,hend.out,Go.Joins.ownsRow_le hown (by rw [←HG.out];omega)⟩⟩,by rw [←HG.out];exact hnx⟩
    | cons b r =>
     have hem:(mk (b::r)).toList.isEmpty=false:=by
      rw [List.isEmpty_eq_false_iff];intro h;rw [toList_mk'] at h;cases h
     have hstep:=Q8 g (b::r) v pts nn ii bi st wr hb hown (by simp) (by omega) hnn hii hbi hpl;have HSTEP:=KZ9 hstep;have HNX:=KZ9 hnx;have hl3:(b::r).length≤n:=hl2;obtain ⟨s2,hs2⟩:=KZ6 (mk (b::r));rw [←hs2] at y0 hem;have HRL:=KZ9 hl3;clear hstep hb hown hnx hs2 hl2 hl3;go_wp2_with fail
     all_goals try omega
     refine HSTEP.out.mono ?_;rintro e w9 ⟨⟨c,rfl,hres⟩,hb9⟩;have HX:=KZ9 (HNX.out.trans hb9);rcases hres with ⟨rfl,l3,v3,pts3,nn3,ii3,bi3,hdl,hlt,hn3,hi3,hbi3,hp3,hB3,hO3⟩ | ⟨hc,hnone⟩
     ·have HST3:=KZ9 (hst.out.trans hdl);have HB3:=KZ9 hB3;have HO3:=KZ9 hO3;have HLT:=KZ9 hlt;clear hdl hst hB3 hO3 hlt hb9 HNX HSTEP;go_wp2
      all_goals try omega
      go_roundg l3.length
      case measure=>exact HLT.out
      case rel=>exact ⟨l3,v3,pts3,nn3,ii3,bi3,true,rfl,by have:=HLT.out;have:=HRL.out;omega,hn3,hi3,hbi3,hp3,HB3.out,HO3.out,HST3,HX.out⟩
     have hcb:(c != 0)=true:=by simpa using hc
     have hend:Hid (wR l=none):=KZ9 (hst.out.trans hnone);have HC:=KZ9 hc;clear hc hst hnone hb9 HNX HSTEP;go_wp2
     all_goals try omega
     go_ret2;exact ⟨⟨_,_,rfl,.inr ⟨HC.out,rfl,hend.out⟩⟩,by rw [←HG.out];exact HX.out⟩
theorem dg (v:Value) (pts:List Nat) (w:World) (hst:Nums w v pts) (hl:pts.length≤100000) (hbig:∀ p∈pts,p≤1152921504606846976):Calls Tryz.prog 252 #[v] w fun e w'=>(∃ s c,e= .returned (.tuple #[.string s,.int .i64 c])∧((c=0∧se pts=some (un s))∨(c≠0∧s=⟨#[]⟩∧se pts=none)))∧Below w.heap.size w w':=by
 obtain ⟨iB0,iB⟩:=info_parts yD;have hdef:Hid (se pts=if 256<pts.length then none else if pts.all xX=false then none else some (qi pts (zA pts).length pts.length 128 (zA pts++if (zA pts).length=0 then [] else [45]) 0 72 (zA pts).length)):=KZ9 rfl;obtain ⟨a,c,rfl,hn,hm,hc⟩:=hst.open;unfold maxLen at hm;have HC:=KZ9 hc;have HBIG:=KZ9 hbig;clear hc hst hbig;obtain ⟨n,hn0⟩:∃ n,pts.length=n:=⟨_,rfl⟩;rw [hn0] at hn hl hdef ⊢;have HN:=KZ9 hn0;clear hn0;by_cases hlong:256<n
 ·have g1:decide ((256:Int)<(n:Int))=true:=KZ7 (by omega);have hend:Hid (se pts=none):=KZ9 (by rw [hdef.out,if_pos hlong]);clear hdef;go_enter Tryz.func252,Tryz.ntmps252
  go_wp2
  all_goals try omega
  go_ret2;exact ⟨⟨_,_,rfl,.inr ⟨by decide,rfl,hend.out⟩⟩,Below.refl _ _⟩
 have g1:decide ((256:Int)<(n:Int))=false:=KZ8 (by omega);have hdef2:=KZ9 (hdef.out.trans (if_neg hlong));clear hdef;go_enter Tryz.func252,Tryz.ntmps252
 go_wp2
 all_goals try omega
 go_loopw [4,22] (fun ov iv wr=>∃ (k m:Nat),iv= .int .i64 k∧k≤n∧m≤k∧wr.ownsRow w.heap.size 5 1 ov m (zc (zA (pts.take k)))∧Hid (pts.all xX=(pts.drop k).all xX)∧Below w.heap.size w wr) (fun _ iv _=>n - (intOf iv).toNat)
 case atStart=>exact ⟨0,0,rfl,by omega,by omega,World.ownsRow_nil _ _ _ _,KZ9 (by rw [List.drop_zero]),Below.refl _ _⟩
 case round =>
  obtain ⟨k,m,rfl,hk,hmk,hown,hall,hnx⟩:=hrel;have hsz:=hnx.size;by_cases hlt:k<n
  ·obtain ⟨b,off,rfl,hb1,hcell⟩:=HC.out (by rw [HN.out];omega);have hkl:k<pts.length:=by rw [HN.out];exact hlt
   have c0w:=hcell k hkl;have c0:=((wj hnx).1 b (off+k) hb1).trans c0w;have hp:=HBIG.out pts[k] (List.getElem_mem hkl);have htk:Hid (pts.take (k+1)=pts.take k++[pts[k]]):=KZ9 (List.take_succ_eq_append_getElem hkl);have hda:=Yy pts xX k hkl;obtain ⟨p,hpp⟩:=KZ6 (pts[k]);rw [←hpp] at c0 c0w hp htk hda;have hpt:=fun W=>Zy p W hp;obtain ⟨ok,hok⟩:=KZ6 (xX p);rw [←hok] at hda;simp only [←hok] at hpt;have HP:=KZ9 hpt;have c1:∀ o,(wr.alloc o).cell? ⟨b,off+k,none⟩=some (.int .i64 (p:Int)):=fun o=>((wj ((Below.refl wr.heap.size wr).alloc (Nat.le_refl _) o)).1 b (off+k) (by omega)).trans c0;clear hcell hpp hok hpt hkl c0w;cases ok
   ·have hend:Hid (se pts=none):=KZ9 (by rw [hdef2.out,hall.out,hda];rfl);clear hall hda;go_wp2_with fail
    refine (HP.out _).mono ?_;rintro e w2 ⟨rfl,rfl⟩;go_wp2
    all_goals try omega
    go_ret2;exact ⟨⟨_,_,rfl,.inr ⟨by decide,rfl,hend.out⟩⟩,hnx⟩
   have hall2:Hid (pts.all xX=(pts.drop (k+1)).all xX):=KZ9 (by rw [hall.out,hda,Bool.true_and]);clear hall hda;by_cases hp128:p<128
   ·have g2:decide ((p:Int)<128)=true:=KZ7 (by omega);have hbb:=YN p (by omega);go_wp2_with fail
    refine (HP.out _).mono ?_;rintro e w2 ⟨rfl,rfl⟩;go_wp2_with (first | (at_builtin;refine wpList_append_own _ rfl (.tmp 31) (.tmp 34) 34 rfl (w.heap.size) 5 iB0 (.int .u8 0) 1 1 Tryz.underlying34 iB.1 iB.2.1 iB.2.2.1 iB.2.2.2 rfl (by decide) _ _ _ rfl (hown.alloc _) ⟨wr.heap.size,0,none⟩ 1 1 [_] rfl rfl (cell_one_new _ _ _) (by intro u hu;simp at hu;subst hu;rfl) (by unfold maxLen;omega) (by omega) (by simp;omega) ?_;intro v1 w3 hown1 hgrow1 hnil1))
    all_goals try omega
    go_roundw
    case rel =>
     refine ⟨k+1,m+1,by go_num,by omega,by omega,?_,hall2,(hnx.alloc (by omega) _).grown hgrow1 (by simp;omega) (fun j hj=>(hown.lt j hj).1)⟩;rw [htk.out,sP hp128,zz];have e:zc [UInt8.ofNat p]=[.int .u8 (p:Int)]:=by show [Value.int .u8 _]=_;rw [hbb]
     rw [e];exact hown1
    case measure=>simp [intOf];omega
   have g2:decide ((p:Int)<128)=false:=KZ8 (by omega);go_wp2_with fail
   refine (HP.out _).mono ?_;rintro e w2 ⟨rfl,rfl⟩;go_wp2
   all_goals try omega
   go_roundw
   case rel=>exact ⟨k+1,m,by go_num,by omega,by omega,by rw [htk.out,sQ hp128];exact hown,hall2,hnx⟩
   case measure=>simp [intOf];omega
  skip
  have hk9:pts.take k=pts:=List.take_of_length_le (by rw [HN.out];omega);have hall9:pts.all xX=true:=by rw [hall.out,List.drop_of_length_le (by rw [HN.out];omega)];rfl
  have HOK:=KZ9 (uF pts hall9);rw [hk9] at hown;have hm9:m=(zA pts).length:=by have:=hown.1;simp at this;omega
  have hes0:=dO pts (by rw [HN.out];omega);have hdef3:se pts=some (qi pts (zA pts).length pts.length 128 (zA pts++if (zA pts).length=0 then [] else [45]) 0 72 (zA pts).length):=by rw [hdef2.out,hall9,HN.out];rfl
  obtain ⟨R,hR⟩:=KZ6 (qi pts (zA pts).length pts.length 128 (zA pts++if (zA pts).length=0 then [] else [45]) 0 72 (zA pts).length);rw [←hR] at hes0 hdef3;rw [←hm9] at hes0;have HR:=KZ9 hdef3;obtain ⟨a2,c2,rfl⟩:=yk hown;clear hall hall9 hk9 hdef2 hdef3 hR;rcases Nat.eq_zero_or_pos m with h0 | h0
  ·obtain ⟨OUT0,hO⟩:=KZ6 (zA pts++if m=0 then ([]:Bs) else [45]);rw [←hO] at hes0;have hOe:OUT0=zA pts:=by rw [hO,if_pos h0,List.append_nil]
   have HES:=KZ9 hes0;have HOWN0:=KZ9 (show wr.ownsRow w.heap.size 5 1 (.slice a2 m c2) OUT0.length (zc OUT0) by rw [hOe,←hm9];exact hown);have HNX0:=KZ9 hnx;have g2:decide ((0:Int)<(m:Int))=false:=KZ8 (by omega);have g2n:decide (0<m)=false:=KZ8 (by omega);have h00:m≤0:=by omega
   clear hO hOe hes0 hown hm9 h0 hnx;go_wp2
   all_goals try omega
   go_loopw [4,8,9,10,11] (fun ov nv dv bv dnv wr=>∃ (out:Bs) (dn nn dl bi:Nat),dnv= .int .i64 dn∧nv= .int .i64 nn∧dv= .int .i64 dl∧bv= .int .i64 bi∧dn≤n∧nn≤1114112∧dl≤257∧bi≤324∧out.length≤257+11*dn∧wr.ownsRow w.heap.size 5 1 ov out.length (zc out)∧Hid (EncSt pts m R nn out dl bi dn)∧Below w.heap.size w wr) (fun _ _ _ _ dnv _=>n - (intOf dnv).toNat)
   case atStart=>exact ⟨OUT0,m,128,0,72,rfl,rfl,rfl,rfl,by omega,by omega,by omega,by omega,HES.out.fits,HOWN0.out,HES,HNX0.out⟩
   case round =>
    obtain ⟨out,dn,nn,dl,bi,rfl,rfl,rfl,rfl,hdn,hnn,hdl,hbi,hol,hown,hes,hnx⟩:=hrel;by_cases hlt:dn<n
    ·have hmore:=hes.out.more (by rw [HN.out];exact hlt) HOK.out;obtain ⟨M,hM⟩:=KZ6 (zv nn 1114112 pts);rw [←hM] at hmore;obtain ⟨hm1,hm2,hm3,hm4,hm5⟩:=hmore;have HM3:=KZ9 hm3;have HST0:Hid (min 1114112 (zv nn 1114112 (pts.drop 0))=M):=KZ9 (by rw [List.drop_zero,←hM];omega);have HMM:=KZ9 hM;clear hm5 hm3 hm4 hM;go_wp2
     all_goals try omega
     go_loop [12,53] (fun lv iv=>∃ k L:Nat,iv= .int .i64 k∧k≤n∧lv= .int .i64 L∧L≤1114112∧Hid (min L (zv nn 1114112 (pts.drop k))=M)) (fun _ iv=>n - (intOf iv).toNat)
     case atStart=>exact ⟨0,1114112,rfl,by omega,rfl,by omega,HST0⟩
     case round =>
      obtain ⟨k,L,rfl,hk,rfl,hL,hst⟩:=hrel;by_cases hkn:k<n
      ·obtain ⟨b,off,rfl,hb1,hcell⟩:=HC.out (by rw [HN.out];omega);have hkl:k<pts.length:=by rw [HN.out];exact hkn
       have c0:=((wj hnx).1 b (off+k) hb1).trans (hcell k hkl);have hp:=HOK.out pts[k] (List.getElem_mem hkl);have hd:Hid (pts.drop k=pts[k]::pts.drop (k+1)):=KZ9 (List.drop_eq_getElem_cons hkl);obtain ⟨p,hpp⟩:=KZ6 (pts[k]);rw [←hpp] at c0 hp hd;clear hcell hpp hkl;by_cases hge:nn≤p
       ·have g2:decide ((nn:Int)≤(p:Int))=true:=KZ7 (by omega);obtain ⟨L2,hL2⟩:=KZ6 (min L p);have hmin:min (L:Int) (p:Int)=(L2:Int):=by omega
        have hst2:Hid (min L2 (zv nn 1114112 (pts.drop (k+1)))=M):=KZ9 (by rw [←hst.out,hd.out,vh hge,hL2,Nat.min_assoc]);have hL2b:L2≤1114112:=by omega
        have HL2:=KZ9 hL2;clear hst hL2;go_wp2
        all_goals try omega
        go_round
        case rel=>exact ⟨k+1,L2,by go_num,by omega,(by have:=HL2.out;congr 1<;>split<;>omega),hL2b,hst2⟩
        case measure=>simp [intOf];omega
       have g2:decide ((nn:Int)≤(p:Int))=false:=KZ8 (by omega);have hst2:Hid (min L (zv nn 1114112 (pts.drop (k+1)))=M):=KZ9 (by rw [←hst.out,hd.out,vg hge]);clear hst;go_wp2
       all_goals try omega
       go_round
       case rel=>exact ⟨k+1,L,by go_num,by omega,rfl,hL,hst2⟩
       case measure=>simp [intOf];omega
      have hLM:L=M:=by
       have h1:=hst.out;rw [List.drop_of_length_le (by rw [HN.out];omega),zv] at h1;omega
      have HLM:=KZ9 hLM;have hL1:nn≤L:=by omega
      have hL2:L≤1114111:=by omega
      obtain ⟨Q,hQ⟩:=KZ6 ((L - nn)*(dn+1));have hQb:Q≤300000000:=by
       rw [hQ];exact Nat.le_trans (Nat.mul_le_mul (show L - nn≤1114111 by omega) (show dn+1≤257 by omega)) (by decide)
      have hmul:((L:Int) - (nn:Int))*((dn:Int)+1)=(Q:Int):=by
       rw [hQ,show (L:Int) - (nn:Int)=((L - nn:Nat):Int) by omega,show (dn:Int)+1=((dn+1:Nat):Int) by omega];rfl
      obtain ⟨S,hS⟩:=KZ6 (zr L m pts out (dl+Q) bi dn);have hSd:S.2.2.2≤n:=by
       rw [hS,zN,hLM];have h1:=hes.out.more (by rw [HN.out];exact hlt) HOK.out;rw [←HMM.out] at h1;have h2:=wZ M pts;have h3:=sO (M+1) pts;rw [HN.out] at h3;omega
      have hSN:Hid (S=zr (zv nn 1114112 pts) m pts out (dl+(zv nn 1114112 pts - nn)*(dn+1)) bi dn):=KZ9 (by rw [hS,←HMM.out,hQ,hLM]);have HP0:Hid (zr L m (pts.drop 0) out (dl+Q) bi dn=S):=KZ9 (by rw [List.drop_zero,hS]);have hSm:dn<S.2.2.2:=by
       rw [hS,zN];have:=wW HM3.out;rw [hLM];omega
      have hdl2:dl+Q≤300000300:=by omega
      have hSB:=KZ9 hSm;clear hst hQ hLM hS hSm;go_wp2
      all_goals try omega
      go_loopw [4,9,10,11,75] (fun ov dv bv dnv iv wr=>∃ (out:Bs) (dn dl bi k:Nat),dnv= .int .i64 dn∧dv= .int .i64 dl∧bv= .int .i64 bi∧iv= .int .i64 k∧k≤n∧dl≤300000300+k∧bi≤324∧out.length≤257+11*dn∧wr.ownsRow w.heap.size 5 1 ov out.length (zc out)∧Hid (zr L m (pts.drop k) out dl bi dn=S)∧Below w.heap.size w wr) (fun _ _ _ _ iv _=>n - (intOf iv).toNat)
      case atStart=>exact ⟨out,dn,dl+Q,bi,0,rfl,by go_num,rfl,rfl,by omega,by omega,by omega,by omega,hown,HP0,hnx⟩
      case round =>
       obtain ⟨out,dn,dl,bi,k,rfl,rfl,rfl,rfl,hk,hdl,hbi,hol,hown,hst4,hnx⟩:=hrel;have hsz:=hnx.size;have hdn:dn≤n:=by
        have h1:=zN L m (pts.drop k) out dl bi dn;rw [hst4.out] at h1;omega
       by_cases hkn:k<n
       ·obtain ⟨b,off,rfl,hb1,hcell⟩:=HC.out (by rw [HN.out];omega);have hkl:k<pts.length:=by rw [HN.out];exact hkn
        have c0:=((wj hnx).1 b (off+k) hb1).trans (hcell k hkl);have hp:=HOK.out pts[k] (List.getElem_mem hkl);have hdrop:Hid (pts.drop k=pts[k]::pts.drop (k+1)):=KZ9 (List.drop_eq_getElem_cons hkl);obtain ⟨p,hpp⟩:=KZ6 (pts[k]);rw [←hpp] at c0 hp hdrop;clear hcell hpp hkl;rcases Nat.lt_trichotomy p L with hpl | hpl | hpl
        ·have g2:decide ((p:Int)<(L:Int))=true:=KZ7 (by omega);have g3:((p:Int)==(L:Int))=false:=by simp;omega
         have hst5:Hid (zr L m (pts.drop (k+1)) out (dl+1) bi dn=S):=KZ9 (by rw [←hst4.out,hdrop.out,tT hpl]);clear hst4;go_wp2
         all_goals try omega
         go_roundw
         case rel=>exact ⟨out,dn,dl+1,bi,k+1,rfl,by go_num,rfl,by go_num,by omega,by omega,by omega,by omega,hown,hst5,hnx⟩
         case measure=>simp [intOf];omega
        ·have hpL:=KZ9 hpl;have hpl1:p≤L:=by omega
         have hpl2:L≤p:=by omega
         have g2:decide ((p:Int)<(L:Int))=false:=KZ8 (by omega);have g3:((p:Int)==(L:Int))=true:=by simp;omega
         clear hpl;have hlen5:=uj 9 dl 0 bi (by omega);have hnum:=de _ out.length (zc out) dl bi w.heap.size wr hown (by omega) (by omega) (by omega) (by omega);obtain ⟨T5,hT5⟩:=KZ6 (wQ dl 0 bi);rw [←hT5] at hlen5 hnum;obtain ⟨f,hff⟩:=KZ6 (decide (dn=m));have hfi:((dn:Int)==(m:Int))=f:=by rw [hff,Bool.eq_iff_iff];simp;omega
         have had:=fun W=>kj dl (dn+1) f W (by omega) (by omega) (by omega);rw [Int.natCast_add] at had;have hal:=vT dl (dn+1) f (by omega);obtain ⟨b2,hb2⟩:=KZ6 (xw dl (dn+1) f);simp only [←hb2] at had;rw [←hb2] at hal;have hnext:Hid (zr L m (pts.drop (k+1)) (out++T5) 0 b2 (dn+1)=S):=KZ9 (by rw [←hst4.out,hdrop.out,tV hpL.out,hT5,hb2,hff]);have HNUM:=KZ9 hnum;have HAD:=KZ9 had;clear hff hb2 had hnum hT5;go_wp2_with fail
         all_goals try omega
         refine HNUM.out.mono ?_;rintro e w2 ⟨⟨v2,rfl,hown2⟩,hb2w⟩;go_wp2_with fail
         all_goals try omega
         refine (HAD.out _).mono ?_;rintro e w3 ⟨rfl,rfl⟩;go_wp2
         all_goals try omega
         go_roundw
         case rel =>
          refine ⟨out++T5,dn+1,0,b2,k+1,by go_num,rfl,rfl,by go_num,by omega,by omega,by omega,by rw [List.length_append];omega,?_,hnext,hnx.trans hb2w⟩;rw [zz,List.length_append];exact hown2
         case measure=>simp [intOf];omega
        have g2:decide ((p:Int)<(L:Int))=false:=KZ8 (by omega);have g3:((p:Int)==(L:Int))=false:=by simp;omega
        have hst5:Hid (zr L m (pts.drop (k+1)) out dl bi dn=S):=KZ9 (by rw [←hst4.out,hdrop.out,tU hpl]);clear hst4;go_wp2
        all_goals try omega
        go_roundw
        case rel=>exact ⟨out,dn,dl,bi,k+1,rfl,rfl,rfl,by go_num,by omega,by omega,by omega,by omega,hown,hst5,hnx⟩
        case measure=>simp [intOf];omega
       have hSe:(out,dl,bi,dn)=S:=by rw [←hst4.out,List.drop_of_length_le (by rw [HN.out];omega)];rfl
       have hnext:=hes.out.next (by rw [HN.out];exact hlt) (by rw [HN.out];omega) HOK.out S hSN.out (by rw [←hSe];exact hol) (by rw [←hSe];exact hbi);rw [←HMM.out,←HLM.out,←hSe] at hnext;have HNX:=KZ9 hnext;have hdl9:dl+1≤257:=hnext.small;have hSB2:=hSB.out;rw [←hSe] at hSB2;simp only at hSB2;clear hst4 hSe hnext;go_wp2
       all_goals try omega
       go_roundw
       case rel=>exact ⟨out,dn,L+1,dl+1,bi,rfl,by go_num,by go_num,rfl,by omega,by omega,hdl9,by omega,by omega,hown,HNX,hnx⟩
       case measure=>simp [intOf];omega
    have hend:Hid (R=out):=KZ9 (hes.out.fin (by rw [HN.out];omega));have hcv:=yP (P:=Tryz.prog) (Row.owned hown) (src:=34) (dst:=9) Tryz.underlying34 Tryz.underlying5 Tryz.underlying9;clear hes;go_wp2
    all_goals try omega
    go_ret2;exact ⟨⟨_,_,rfl,.inl ⟨rfl,by rw [HR.out,hend.out,zk]⟩⟩,hnx⟩
  obtain ⟨OUT0,hO⟩:=KZ6 (zA pts++if m=0 then ([]:Bs) else [45]);rw [←hO] at hes0;have hOe:OUT0=zA pts++[45]:=by rw [hO,if_neg (by omega)]
  have HES:=KZ9 hes0;have HOE:=KZ9 hOe;have HM9:=KZ9 hm9;have g2:decide ((0:Int)<(m:Int))=true:=KZ7 (by omega);have g2n:decide (0<m)=true:=KZ7 (by omega);clear hO hOe hes0 hm9;go_wp2_with (first | (at_builtin;refine wpList_append_own _ rfl (.tmp 41) (.tmp 42) 34 rfl (w.heap.size) 5 iB0 (.int .u8 0) 1 1 Tryz.underlying34 iB.1 iB.2.1 iB.2.2.1 iB.2.2.2 rfl (by decide) _ _ _ rfl (hown.alloc _) ⟨wr.heap.size,0,none⟩ 1 1 [_] rfl rfl (cell_one_new _ _ _) (by intro u hu;simp at hu;subst hu;rfl) (by unfold maxLen;omega) (by omega) (by simp;omega) ?_;intro v1 w3 hown1 hgrow1 hnil1))
  all_goals try omega
  have HNX0:=KZ9 ((hnx.alloc (by omega) _).grown hgrow1 (by simp;omega) (fun j hj=>(hown.lt j hj).1));have HOWN0:=KZ9 (show w3.ownsRow w.heap.size 5 1 v1 OUT0.length (zc OUT0) by rw [HOE.out,zz,List.length_append,←HM9.out];exact hown1);clear hown hown1 hgrow1 hnil1 hnx;go_loopw [4,8,9,10,11] (fun ov nv dv bv dnv wr=>∃ (out:Bs) (dn nn dl bi:Nat),dnv= .int .i64 dn∧nv= .int .i64 nn∧dv= .int .i64 dl∧bv= .int .i64 bi∧dn≤n∧nn≤1114112∧dl≤257∧bi≤324∧out.length≤257+11*dn∧wr.ownsRow w.heap.size 5 1 ov out.length (zc out)∧Hid (EncSt pts m R nn out dl bi dn)∧Below w.heap.size w wr) (fun _ _ _ _ dnv _=>n - (intOf dnv).toNat)
  case atStart=>exact ⟨OUT0,m,128,0,72,rfl,rfl,rfl,rfl,by omega,by omega,by omega,by omega,HES.out.fits,HOWN0.out,HES,HNX0.out⟩
  case round =>
   obtain ⟨out,dn,nn,dl,bi,rfl,rfl,rfl,rfl,hdn,hnn,hdl,hbi,hol,hown,hes,hnx⟩:=hrel;by_cases hlt:dn<n
   ·have hmore:=hes.out.more (by rw [HN.out];exact hlt) HOK.out;obtain ⟨M,hM⟩:=KZ6 (zv nn 1114112 pts);rw [←hM] at hmore;obtain ⟨hm1,hm2,hm3,hm4,hm5⟩:=hmore;have HM3:=KZ9 hm3;have HST0:Hid (min 1114112 (zv nn 1114112 (pts.drop 0))=M):=KZ9 (by rw [List.drop_zero,←hM];omega);have HMM:=KZ9 hM;clear hm5 hm3 hm4 hM;go_wp2
    all_goals try omega
    go_loop [12,53] (fun lv iv=>∃ k L:Nat,iv= .int .i64 k∧k≤n∧lv= .int .i64 L∧L≤1114112∧Hid (min L (zv nn 1114112 (pts.drop k))=M)) (fun _ iv=>n - (intOf iv).toNat)
    case atStart=>exact ⟨0,1114112,rfl,by omega,rfl,by omega,HST0⟩
    case round =>
     obtain ⟨k,L,rfl,hk,rfl,hL,hst⟩:=hrel;by_cases hkn:k<n
     ·obtain ⟨b,off,rfl,hb1,hcell⟩:=HC.out (by rw [HN.out];omega);have hkl:k<pts.length:=by rw [HN.out];exact hkn
      have c0:=((wj hnx).1 b (off+k) hb1).trans (hcell k hkl);have hp:=HOK.out pts[k] (List.getElem_mem hkl);have hd:Hid (pts.drop k=pts[k]::pts.drop (k+1)):=KZ9 (List.drop_eq_getElem_cons hkl);obtain ⟨p,hpp⟩:=KZ6 (pts[k]);rw [←hpp] at c0 hp hd;clear hcell hpp hkl;by_cases hge:nn≤p
      ·have g2:decide ((nn:Int)≤(p:Int))=true:=KZ7 (by omega);obtain ⟨L2,hL2⟩:=KZ6 (min L p);have hmin:min (L:Int) (p:Int)=(L2:Int):=by omega
       have hst2:Hid (min L2 (zv nn 1114112 (pts.drop (k+1)))=M):=KZ9 (by rw [←hst.out,hd.out,vh hge,hL2,Nat.min_assoc]);have hL2b:L2≤1114112:=by omega
       have HL2:=KZ9 hL2;clear hst hL2;go_wp2
       all_goals try omega
       go_round
       case rel=>exact ⟨k+1,L2,by go_num,by omega,(by have:=HL2.out;congr 1<;>split<;>omega),hL2b,hst2⟩
       case measure=>simp [intOf];omega
      have g2:decide ((nn:Int)≤(p:Int))=false:=KZ8 (by omega);have hst2:Hid (min L (zv nn 1114112 (pts.drop (k+1)))=M):=KZ9 (by rw [←hst.out,hd.out,vg hge]);clear hst;go_wp2
      all_goals try omega
      go_round
      case rel=>exact ⟨k+1,L,by go_num,by omega,rfl,hL,hst2⟩
      case measure=>simp [intOf];omega
     have hLM:L=M:=by
      have h1:=hst.out;rw [List.drop_of_length_le (by rw [HN.out];omega),zv] at h1;omega
     have HLM:=KZ9 hLM;have hL1:nn≤L:=by omega
     have hL2:L≤1114111:=by omega
     obtain ⟨Q,hQ⟩:=KZ6 ((L - nn)*(dn+1));have hQb:Q≤300000000:=by
      rw [hQ];exact Nat.le_trans (Nat.mul_le_mul (show L - nn≤1114111 by omega) (show dn+1≤257 by omega)) (by decide)
     have hmul:((L:Int) - (nn:Int))*((dn:Int)+1)=(Q:Int):=by
      rw [hQ,show (L:Int) - (nn:Int)=((L - nn:Nat):Int) by omega,show (dn:Int)+1=((dn+1:Nat):Int) by omega];rfl
     obtain ⟨S,hS⟩:=KZ6 (zr L m pts out (dl+Q) bi dn);have hSd:S.2.2.2≤n:=by
      rw [hS,zN,hLM];have h1:=hes.out.more (by rw [HN.out];exact hlt) HOK.out;rw [←HMM.out] at h1;have h2:=wZ M pts;have h3:=sO (M+1) pts;rw [HN.out] at h3;omega
     have hSN:Hid (S=zr (zv nn 1114112 pts) m pts out (dl+(zv nn 1114112 pts - nn)*(dn+1)) bi dn):=KZ9 (by rw [hS,←HMM.out,hQ,hLM]);have HP0:Hid (zr L m (pts.drop 0) out (dl+Q) bi dn=S):=KZ9 (by rw [List.drop_zero,hS]);have hSm:dn<S.2.2.2:=by
      rw [hS,zN];have:=wW HM3.out;rw [hLM];omega
     have hdl2:dl+Q≤300000300:=by omega
     have hSB:=KZ9 hSm;clear hst hQ hLM hS hSm;go_wp2
     all_goals try omega
     go_loopw [4,9,10,11,75] (fun ov dv bv dnv iv wr=>∃ (out:Bs) (dn dl bi k:Nat),dnv= .int .i64 dn∧dv= .int .i64 dl∧bv= .int .i64 bi∧iv= .int .i64 k∧k≤n∧dl≤300000300+k∧bi≤324∧out.length≤257+11*dn∧wr.ownsRow w.heap.size 5 1 ov out.length (zc out)∧Hid (zr L m (pts.drop k) out dl bi dn=S)∧Below w.heap.size w wr) (fun _ _ _ _ iv _=>n - (intOf iv).toNat)
     case atStart=>exact ⟨out,dn,dl+Q,bi,0,rfl,by go_num,rfl,rfl,by omega,by omega,by omega,by omega,hown,HP0,hnx⟩
     case round =>
      obtain ⟨out,dn,dl,bi,k,rfl,rfl,rfl,rfl,hk,hdl,hbi,hol,hown,hst4,hnx⟩:=hrel;have hsz:=hnx.size;have hdn:dn≤n:=by
       have h1:=zN L m (pts.drop k) out dl bi dn;rw [hst4.out] at h1;omega
      by_cases hkn:k<n
      ·obtain ⟨b,off,rfl,hb1,hcell⟩:=HC.out (by rw [HN.out];omega);have hkl:k<pts.length:=by rw [HN.out];exact hkn
       have c0:=((wj hnx).1 b (off+k) hb1).trans (hcell k hkl);have hp:=HOK.out pts[k] (List.getElem_mem hkl);have hdrop:Hid (pts.drop k=pts[k]::pts.drop (k+1)):=KZ9 (List.drop_eq_getElem_cons hkl);obtain ⟨p,hpp⟩:=KZ6 (pts[k]);rw [←hpp] at c0 hp hdrop;clear hcell hpp hkl;rcases Nat.lt_trichotomy p L with hpl | hpl | hpl
       ·have g2:decide ((p:Int)<(L:Int))=true:=KZ7 (by omega);have g3:((p:Int)==(L:Int))=false:=by simp;omega
        have hst5:Hid (zr L m (pts.drop (k+1)) out (dl+1) bi dn=S):=KZ9 (by rw [←hst4.out,hdrop.out,tT hpl]);clear hst4;go_wp2
        all_goals try omega
        go_roundw
        case rel=>exact ⟨out,dn,dl+1,bi,k+1,rfl,by go_num,rfl,by go_num,by omega,by omega,by omega,by omega,hown,hst5,hnx⟩
        case measure=>simp [intOf];omega
       ·have hpL:=KZ9 hpl;have hpl1:p≤L:=by omega
        have hpl2:L≤p:=by omega
        have g2:decide ((p:Int)<(L:Int))=false:=KZ8 (by omega);have g3:((p:Int)==(L:Int))=true:=by simp;omega
        clear hpl;have hlen5:=uj 9 dl 0 bi (by omega);have hnum:=de _ out.length (zc out) dl bi w.heap.size wr hown (by omega) (by omega) (by omega) (by omega);obtain ⟨T5,hT5⟩:=KZ6 (wQ dl 0 bi);rw [←hT5] at hlen5 hnum;obtain ⟨f,hff⟩:=KZ6 (decide (dn=m));have hfi:((dn:Int)==(m:Int))=f:=by rw [hff,Bool.eq_iff_iff];simp;omega
        have had:=fun W=>kj dl (dn+1) f W (by omega) (by omega) (by omega);rw [Int.natCast_add] at had;have hal:=vT dl (dn+1) f (by omega);obtain ⟨b2,hb2⟩:=KZ6 (xw dl (dn+1) f);simp only [←hb2] at had;rw [←hb2] at hal;have hnext:Hid (zr L m (pts.drop (k+1)) (out++T5) 0 b2 (dn+1)=S):=KZ9 (by rw [←hst4.out,hdrop.out,tV hpL.out,hT5,hb2,hff]);have HNUM:=KZ9 hnum;have HAD:=KZ9 had;clear hff hb2 had hnum hT5;go_wp2_with fail
        all_goals try omega
        refine HNUM.out.mono ?_;rintro e w2 ⟨⟨v2,rfl,hown2⟩,hb2w⟩;go_wp2_with fail
        all_goals try omega
        refine (HAD.out _).mono ?_;rintro e w3 ⟨rfl,rfl⟩;go_wp2
        all_goals try omega
        go_roundw
        case rel =>
         refine ⟨out++T5,dn+1,0,b2,k+1,by go_num,rfl,rfl,by go_num,by omega,by omega,by omega,by rw [List.length_append];omega,?_,hnext,hnx.trans hb2w⟩;rw [zz,List.length_append];exact hown2
        case measure=>simp [intOf];omega
       have g2:decide ((p:Int)<(L:Int))=false:=KZ8 (by omega);have g3:((p:Int)==(L:Int))=false:=by simp;omega
       have hst5:Hid (zr L m (pts.drop (k+1)) out dl bi dn=S):=KZ9 (by rw [←hst4.out,hdrop.out,tU hpl]);clear hst4;go_wp2
       all_goals try omega
       go_roundw
       case rel=>exact ⟨out,dn,dl,bi,k+1,rfl,rfl,rfl,by go_num,by omega,by omega,by omega,by omega,hown,hst5,hnx⟩
       case measure=>simp [intOf];omega
      have hSe:(out,dl,bi,dn)=S:=by rw [←hst4.out,List.drop_of_length_le (by rw [HN.out];omega)];rfl
      have hnext:=hes.out.next (by rw [HN.out];exact hlt) (by rw [HN.out];omega) HOK.out S hSN.out (by rw [←hSe];exact hol) (by rw [←hSe];exact hbi);rw [←HMM.out,←HLM.out,←hSe] at hnext;have HNX:=KZ9 hnext;have hdl9:dl+1≤257:=hnext.small;have hSB2:=hSB.out;rw [←hSe] at hSB2;simp only at hSB2;clear hst4 hSe hnext;go_wp2
      all_goals try omega
      go_roundw
      case rel=>exact ⟨out,dn,L+1,dl+1,bi,rfl,by go_num,by go_num,rfl,by omega,by omega,hdl9,by omega,by omega,hown,HNX,hnx⟩
      case measure=>simp [intOf];omega
   have hend:Hid (R=out):=KZ9 (hes.out.fin (by rw [HN.out];omega));have hcv:=yP (P:=Tryz.prog) (Row.owned hown) (src:=34) (dst:=9) Tryz.underlying34 Tryz.underlying5 Tryz.underlying9;clear hes;go_wp2
   all_goals try omega
   go_ret2;exact ⟨⟨_,_,rfl,.inl ⟨rfl,by rw [HR.out,hend.out,zk]⟩⟩,hnx⟩
theorem Ub (s:ByteArray) (w:World) (hs:s.size≤100000000):Calls Tryz.prog 177 #[.string s] w fun e w'=>e= .returned (.bool (ut (un s)))∧Below w.heap.size w w':=by
 have hdec:=Uc s w hs;have HDEC:=KZ9 hdec;clear hdec;go_enter Tryz.func177,Tryz.ntmps177
 go_wp2_with fail
 refine HDEC.out.mono ?_;rintro e w2 ⟨⟨v,c,rfl,hres⟩,hb2⟩;have HB2:=KZ9 hb2;clear hb2 HDEC;rcases hres with ⟨rfl,pts,hdv,hown⟩ | ⟨hc,rfl,hnone⟩
 ·have hok:=Vp hdv;have hP:=qu hdv;have hbig:∀ p∈pts,p≤1152921504606846976:=fun p hp=>by have:=uF pts hok.1 p hp;omega
  have hN:=Nums.owned hown;have henc:=dg v pts w2 hN (by omega) hbig;have HP:=KZ9 hP;obtain ⟨a,cp,rfl,hn1,hn2,hcell⟩:=hN.open;have hlen:pts.length≤256:=hok.2;have HCELL:=KZ9 hcell;obtain ⟨m,hm⟩:=KZ6 pts.length;rw [←hm] at hlen hn1 henc ⊢;have HM:=KZ9 hm;have HENC:=KZ9 henc;clear hdv hP hbig hok hown hN henc hcell hm;go_wp2
  all_goals try omega
  go_loop [5,18] (fun ov iv=>∃ (k:Nat) (b:Bool),iv= .int .i64 k∧ov= .bool (!b)∧k≤m∧Hid (b=(pts.take k).any (fun n=>decide (128≤n)))∧Hid ((pts.take k).any (fun n=>decide (65≤n∧n≤90))=false)) (fun _ iv=>m - (intOf iv).toNat)
  case atStart=>exact ⟨0,false,rfl,rfl,by omega,KZ9 rfl,KZ9 rfl⟩
  case round =>
   obtain ⟨k,b,rfl,rfl,hk,hb,hu⟩:=hrel;by_cases hlt:k<m
   ·have hkl:k<pts.length:=by rw [←HM.out];exact hlt
    obtain ⟨B,off,rfl,hB,hcell⟩:=HCELL.out (by omega);have c0:=hcell k hkl;have hb2:=vm pts (fun n=>decide (128≤n)) k hkl;have hu2:=vm pts (fun n=>decide (65≤n∧n≤90)) k hkl;have ht2:=rD pts (fun n=>decide (65≤n∧n≤90)) k hkl;rw [←hb.out] at hb2;rw [hu.out,Bool.false_or] at hu2;obtain ⟨x,hx⟩:=KZ6 (pts[k]);rw [←hx] at c0 hb2 hu2 ht2;have HB:=KZ9 hb2;have HU:=KZ9 hu2;have HT:=KZ9 ht2;clear hcell hx hb2 hu2 ht2 hb hu hkl;by_cases hup:65≤x∧x≤90
    ·have hfin:=KZ9 (HP.out.trans (by rw [HT.out (KZ7 hup)]));have g1:decide ((65:Int)≤(x:Int))=true:=KZ7 (by omega);have g2:decide ((x:Int)≤90)=true:=KZ7 (by omega);have g3:decide ((x:Int)<128)=true:=KZ7 (by omega);clear HP HU HT HENC;cases b
     all_goals
      go_wp2
      all_goals try omega
      go_ret;rw [hfin.out];exact ⟨rfl,HB2.out⟩
    have hu3:Hid ((pts.take (k+1)).any (fun n=>decide (65≤n∧n≤90))=false):=KZ9 (HU.out.trans (KZ8 hup));clear HU HT;have hsplit:x<65∨(90<x∧x<128)∨128≤x:=by omega
    rcases hsplit with h1 | ⟨h1,h2⟩ | h1
    ·have g1:decide ((65:Int)≤(x:Int))=false:=KZ8 (by omega);have g3:decide ((x:Int)<128)=true:=KZ7 (by omega);have hB3:=HB.out;rw [show decide (128≤x)=false from KZ8 (by omega),Bool.or_false] at hB3;have HB3:=KZ9 hB3;clear hB3 HB;cases b
     ·go_wp2
      all_goals try omega
      go_round
      case rel=>exact ⟨k+1,false,by go_num,rfl,by omega,KZ9 HB3.out.symm,hu3⟩
      case measure=>simp [intOf];omega
     go_wp2
     all_goals try omega
     go_round
     case rel=>exact ⟨k+1,true,by go_num,rfl,by omega,KZ9 HB3.out.symm,hu3⟩
     case measure=>simp [intOf];omega
    ·have g1:decide ((65:Int)≤(x:Int))=true:=KZ7 (by omega);have g2:decide ((x:Int)≤90)=false:=KZ8 (by omega);have g3:decide ((x:Int)<128)=true:=KZ7 (by omega);have hB3:=HB.out;rw [show decide (128≤x)=false from KZ8 (by omega),Bool.or_false] at hB3;have HB3:=KZ9 hB3;clear hB3 HB;cases b
     ·go_wp2
      all_goals try omega
      go_round
      case rel=>exact ⟨k+1,false,by go_num,rfl,by omega,KZ9 HB3.out.symm,hu3⟩
      case measure=>simp [intOf];omega
     go_wp2
     all_goals try omega
     go_round
     case rel=>exact ⟨k+1,true,by go_num,rfl,by omega,KZ9 HB3.out.symm,hu3⟩
     case measure=>simp [intOf];omega
    have g1:decide ((65:Int)≤(x:Int))=true:=KZ7 (by omega);have g2:decide ((x:Int)≤90)=false:=KZ8 (by omega);have g3:decide ((x:Int)<128)=false:=KZ8 (by omega);have hB3:=HB.out;rw [show decide (128≤x)=true from KZ7 (by omega),Bool.or_true] at hB3;have HB3:=KZ9 hB3;clear hB3 HB;cases b
    all_goals
     go_wp2
     all_goals try omega
     go_round
     case rel=>exact ⟨k+1,true,by go_num,rfl,by omega,KZ9 HB3.out.symm,hu3⟩
     case measure=>simp [intOf];omega
   have hkm:pts.take k=pts:=List.take_of_length_le (by rw [←HM.out];omega);have hb2:=hb.out;have hu2:=hu.out;rw [hkm] at hb2 hu2;have hP2:=HP.out;rw [hu2,←hb2,Bool.not_false,Bool.true_and] at hP2;have HP2:=KZ9 hP2;clear HP hb hu hb2 hu2 hP2 hkm;go_wp2_with fail
   all_goals try omega
   refine HENC.out.mono ?_;rintro e w3 ⟨⟨s3,c3,rfl,hres⟩,hb3⟩;have HB3:=KZ9 (HB2.out.trans (hb3.mono HB2.out.size));clear hb3 HENC;rcases hres with ⟨rfl,henc⟩ | ⟨hc3,rfl,henc⟩
   ·have hP3:=HP2.out;rw [henc] at hP3;have HP3:=KZ9 hP3;clear HP2 hP3 henc;by_cases he:un s3=un s
    ·have hq:(s3.toList==s.toList)=true:=by rw [zy,zy,he];simp
     have hF:=HP3.out;rw [he,KZ7 rfl,Bool.and_true] at hF;have HF:=KZ9 hF;clear HP3 hF he;cases b
     all_goals
      go_wp2
      all_goals try omega
      go_ret;rw [HF.out];exact ⟨rfl,HB3.out⟩
    have hq:(s3.toList==s.toList)=false:=by rw [zy,zy];simpa using he
    have hF:=HP3.out;rw [KZ8 (by intro h;exact he (Option.some.inj h)),Bool.and_false] at hF;have HF:=KZ9 hF;clear HP3 hF he;cases b
    all_goals
     go_wp2
     all_goals try omega
     go_ret;rw [HF.out];exact ⟨rfl,HB3.out⟩
   have hP3:=HP2.out;rw [henc] at hP3;have g4:(c3==0)=false:=by simpa using hc3
   have HP3:=KZ9 hP3;clear HP2 hP3 henc hc3;cases b
   all_goals
    go_wp2
    all_goals try omega
    go_ret;rw [HP3.out];exact ⟨by simp,HB3.out⟩
 have hcb:(c != 0)=true:=by simpa using hc
 have hP:=KZ9 (qw hnone);clear hc hnone;go_wp2
 all_goals try omega
 go_ret;rw [hP.out];exact ⟨rfl,HB2.out⟩
end Go.Proofs.YtbnnlkdhpifpeaaGreatDoor
namespace Hs
open Go Go.RowKit
theorem tP (l p:Bs):Lib.hasPrefix l p=decide (l.take p.length=p):=by
 unfold Lib.hasPrefix;rw [Bool.eq_iff_iff,decide_eq_true_eq,List.isPrefixOf_iff_prefix,List.prefix_iff_eq_take];exact eq_comm
theorem rt (l p:Bs):Lib.trimPrefix l p=if l.take p.length=p then l.drop p.length else l:=by
 unfold Lib.trimPrefix;rw [tP];by_cases h:l.take p.length=p<;>simp [h]
end Hs
namespace Go.Proofs.YtbnnlkdhpifpeaaGreatDoor
open Go.RowKit Hs
theorem rz (s p:ByteArray) (w:World):Calls Tryz.prog 138 #[.string s,.string p] w fun e w'=>e= .returned (.tuple #[.string (mk (if (un s).take p.size=un p then (un s).drop p.size else un s)),.bool (decide ((un s).take p.size=un p))])∧w=w':=by
 refine (Tryz.strings_CutPrefix s p w).mono ?_;rintro e w' ⟨rfl,rfl⟩;refine ⟨?_,rfl⟩;have h1:=tP (un s) (un p);have h2:=rt (un s) (un p);rw [za] at h1 h2;rw [←h1,←h2];rfl
theorem UA (s:ByteArray) (w:World):Calls Tryz.prog 138 #[.string s,.string ⟨#[120,110,45,45]⟩] w fun e w'=>e= .returned (.tuple #[.string (mk (if (un s).take 4=[120,110,45,45] then (un s).drop 4 else un s)),.bool (decide ((un s).take 4=[120,110,45,45]))])∧w=w':=rz s ⟨#[120,110,45,45]⟩ w
set_option maxRecDepth 20000
set_option maxHeartbeats 4000000
theorem kg (s:ByteArray) (w:World) (hs:s.size≤100000000):Calls Tryz.prog 115 #[.string s] w fun e w'=>e= .returned (.bool (zY (un s)))∧Below w.heap.size w w':=by
 have hlen:(un s).length=s.size:=za s;have hF:=@qK (un s);have hG:=@pY (un s);rcases Nat.eq_zero_or_pos s.size with h0 | hpos
 ·have hfin:=KZ9 (hF (by rw [hlen];omega));have hsE:s=⟨#[]⟩:=by
   apply pi;exact List.eq_nil_of_length_eq_zero (by omega)
  subst hsE;clear hF hG hlen h0 hs;go_enter Tryz.func115,Tryz.ntmps115
  go_wp2
  all_goals try omega
  go_ret;rw [hfin.out];exact ⟨rfl,Below.refl _ _⟩
 have hh:=Vf s hpos;have hl:=WZ s hpos;rw [hh,hl,hlen] at hF hG;obtain ⟨n,hn⟩:=KZ6 s.size;have hem:s.toList.isEmpty=false:=by
  rw [List.isEmpty_eq_false_iff,zy];intro h;rw [h] at hlen;simp at hlen;omega
 have hp1:s.size - 1<s.size:=by omega
 have hF63:=KZ9 (fun h:63<s.size=>hF (by omega));have hF0:=KZ9 (fun h:s[0].toNat=45=>hF (by rw [Qk h];simp));have hFz:=KZ9 (fun h:(s[s.size - 1]'hp1).toNat=45=>hF (by rw [Qk h];simp));have hGG:=KZ9 (fun (h1:¬ 63<s.size) (h2:s[0].toNat≠45) (h3:(s[s.size - 1]'hp1).toNat≠45)=>hG ⟨by omega,by omega,by simpa using RR h2,by simpa using RR h3⟩);clear hF hG hh hl;go_enter Tryz.func115,Tryz.ntmps115
 by_cases h63:63<s.size
 ·have hfin:=KZ9 (hF63.out h63);clear hF63 hF0 hFz hGG;go_wp2
  all_goals try omega
  go_ret;rw [hfin.out];exact ⟨rfl,Below.refl _ _⟩
 have g0:decide ((63:Int)<(s.size:Int))=false:=KZ8 (by omega);by_cases hA:s[0].toNat=45
 ·have hfin:=KZ9 (hF0.out hA);have c0:(s[0].toNat:Int)=45:=by omega
  clear hF63 hF0 hFz hGG hA;go_wp2
  all_goals try omega
  go_ret;rw [hfin.out];exact ⟨rfl,Below.refl _ _⟩
 by_cases hZ:(s[s.size - 1]'hp1).toNat=45
 ·have hfin:=KZ9 (hFz.out hZ);have g1:((s[0].toNat:Int)==45)=false:=by simp;omega
  have c1:((s[s.size - 1]'hp1).toNat:Int)=45:=by omega
  clear hF63 hF0 hFz hGG hA hZ;go_wp2
  all_goals try omega
  go_ret;rw [hfin.out];exact ⟨rfl,Below.refl _ _⟩
 have hdef:=hGG.out h63 hA hZ;have g1:((s[0].toNat:Int)==45)=false:=by simp;omega
 have g2:(((s[s.size - 1]'hp1).toNat:Int)==45)=false:=by simp;omega
 obtain ⟨l,hl⟩:=KZ6 (un s);rw [←hl] at hdef hlen ⊢;have HL:=KZ9 hl;have HDEF:=KZ9 hdef;have HLEN:=KZ9 hlen;clear hF63 hF0 hFz hGG hA hZ hdef hl hlen;go_wp2
 all_goals try omega
 clear g1 g2 g0;go_loop [30] (fun iv=>∃ k:Nat,iv= .int .i64 k∧k≤s.size∧Hid (l.all t8=(l.drop k).all t8)) (fun iv=>s.size - (intOf iv).toNat)
 case atStart=>exact ⟨0,rfl,by omega,KZ9 (by rw [List.drop_zero])⟩
 case round =>
  obtain ⟨k,rfl,hk,hall⟩:=hrel;by_cases hlt:k<s.size
  ·have hkl:k<l.length:=by rw [HLEN.out];exact hlt
   have hx:l[k]=s[k]:=by
    have:=HL.out;subst this;exact zR s k hlt
   have hstep:=rF l t8 k hkl;rw [hx] at hstep;have hb256:=(s[k]).toNat_lt;have hlab:t8 s[k]=decide ((97≤(s[k]).toNat∧(s[k]).toNat≤122)∨(48≤(s[k]).toNat∧(s[k]).toNat≤57)∨(s[k]).toNat=45∨(s[k]).toNat=95):=rfl;obtain ⟨x,hx2⟩:=KZ6 ((s[k]).toNat);have cs:(s[k].toNat:Int)=(x:Int):=by rw [hx2]
   rw [←hx2] at hb256 hlab;rw [hlab] at hstep;have HST:=KZ9 hstep;clear hstep hlab hx hx2 hkl;by_cases hok:(97≤x∧x≤122)∨(48≤x∧x≤57)∨x=45∨x=95
   ·have hall2:Hid (l.all t8=(l.drop (k+1)).all t8):=KZ9 (by rw [hall.out,HST.out,KZ7 hok,Bool.true_and]);clear hall HST;rcases hok with hok | hok | rfl | rfl
    all_goals
     go_wp2
     all_goals try omega
     go_round
     case rel=>exact ⟨k+1,by go_num,by omega,hall2⟩
     case measure=>simp [intOf];omega
   have hfin:Hid (zY l=false):=KZ9 (by rw [HDEF.out,hall.out,HST.out,KZ8 hok];rfl);have g45:((x:Int) != 45)=true:=by simp;omega
   have g95:((x:Int) != 95)=true:=by simp;omega
   clear hall HST HDEF;go_wp2
   all_goals try omega
   all_goals
    go_ret;rw [hfin.out];exact ⟨rfl,Below.refl _ _⟩
  have hall2:l.all t8=true:=by rw [hall.out,List.drop_of_length_le (by rw [HLEN.out];omega)];rfl
  have hdef2:=HDEF.out;rw [hall2,Bool.true_and] at hdef2;have HDEF2:=KZ9 hdef2;clear hdef2 hall2 hall HDEF;have hcp:=UA s w;rw [←HL.out] at hcp;have HCP:=KZ9 hcp;clear hcp;by_cases hp:l.take 4=[120,110,45,45]
  ·have hfin:=HDEF2.out;rw [KZ7 hp,Bool.not_true,Bool.false_or] at hfin;have HFIN:=KZ9 hfin;have hcp2:=HCP.out;rw [if_pos hp,KZ7 hp] at hcp2;have HCP2:=KZ9 hcp2;have hpr:=Ub (mk (l.drop 4)) w (by rw [zi,List.length_drop,HLEN.out];omega);rw [zk] at hpr;have HPR:=KZ9 hpr;clear HDEF2 hfin hp hcp2 HCP hpr;go_wp2_with fail
   all_goals try omega
   refine HCP2.out.mono ?_;rintro e w9 ⟨rfl,rfl⟩;go_wp2_with fail
   all_goals try omega
   refine HPR.out.mono ?_;rintro e w8 ⟨rfl,hb8⟩;go_wp2
   all_goals try omega
   go_ret;rw [HFIN.out];exact ⟨rfl,hb8⟩
  have hfin:=HDEF2.out;rw [KZ8 hp,Bool.not_false,Bool.true_or] at hfin;have HFIN:=KZ9 hfin;have hcp2:=HCP.out;rw [if_neg hp,KZ8 hp] at hcp2;have HCP2:=KZ9 hcp2;clear HDEF2 hfin hp hcp2 HCP;go_wp2_with fail
  all_goals try omega
  refine HCP2.out.mono ?_;rintro e w9 ⟨rfl,rfl⟩;go_wp2
  all_goals try omega
  go_ret;rw [HFIN.out];exact ⟨rfl,Below.refl _ _⟩
end Go.Proofs.YtbnnlkdhpifpeaaGreatDoor
