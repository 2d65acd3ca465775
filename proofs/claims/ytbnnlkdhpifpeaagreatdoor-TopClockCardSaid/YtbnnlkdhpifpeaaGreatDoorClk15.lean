/- What the proof of TopClock uses, part Clk15. -/
import Derived.Test.YtbnnlkdhpifpeaaGreatDoorClk14
set_option linter.unusedSimpArgs false
set_option linter.unusedVariables false
namespace Hs
open Go
end Hs
namespace Go.Proofs.YtbnnlkdhpifpeaaGreatDoor
open Go.RowKit Hs
def TL (w:World) (q q2:Option Addr) (T:List PinP) (L:List EntP):Prop:=TabG w (.pointer q) T∧LisG w (.pointer q2) L
theorem TL.below {w w':World} {q q2:Option Addr} {T:List PinP} {L:List EntP} (h:TL w q q2 T L) (hb:Below w.heap.size w w'):TL w' q q2 T L:=⟨h.1.below hb,h.2.below hb⟩
theorem UU (now:Int) (T:List PinP) (L:List EntP) (x:Bs) (exact:Bool):covAt now T L x exact=if ((kS T x).2&&(!(decide ((kS T x).1.expiry≤now))&&(exact||(kS T x).1.sub)))=true then some ⟨1,x,exact⟩ else if ((jm L x).2&&(exact||(jm L x).1.sub))=true then some ⟨2,x,exact⟩ else none:=by
 have hl:covAt.covL L x exact=if ((jm L x).2&&(exact||(jm L x).1.sub))=true then some ⟨2,x,exact⟩ else none:=by
  unfold covAt.covL jm;cases L.find? (fun p=>decide (p.host=x)) with
  | none=>simp
  | some p=>simp
 unfold covAt;rw [hl];unfold kS;cases T.find? (fun p=>decide (p.host=x)) with
 | none=>simp
 | some p=>simp
set_option maxRecDepth 20000
set_option maxHeartbeats 8000000
theorem Qt (now:Int) (q q2:Option Addr) (T:List PinP) (L:List EntP) (x:Bs) (exact:Bool) (w:World) (ht:TL w q q2 T L) (hx:x.length≤100000):Calls Tryz.prog 170 #[.int .i64 now,.pointer q,.pointer q2,.string (mk x),.bool exact] w fun e w'=>e= .returned (.tuple #[.agg (zw ((covAt now T L x exact).getD cov0)).toArray,.bool (covAt now T L x exact).isSome])∧Below w.heap.size w w':=by
 obtain ⟨W0,hW0⟩:=KZ6 (w.alloc (.cells #[.int .i64 0,.string ⟨#[]⟩,.bool false] 204));have hbA:Below w.heap.size w W0:=by rw [hW0];exact (Below.refl _ w).alloc (Nat.le_refl _) _
 have hr0:BlkL W0 w.heap.size 204 (zw cov0):=by rw [hW0];exact BlkL.new w _ _
 have hsz:W0.heap.size=w.heap.size+1:=by rw [hW0];simp
 have HW0:=KZ9 hW0.symm;have HG:=KZ9 (RI (.pointer q) T x W0 (ht.1.below hbA) hx);have HPG0:=KZ9 (fun (W1:World) (h1:Below W0.heap.size W0 W1)=>RK (.pointer q2) L x W1 ((ht.2.below hbA).below h1) hx);have hdef:=UU now T L x exact;obtain ⟨⟨p,ok⟩,hp⟩:∃ p,p=kS T x:=⟨_,rfl⟩;obtain ⟨⟨en,ok2⟩,hen⟩:∃ p,p=jm L x:=⟨_,rfl⟩;rw [←hp] at HG hdef;rw [←hen] at hdef;simp only [←hen] at HPG0;simp only at HG hdef;obtain ⟨o,ho⟩:=KZ6 (covAt now T L x exact);rw [←ho] at hdef ⊢;have HDEF:=KZ9 hdef;have HR0:=KZ9 hr0;have HBA:=KZ9 hbA;clear hW0 hbA hr0 hp hen hdef ht ho;go_enter Tryz.func170,Tryz.ntmps170
 go_upto_region 1 with fail
 rw [HW0.out];clear HW0;go_wp2_with fail
 refine HG.out.mono ?_;rintro e w1 ⟨rfl,hb1⟩;have hs1:=hb1.size;have HR1:=KZ9 (HR0.out.below (by omega) hb1);have HA1:=KZ9 (HBA.out.trans (hb1.mono (by omega)));have HN:=KZ9 (heap_alloc_new w1 (.cells (zx ⟨[],false,0⟩).toArray 64));have hY:=(BlkL.new w1 64 (zx ⟨[],false,0⟩)).setRow (zx p);have hR2:=(HR1.out.alloc (.cells (zx ⟨[],false,0⟩).toArray 64)).setRow_other (show w.heap.size≠w1.heap.size by omega) (zx p).toArray;have hA2:=below_setRow (HA1.out.alloc (by omega) (.cells (zx ⟨[],false,0⟩).toArray 64)) (show w.heap.size≤w1.heap.size by omega) (zx p).toArray;have hA2':=below_setRow (hb1.alloc hs1 (.cells (zx ⟨[],false,0⟩).toArray 64)) hs1 (zx p).toArray;obtain ⟨W2,hW2⟩:=KZ6 ((w1.alloc (.cells (zx ⟨[],false,0⟩).toArray 64)).setRow w1.heap.size (zx p).toArray);rw [←hW2] at hY hR2 hA2 hA2';have hs2:W2.heap.size=w1.heap.size+1:=by rw [hW2];simp [World.setRow]
 have HW2:Hid ((w1.alloc (.cells #[.string ⟨#[]⟩,.bool false,.int .i64 0] 64)).setRow w1.heap.size (zx p).toArray=W2):=KZ9 hW2.symm;have HPG:=KZ9 (HPG0.out W2 hA2');clear hW2 hb1 HG HR0 HBA HR1 HA1 hA2' HPG0;have c1:=hY.c 1 _ rfl;have c2:=hY.c 2 _ rfl;go_upto_region 2 with (refine wpList_store_row rfl 64 (.tmp 12) (.tmp 20) rfl w1.heap.size (zx p).toArray rfl rfl 64 _ HN.out tO rfl (zh (px _)) ?_)
 all_goals try omega
 rw [HW2.out];clear HW2 HN;obtain ⟨ph,ps,pe⟩:=p;have hex:=fun W=>V1 pe now W;simp only at HDEF c1 c2;obtain ⟨E,hE⟩:=KZ6 (decide (pe≤now));rw [←hE] at HDEF;simp only [←hE] at hex;have HEX:=KZ9 hex;have HR2:=KZ9 hR2;have HA2:=KZ9 hA2;obtain ⟨eh,es⟩:=en;clear hex hE hY hR2 hA2;cases ok
 ·go_wp2_with fail
  all_goals try omega
  refine HPG.out.mono ?_;rintro e w9 ⟨rfl,hb9⟩;have hs9:=hb9.size;have HR9:=KZ9 (HR2.out.below (by omega) hb9);have HA9:=KZ9 (HA2.out.trans (hb9.mono (by omega)));have HN9:=KZ9 (heap_alloc_new w9 (.cells (zH ⟨[],false⟩).toArray 134));have hY9:=(BlkL.new w9 134 (zH ⟨[],false⟩)).setRow (zH ⟨eh,es⟩);have hR10:=(HR9.out.alloc (.cells (zH ⟨[],false⟩).toArray 134)).setRow_other (show w.heap.size≠w9.heap.size by omega) (zH ⟨eh,es⟩).toArray;have hA10:=below_setRow (HA9.out.alloc (by omega) (.cells (zH ⟨[],false⟩).toArray 134)) (show w.heap.size≤w9.heap.size by omega) (zH ⟨eh,es⟩).toArray;obtain ⟨W10,hW10⟩:=KZ6 ((w9.alloc (.cells (zH ⟨[],false⟩).toArray 134)).setRow w9.heap.size (zH ⟨eh,es⟩).toArray);rw [←hW10] at hY9 hR10 hA10;have HW10:Hid ((w9.alloc (.cells #[.string ⟨#[]⟩,.bool false] 134)).setRow w9.heap.size (zH ⟨eh,es⟩).toArray=W10):=KZ9 hW10.symm;have HR10:=KZ9 hR10
  have HA10:=KZ9 hA10;have f1:=hY9.c 1 _ rfl;clear hb9 HPG HR2 HA2 HR9 HA9 hW10 hY9 hR10 hA10 c1 c2;go_upto_region 5 with (refine wpList_store_row rfl 134 (.tmp 14) (.tmp 44) rfl w9.heap.size (zH ⟨eh,es⟩).toArray rfl rfl 134 _ HN9.out vM rfl (zh (pD _)) ?_)
  all_goals try omega
  rw [HW10.out];clear HW10 HN9;cases ok2
  ·have hfin:Hid (o=none):=KZ9 (by rw [HDEF.out];rfl);go_wp2_with (refine wpList_store_row rfl 204 (.tmp 10) (.tmp 57) rfl w.heap.size (zw cov0).toArray rfl rfl 204 _ HR10.out zQ rfl (zh (wT _)) ?_)
   all_goals try omega
   refine bodyPost_ret (zf rfl _ _ w.heap.size 204 _ _ rfl (HR10.out.setRow (zw cov0)) Tryz.underlying204 rfl zQ) rfl ?_;rw [hfin.out];exact ⟨rfl,below_setRow HA10.out (Nat.le_refl _) _⟩
  cases exact
  ·cases es
   ·have hfin:Hid (o=none):=KZ9 (by rw [HDEF.out];rfl);go_wp2_with (refine wpList_store_row rfl 204 (.tmp 10) (.tmp 57) rfl w.heap.size (zw cov0).toArray rfl rfl 204 _ HR10.out zQ rfl (zh (wT _)) ?_)
    all_goals try omega
    refine bodyPost_ret (zf rfl _ _ w.heap.size 204 _ _ rfl (HR10.out.setRow (zw cov0)) Tryz.underlying204 rfl zQ) rfl ?_;rw [hfin.out];exact ⟨rfl,below_setRow HA10.out (Nat.le_refl _) _⟩
   have hfin:Hid (o=some ⟨2,x,false⟩):=KZ9 (by rw [HDEF.out];rfl);go_wp2_with (refine wpList_store_row rfl 204 (.tmp 10) (.tmp 56) rfl w.heap.size (zw ⟨2,x,false⟩).toArray rfl rfl 204 _ HR10.out zQ rfl (zh (wT _)) ?_)
   all_goals try omega
   refine bodyPost_ret (zf rfl _ _ w.heap.size 204 _ _ rfl (HR10.out.setRow (zw ⟨2,x,false⟩)) Tryz.underlying204 rfl zQ) rfl ?_;rw [hfin.out];exact ⟨rfl,below_setRow HA10.out (Nat.le_refl _) _⟩
  have hfin:Hid (o=some ⟨2,x,true⟩):=KZ9 (by rw [HDEF.out];rfl);go_wp2_with (refine wpList_store_row rfl 204 (.tmp 10) (.tmp 56) rfl w.heap.size (zw ⟨2,x,true⟩).toArray rfl rfl 204 _ HR10.out zQ rfl (zh (wT _)) ?_)
  all_goals try omega
  refine bodyPost_ret (zf rfl _ _ w.heap.size 204 _ _ rfl (HR10.out.setRow (zw ⟨2,x,true⟩)) Tryz.underlying204 rfl zQ) rfl ?_;rw [hfin.out];exact ⟨rfl,below_setRow HA10.out (Nat.le_refl _) _⟩
 cases E
 ·cases exact
  ·cases ps
   ·go_wp2_with fail
    all_goals try omega
    refine (HEX.out _).mono ?_;rintro e w8 ⟨rfl,rfl⟩;go_wp2_with fail
    all_goals try omega
    refine HPG.out.mono ?_;rintro e w9 ⟨rfl,hb9⟩;have hs9:=hb9.size;have HR9:=KZ9 (HR2.out.below (by omega) hb9);have HA9:=KZ9 (HA2.out.trans (hb9.mono (by omega)));have HN9:=KZ9 (heap_alloc_new w9 (.cells (zH ⟨[],false⟩).toArray 134));have hY9:=(BlkL.new w9 134 (zH ⟨[],false⟩)).setRow (zH ⟨eh,es⟩);have hR10:=(HR9.out.alloc (.cells (zH ⟨[],false⟩).toArray 134)).setRow_other (show w.heap.size≠w9.heap.size by omega) (zH ⟨eh,es⟩).toArray;have hA10:=below_setRow (HA9.out.alloc (by omega) (.cells (zH ⟨[],false⟩).toArray 134)) (show w.heap.size≤w9.heap.size by omega) (zH ⟨eh,es⟩).toArray;obtain ⟨W10,hW10⟩:=KZ6 ((w9.alloc (.cells (zH ⟨[],false⟩).toArray 134)).setRow w9.heap.size (zH ⟨eh,es⟩).toArray);rw [←hW10] at hY9 hR10 hA10;have HW10:Hid ((w9.alloc (.cells #[.string ⟨#[]⟩,.bool false] 134)).setRow w9.heap.size (zH ⟨eh,es⟩).toArray=W10):=KZ9 hW10.symm;have HR10:=KZ9 hR10
    have HA10:=KZ9 hA10;have f1:=hY9.c 1 _ rfl;clear hb9 HPG HR2 HA2 HR9 HA9 hW10 hY9 hR10 hA10 c1 c2;go_upto_region 5 with (refine wpList_store_row rfl 134 (.tmp 14) (.tmp 44) rfl w9.heap.size (zH ⟨eh,es⟩).toArray rfl rfl 134 _ HN9.out vM rfl (zh (pD _)) ?_)
    all_goals try omega
    rw [HW10.out];clear HW10 HN9;cases ok2
    ·have hfin:Hid (o=none):=KZ9 (by rw [HDEF.out];rfl);go_wp2_with (refine wpList_store_row rfl 204 (.tmp 10) (.tmp 57) rfl w.heap.size (zw cov0).toArray rfl rfl 204 _ HR10.out zQ rfl (zh (wT _)) ?_)
     all_goals try omega
     refine bodyPost_ret (zf rfl _ _ w.heap.size 204 _ _ rfl (HR10.out.setRow (zw cov0)) Tryz.underlying204 rfl zQ) rfl ?_;rw [hfin.out];exact ⟨rfl,below_setRow HA10.out (Nat.le_refl _) _⟩
    cases es
    ·have hfin:Hid (o=none):=KZ9 (by rw [HDEF.out];rfl);go_wp2_with (refine wpList_store_row rfl 204 (.tmp 10) (.tmp 57) rfl w.heap.size (zw cov0).toArray rfl rfl 204 _ HR10.out zQ rfl (zh (wT _)) ?_)
     all_goals try omega
     refine bodyPost_ret (zf rfl _ _ w.heap.size 204 _ _ rfl (HR10.out.setRow (zw cov0)) Tryz.underlying204 rfl zQ) rfl ?_;rw [hfin.out];exact ⟨rfl,below_setRow HA10.out (Nat.le_refl _) _⟩
    have hfin:Hid (o=some ⟨2,x,false⟩):=KZ9 (by rw [HDEF.out];rfl);go_wp2_with (refine wpList_store_row rfl 204 (.tmp 10) (.tmp 56) rfl w.heap.size (zw ⟨2,x,false⟩).toArray rfl rfl 204 _ HR10.out zQ rfl (zh (wT _)) ?_)
    all_goals try omega
    refine bodyPost_ret (zf rfl _ _ w.heap.size 204 _ _ rfl (HR10.out.setRow (zw ⟨2,x,false⟩)) Tryz.underlying204 rfl zQ) rfl ?_;rw [hfin.out];exact ⟨rfl,below_setRow HA10.out (Nat.le_refl _) _⟩
   go_wp2_with fail
   all_goals try omega
   refine (HEX.out _).mono ?_;rintro e w8 ⟨rfl,rfl⟩;have hfin:Hid (o=some ⟨1,x,false⟩):=KZ9 (by rw [HDEF.out];rfl);go_wp2_with (refine wpList_store_row rfl 204 (.tmp 10) (.tmp 39) rfl w.heap.size (zw ⟨1,x,false⟩).toArray rfl rfl 204 _ HR2.out zQ rfl (zh (wT _)) ?_)
   all_goals try omega
   refine bodyPost_ret (zf rfl _ _ w.heap.size 204 _ _ rfl (HR2.out.setRow (zw ⟨1,x,false⟩)) Tryz.underlying204 rfl zQ) rfl ?_;rw [hfin.out];exact ⟨rfl,below_setRow HA2.out (Nat.le_refl _) _⟩
  go_wp2_with fail
  all_goals try omega
  refine (HEX.out _).mono ?_;rintro e w8 ⟨rfl,rfl⟩;have hfin:Hid (o=some ⟨1,x,true⟩):=KZ9 (by rw [HDEF.out];rfl);go_wp2_with (refine wpList_store_row rfl 204 (.tmp 10) (.tmp 39) rfl w.heap.size (zw ⟨1,x,true⟩).toArray rfl rfl 204 _ HR2.out zQ rfl (zh (wT _)) ?_)
  all_goals try omega
  refine bodyPost_ret (zf rfl _ _ w.heap.size 204 _ _ rfl (HR2.out.setRow (zw ⟨1,x,true⟩)) Tryz.underlying204 rfl zQ) rfl ?_;rw [hfin.out];exact ⟨rfl,below_setRow HA2.out (Nat.le_refl _) _⟩
 go_wp2_with fail
 all_goals try omega
 refine (HEX.out _).mono ?_;rintro e w8 ⟨rfl,rfl⟩;go_wp2_with fail
 all_goals try omega
 refine HPG.out.mono ?_;rintro e w9 ⟨rfl,hb9⟩;have hs9:=hb9.size;have HR9:=KZ9 (HR2.out.below (by omega) hb9);have HA9:=KZ9 (HA2.out.trans (hb9.mono (by omega)));have HN9:=KZ9 (heap_alloc_new w9 (.cells (zH ⟨[],false⟩).toArray 134));have hY9:=(BlkL.new w9 134 (zH ⟨[],false⟩)).setRow (zH ⟨eh,es⟩);have hR10:=(HR9.out.alloc (.cells (zH ⟨[],false⟩).toArray 134)).setRow_other (show w.heap.size≠w9.heap.size by omega) (zH ⟨eh,es⟩).toArray;have hA10:=below_setRow (HA9.out.alloc (by omega) (.cells (zH ⟨[],false⟩).toArray 134)) (show w.heap.size≤w9.heap.size by omega) (zH ⟨eh,es⟩).toArray;obtain ⟨W10,hW10⟩:=KZ6 ((w9.alloc (.cells (zH ⟨[],false⟩).toArray 134)).setRow w9.heap.size (zH ⟨eh,es⟩).toArray);rw [←hW10] at hY9 hR10 hA10;have HW10:Hid ((w9.alloc (.cells #[.string ⟨#[]⟩,.bool false] 134)).setRow w9.heap.size (zH ⟨eh,es⟩).toArray=W10):=KZ9 hW10.symm;have HR10:=KZ9 hR10
 have HA10:=KZ9 hA10;have f1:=hY9.c 1 _ rfl;clear hb9 HPG HR2 HA2 HR9 HA9 hW10 hY9 hR10 hA10 c1 c2;go_upto_region 5 with (refine wpList_store_row rfl 134 (.tmp 14) (.tmp 44) rfl w9.heap.size (zH ⟨eh,es⟩).toArray rfl rfl 134 _ HN9.out vM rfl (zh (pD _)) ?_)
 all_goals try omega
 rw [HW10.out];clear HW10 HN9;cases ok2
 ·have hfin:Hid (o=none):=KZ9 (by rw [HDEF.out];rfl);go_wp2_with (refine wpList_store_row rfl 204 (.tmp 10) (.tmp 57) rfl w.heap.size (zw cov0).toArray rfl rfl 204 _ HR10.out zQ rfl (zh (wT _)) ?_)
  all_goals try omega
  refine bodyPost_ret (zf rfl _ _ w.heap.size 204 _ _ rfl (HR10.out.setRow (zw cov0)) Tryz.underlying204 rfl zQ) rfl ?_;rw [hfin.out];exact ⟨rfl,below_setRow HA10.out (Nat.le_refl _) _⟩
 cases exact
 ·cases es
  ·have hfin:Hid (o=none):=KZ9 (by rw [HDEF.out];rfl);go_wp2_with (refine wpList_store_row rfl 204 (.tmp 10) (.tmp 57) rfl w.heap.size (zw cov0).toArray rfl rfl 204 _ HR10.out zQ rfl (zh (wT _)) ?_)
   all_goals try omega
   refine bodyPost_ret (zf rfl _ _ w.heap.size 204 _ _ rfl (HR10.out.setRow (zw cov0)) Tryz.underlying204 rfl zQ) rfl ?_;rw [hfin.out];exact ⟨rfl,below_setRow HA10.out (Nat.le_refl _) _⟩
  have hfin:Hid (o=some ⟨2,x,false⟩):=KZ9 (by rw [HDEF.out];rfl);go_wp2_with (refine wpList_store_row rfl 204 (.tmp 10) (.tmp 56) rfl w.heap.size (zw ⟨2,x,false⟩).toArray rfl rfl 204 _ HR10.out zQ rfl (zh (wT _)) ?_)
  all_goals try omega
  refine bodyPost_ret (zf rfl _ _ w.heap.size 204 _ _ rfl (HR10.out.setRow (zw ⟨2,x,false⟩)) Tryz.underlying204 rfl zQ) rfl ?_;rw [hfin.out];exact ⟨rfl,below_setRow HA10.out (Nat.le_refl _) _⟩
 have hfin:Hid (o=some ⟨2,x,true⟩):=KZ9 (by rw [HDEF.out];rfl);go_wp2_with (refine wpList_store_row rfl 204 (.tmp 10) (.tmp 56) rfl w.heap.size (zw ⟨2,x,true⟩).toArray rfl rfl 204 _ HR10.out zQ rfl (zh (wT _)) ?_)
 all_goals try omega
 refine bodyPost_ret (zf rfl _ _ w.heap.size 204 _ _ rfl (HR10.out.setRow (zw ⟨2,x,true⟩)) Tryz.underlying204 rfl zQ) rfl ?_;rw [hfin.out];exact ⟨rfl,below_setRow HA10.out (Nat.le_refl _) _⟩
end Go.Proofs.YtbnnlkdhpifpeaaGreatDoor
namespace Go.Proofs.YtbnnlkdhpifpeaaGreatDoor
open Go.RowKit Go.Shelf Hs
attribute [local go_sem] Oper.semAt_some
def CInvG (w:World) (z y:Nat) (now:Int) (q q2:Option Addr) (T:List PinP) (L:List EntP) (pre:List Bs) (G:Nat→Prop) (W:World):Prop :=
 (∀ s∈pre,covAt now T L s false=none)∧BlkL W z 3 [.int .i64 now]∧BlkL W (z+1) 123 [.pointer q]∧BlkL W (z+2) 60 [.pointer q2]∧BlkL W (z+4) 204 (zw cov0)∧BlkL W (z+5) 204 (zw cov0)∧W.heap[y+1]? =some (.deferred (some []))∧Below z w W∧(∀ k,G k→z+5<k∧k≠y+1)
def COutG (w:World) (z y:Nat) (now:Int) (T:List PinP) (L:List EntP) (S:List Bs) (c:Code) (pre:List Bs) (G:Nat→Prop) (W:World):Prop :=
 c= .exit 0∧BlkL W (z+4) 204 (zw cov0)∧BlkL W (z+5) 204 (zw (wt now T L S))∧W.heap[y+1]? =some (.deferred (some []))∧Below z w W∧(∀ k,G k→z+5<k∧k≠y+1)
theorem CInvG.turn {w:World} {z y:Nat} {now:Int} {q q2:Option Addr} {T:List PinP} {L:List EntP} {pre:List Bs} {G:Nat→Prop} {A B:World} {row:Option Nat} (h:CInvG w z y now q q2 T L pre G A) (hz:z≤w.heap.size) (hy:z+5<y) (hg:A.grownBy B row) (hr:∀ r,row=some r→G r∨r=y+2):CInvG w z y now q q2 T L pre G B:=by
 obtain ⟨h1,b0,b1,b2,b4,b5,h3,h4,h5⟩:=h;have hlow:∀ r,row=some r→z+5<r∧r≠y+1:=fun r e=>(hr r e).elim (h5 r) (fun h=>by omega);have ne:∀ k,k≤z+5→some k≠row:=fun k hk e=>by have:=hlow _ e.symm;omega
 exact ⟨h1,b0.grown hg (ne _ (by omega)),b1.grown hg (ne _ (by omega)),b2.grown hg (ne _ (by omega)),b4.grown hg (ne _ (by omega)),b5.grown hg (ne _ (by omega)),(hg.block _ (Array.getElem?_eq_some_iff.1 h3).1 (fun e=>(hlow _ e.symm).2 rfl)).trans h3,h4.grown hg (by have:=h4.size;omega) (fun j hj=>by have:=hlow j hj;omega),h5⟩
theorem CInvG.lay {w:World} {z y:Nat} {now:Int} {q q2:Option Addr} {T:List PinP} {L:List EntP} {pre:List Bs} {G:Nat→Prop} {A B:World} (h:CInvG w z y now q q2 T L pre G A) (hz:z≤w.heap.size) (hy:z+5<y) (hg:A.grownBy B none):CInvG w z y now q q2 T L pre (fun k=>G k∨(A.heap.size≤k∧k<B.heap.size)) B:=by
 obtain ⟨h1,b0,b1,b2,b4,b5,h3,h4,h5⟩:=h;have hlt:=(Array.getElem?_eq_some_iff.1 h3).1;exact ⟨h1,b0.grown hg (by simp),b1.grown hg (by simp),b2.grown hg (by simp),b4.grown hg (by simp),b5.grown hg (by simp),(hg.block _ hlt (by simp)).trans h3,h4.grown hg (by have:=h4.size;omega) (fun j hj=>by cases hj),fun k hk=>hk.elim (h5 k) (fun h=>⟨by have:=b5.lt;omega,by omega⟩)⟩
theorem COutG.turn {w:World} {z y:Nat} {now:Int} {T:List PinP} {L:List EntP} {S:List Bs} {c:Code} {pre:List Bs} {G:Nat→Prop} {A B:World} {row:Option Nat} (h:COutG w z y now T L S c pre G A) (hz:z≤w.heap.size) (hy:z+5<y) (hg:A.grownBy B row) (hr:∀ r,row=some r→G r∨r=y+2):COutG w z y now T L S c pre G B:=by
 obtain ⟨h1,b4,b5,h3,h4,h5⟩:=h;have hlow:∀ r,row=some r→z+5<r∧r≠y+1:=fun r e=>(hr r e).elim (h5 r) (fun h=>by omega);have ne:∀ k,k≤z+5→some k≠row:=fun k hk e=>by have:=hlow _ e.symm;omega
 exact ⟨h1,b4.grown hg (ne _ (by omega)),b5.grown hg (ne _ (by omega)),(hg.block _ (Array.getElem?_eq_some_iff.1 h3).1 (fun e=>(hlow _ e.symm).2 rfl)).trans h3,h4.grown hg (by have:=h4.size;omega) (fun j hj=>by have:=hlow j hj;omega),h5⟩
theorem COutG.lay {w:World} {z y:Nat} {now:Int} {T:List PinP} {L:List EntP} {S:List Bs} {c:Code} {pre:List Bs} {G:Nat→Prop} {A B:World} (h:COutG w z y now T L S c pre G A) (hz:z≤w.heap.size) (hy:z+5<y) (hg:A.grownBy B none):COutG w z y now T L S c pre (fun k=>G k∨(A.heap.size≤k∧k<B.heap.size)) B:=by
 obtain ⟨h1,b4,b5,h3,h4,h5⟩:=h;have hlt:=(Array.getElem?_eq_some_iff.1 h3).1;exact ⟨h1,b4.grown hg (by simp),b5.grown hg (by simp),(hg.block _ hlt (by simp)).trans h3,h4.grown hg (by have:=h4.size;omega) (fun j hj=>by cases hj),fun k hk=>hk.elim (h5 k) (fun h=>⟨by have:=b5.lt;omega,by omega⟩)⟩
theorem YJ (now:Int) (q q2:Option Addr) (T:List PinP) (L:List EntP) (x:Bs) (exact:Bool) (w:World) (ht:TL w q q2 T L) (hx:x.length≤100000):Calls Tryz.prog 170 #[.int .i64 now,.pointer q,.pointer q2,.string (mk x),.bool exact] w fun e w'=>e= .returned (.tuple #[.agg #[.int .i64 (((covAt now T L x exact).getD cov0).source:Int),.string (mk ((covAt now T L x exact).getD cov0).name),.bool ((covAt now T L x exact).getD cov0).exact],.bool (covAt now T L x exact).isSome])∧Below w.heap.size w w':=Qt now q q2 T L x exact w ht hx
set_option maxRecDepth 100000
set_option maxHeartbeats 8000000
theorem US (now:Int) (q q2:Option Addr) (T:List PinP) (L:List EntP) (h:HostP) (w:World) (hB:Base w) (hw:xR h) (hn:h.name.length≤20000) (ht:TL w q q2 T L):Calls Tryz.prog 106 #[.int .i64 now,.pointer q,.pointer q2,.agg (zj h).toArray] w fun e w'=>e= .returned (.agg (zw (tg now T L h)).toArray)∧Below w.heap.size w w':=by
 refine (callsIn_wide (n:=9)).1 ?_;refine callsIn_of_wp_marks Tryz.func106 rfl trivial ?_ rfl;simp only [Tryz.ntmps106,List.size_toArray,List.length_cons,List.length_nil,Nat.reduceAdd,Nat.reduceSub,Array.replicate_succ,Array.replicate_zero,List.push_toArray,List.append_toArray,List.nil_append,List.cons_append];obtain ⟨kd,nm,va,v6⟩:=h;obtain ⟨a,b,c,d,e,f,g,i,rfl⟩:=Z5 hw.1;simp only at hn;obtain ⟨W5,hW5⟩:=KZ6 (((((w.alloc (.cells #[.int .i64 now] 3)).alloc (.cells #[.pointer q] 123)).alloc (.cells #[.pointer q2] 60)).alloc (.cells (zj ⟨kd,nm,va,[a,b,c,d,e,f,g,i]⟩).toArray 98)).alloc (.cells #[.int .i64 0,.string ⟨#[]⟩,.bool false] 204));have HW5:=KZ9 hW5.symm;obtain ⟨z,hz⟩:=KZ6 w.heap.size;have hsz5:W5.heap.size=z+5:=by rw [hW5,hz];simp
 have hB5:Below z w W5:=by rw [hW5,hz];exact (((((Below.refl _ w).alloc (Nat.le_refl _) _).alloc (by simp) _).alloc (by simp;omega) _).alloc (by simp;omega) _).alloc (by simp;omega) _
 have b0:BlkL W5 z 3 [.int .i64 now]:=by rw [hW5,hz];exact ((((BlkL.new w _ _).alloc _).alloc _).alloc _).alloc _
 have b1:BlkL W5 (z+1) 123 [.pointer q]:=by
  rw [hW5,hz];have:=(((BlkL.new (w.alloc (.cells #[.int .i64 now] 3)) 123 [.pointer q]).alloc (.cells #[.pointer q2] 60)).alloc (.cells (zj ⟨kd,nm,va,[a,b,c,d,e,f,g,i]⟩).toArray 98)).alloc (.cells #[.int .i64 0,.string ⟨#[]⟩,.bool false] 204)
  simpa using this
 have b2:BlkL W5 (z+2) 60 [.pointer q2]:=by
  rw [hW5,hz];have:=((BlkL.new ((w.alloc (.cells #[.int .i64 now] 3)).alloc (.cells #[.pointer q] 123)) 60 [.pointer q2]).alloc (.cells (zj ⟨kd,nm,va,[a,b,c,d,e,f,g,i]⟩).toArray 98)).alloc (.cells #[.int .i64 0,.string ⟨#[]⟩,.bool false] 204);simp only [World.size_alloc] at this;exact this
 have b3:BlkL W5 (z+3) 98 (zj ⟨kd,nm,va,[a,b,c,d,e,f,g,i]⟩):=by
  rw [hW5,hz];have:=(BlkL.new (((w.alloc (.cells #[.int .i64 now] 3)).alloc (.cells #[.pointer q] 123)).alloc (.cells #[.pointer q2] 60)) 98 (zj ⟨kd,nm,va,[a,b,c,d,e,f,g,i]⟩)).alloc (.cells #[.int .i64 0,.string ⟨#[]⟩,.bool false] 204);simp only [World.size_alloc] at this;exact this
 have b4:BlkL W5 (z+4) 204 (zw cov0):=by
  rw [hW5,hz];have:=BlkL.new ((((w.alloc (.cells #[.int .i64 now] 3)).alloc (.cells #[.pointer q] 123)).alloc (.cells #[.pointer q2] 60)).alloc (.cells (zj ⟨kd,nm,va,[a,b,c,d,e,f,g,i]⟩).toArray 98)) 204 (zw cov0);simp only [World.size_alloc] at this;exact this
 have ht5:=ht.below (hz▸hB5);clear hW5
 gi_upto_region 2 with fail
 rw [HW5.out,←hz];have hz':=Nat.le_of_eq hz;have HZ:=KZ9 hz;clear HW5 hz;rw [show z+1+1+1+1=z+4 from rfl,show z+1+1+1=z+3 from rfl,show z+1+1=z+2 from rfl];refine wpIn_wide.2 (wp_scope_straight ((wpIn_wide (n:=9)).1 ?_))
 gi_upto_region 2 with fail
 have c5:BlkL (W5.alloc (.cells #[.int .i64 0,.string ⟨#[]⟩,.bool false] 204)) (z+5) 204 (zw cov0):=by
  have:=BlkL.new W5 204 (zw cov0);rw [hsz5] at this;exact this
 have a0:=b0.alloc (.cells #[.int .i64 0,.string ⟨#[]⟩,.bool false] 204);have a1:=b1.alloc (.cells #[.int .i64 0,.string ⟨#[]⟩,.bool false] 204);have a2:=b2.alloc (.cells #[.int .i64 0,.string ⟨#[]⟩,.bool false] 204);have a3:=b3.alloc (.cells #[.int .i64 0,.string ⟨#[]⟩,.bool false] 204);have a4:=b4.alloc (.cells #[.int .i64 0,.string ⟨#[]⟩,.bool false] 204);have ht6:TL (W5.alloc (.cells #[.int .i64 0,.string ⟨#[]⟩,.bool false] 204)) q q2 T L:=ht5.below ((Below.refl _ W5).alloc (Nat.le_refl _) _);have hB6:=hB5.alloc (by omega) (.cells #[.int .i64 0,.string ⟨#[]⟩,.bool false] 204);have hsz6:(W5.alloc (.cells #[.int .i64 0,.string ⟨#[]⟩,.bool false] 204)).heap.size=z+6:=by simp [hsz5]
 generalize W5.alloc (.cells #[.int .i64 0,.string ⟨#[]⟩,.bool false] 204)=W6 at *;clear b0 b1 b2 b3 b4 ht5 hB5 hsz5;have hk0:=a3.c 0 _ rfl;have hv:=jx ⟨kd,nm,va,[a,b,c,d,e,f,g,i]⟩ W6 (hB.below (HZ.out▸hB6)) hw (by show nm.length≤100000;omega);obtain ⟨ok,hok⟩:=KZ6 (yo ⟨kd,nm,va,[a,b,c,d,e,f,g,i]⟩);rw [←hok] at hv;have HV:=KZ9 hv;have HOK:=KZ9 hok;clear hv hok;by_cases hk:kd=1
 ·subst hk;have h1:=a3.c 1 _ rfl;have h2:=a3.c 2 _ rfl;have h3:=a3.c 3 _ rfl;have h4:=a3.c 4 _ rfl;have h5:=a3.c 5 _ rfl;have h6:=a3.c 6 _ rfl;have h7:=a3.c 7 _ rfl;have h8:=a3.c 8 _ rfl;have h9:=a3.c 9 _ rfl;have h10:=a3.c 10 _ rfl
  gi_wp2
  refine ⟨trivial,?_⟩;refine (callsIn_wide.2 HV.out).mono ?_;rintro e w1 ⟨rfl,hb1⟩;have hs1:=hb1.size;have d0:=a0.below (by omega) hb1;have d1:=a1.below (by omega) hb1;have d2:=a2.below (by omega) hb1;have d3:=a3.below (by omega) hb1;have d4:=a4.below (by omega) hb1;have d5:=c5.below (by omega) hb1;have ht7:=ht6.below hb1;have HB7:=KZ9 (hB6.trans (hb1.mono (by omega)));clear hb1 HV a0 a1 a2 a3 a4 c5 ht6 hB6 hk0 h1 h2 h3 h4 h5 h6 h7 h8 h9 h10;cases ok
  ·have hfin:=KZ9 (Vu (now:=now) (T:=T) (L:=L) (h:=⟨1,nm,va,[a,b,c,d,e,f,g,i]⟩) (fun hh=>by rw [←HOK.out] at hh;exact absurd hh.2 (by simp)));obtain ⟨e0,e1,e2⟩:=BlkL.cs3 d5;obtain ⟨k0,k1,k2⟩:=BlkL.cs3 d4;have m0:=d4.f 0;have m1:=d4.f 1;have m2:=d4.f 2
   gi_wp2
   all_goals try omega
   (try rw [Exit.noGoto_ret])
   refine yC [] _ (by simp) List.nodup_nil (fun W' hW'=> ?_);have hr:=zO d4 rfl (.int .i64 ((cov0).source:Int)) (.string (mk (cov0).name)) (.bool (cov0).exact);have hr2:BlkL W' (z+4) 204 (zw (cov0)):=(hW'.block _ hr.lt (by simp)).trans hr;refine ⟨_,results_cell_row rfl _ _ (z+4) 204 _ _ _ rfl hr2 Tryz.underlying204 rfl zQ,?_⟩;rw [hfin.out,←HZ.out];exact ⟨rfl,(zC HB7.out (by omega) _ _ _).trans (Keeps.below (hW'.mono fun k _=>by simp) (by have:=(HB7.out).size;simp;omega))⟩
  have n0:=d0.c 0 _ rfl;have n1:=d1.c 0 _ rfl;have n2:=d2.c 0 _ rfl;have n3:=d3.c 1 _ rfl;have hat:=YJ now q q2 T L nm true w1 ht7 (by omega);have hhit:=fun cc=>@SQ now T L ⟨1,nm,va,[a,b,c,d,e,f,g,i]⟩ ⟨rfl,HOK.out.symm⟩ cc;have hsup:=@SP now T L ⟨1,nm,va,[a,b,c,d,e,f,g,i]⟩ ⟨rfl,HOK.out.symm⟩;simp only at hhit hsup;obtain ⟨o,ho⟩:=KZ6 (covAt now T L nm true);rw [←ho] at hat hsup;simp only [←ho] at hhit;have HAT:=KZ9 hat;have HHIT:=KZ9 hhit;have HSUP:=KZ9 hsup;clear hat hhit hsup ho
  gi_wp2
  refine ⟨trivial,?_⟩;refine (callsIn_wide.2 HAT.out).mono ?_;rintro e w2 ⟨rfl,hb2⟩;have hs2:=hb2.size;have x0:=d0.below (by omega) hb2;have x1:=d1.below (by omega) hb2;have x2:=d2.below (by omega) hb2;have x3:=d3.below (by omega) hb2;have x4:=d4.below (by omega) hb2;have x5:=d5.below (by omega) hb2;have ht8:=ht7.below hb2;have HB8:=KZ9 (HB7.out.trans (hb2.mono (by omega)));clear hb2 HAT d0 d1 d2 d3 d4 d5 ht7 HB7 n0 n1 n2 n3;cases o with
  | none =>
   have hfin:=KZ9 (HSUP.out rfl);clear HSUP HHIT;simp only [Option.getD_none,Option.isSome_none]
   gi_upto_region 5 with fail
   obtain ⟨W9,hW9⟩:=KZ6 (w2.alloc (.cells #[.int .i64 (cov0.source:Int),.string (mk cov0.name),.bool cov0.exact] 204));have y0:=x0.alloc (.cells #[.int .i64 (cov0.source:Int),.string (mk cov0.name),.bool cov0.exact] 204);have y1:=x1.alloc (.cells #[.int .i64 (cov0.source:Int),.string (mk cov0.name),.bool cov0.exact] 204);have y2:=x2.alloc (.cells #[.int .i64 (cov0.source:Int),.string (mk cov0.name),.bool cov0.exact] 204);have y3:=x3.alloc (.cells #[.int .i64 (cov0.source:Int),.string (mk cov0.name),.bool cov0.exact] 204);have y4:=x4.alloc (.cells #[.int .i64 (cov0.source:Int),.string (mk cov0.name),.bool cov0.exact] 204);have y5:=x5.alloc (.cells #[.int .i64 (cov0.source:Int),.string (mk cov0.name),.bool cov0.exact] 204);have yn:=BlkL.new w2 204 (zw cov0);have ht9:TL (w2.alloc (.cells #[.int .i64 (cov0.source:Int),.string (mk cov0.name),.bool cov0.exact] 204)) q q2 T L:=ht8.below ((Below.refl _ w2).alloc (Nat.le_refl _) _)
   have HB9:=KZ9 (HB8.out.alloc (by omega) (.cells #[.int .i64 (cov0.source:Int),.string (mk cov0.name),.bool cov0.exact] 204));have hs9:(w2.alloc (.cells #[.int .i64 (cov0.source:Int),.string (mk cov0.name),.bool cov0.exact] 204)).heap.size=w2.heap.size+1:=by simp
   have hyn:BlkL (w2.alloc (.cells #[.int .i64 (cov0.source:Int),.string (mk cov0.name),.bool cov0.exact] 204)) w2.heap.size 204 (zw cov0):=yn;rw [←hW9] at y0 y1 y2 y3 y4 y5 ht9 HB9 hs9 hyn ⊢;clear hW9 yn x0 x1 x2 x3 x4 x5 ht8 HB8;have n3:=y3.c 1 _ rfl
   gi_upto_region 7 with fail
   refine wpIn_label ?_
   gi_wp2
   refine ⟨trivial,?_⟩;refine (callsIn_wide.2 (Sz (mk nm) _)).mono ?_;rintro e w10 ⟨rfl,rfl⟩
   gi_wp2
   have hsup2:Zb (un (mk nm))=yc nm:=by
    rw [zk];unfold Zb;have:zG nm=true:=by
     have h:=HOK.out.symm;rw [qf,if_pos rfl] at h;simp only [Bool.and_eq_true] at h;exact h.1.1
    rw [if_pos this]
   have hct0:=Boxed.new W9 9 (.string (mk nm));have z0:=y0.alloc (.cells #[.string (mk nm)] 9);have z1:=y1.alloc (.cells #[.string (mk nm)] 9);have z2:=y2.alloc (.cells #[.string (mk nm)] 9);have z4:=y4.alloc (.cells #[.string (mk nm)] 9);have z5:=y5.alloc (.cells #[.string (mk nm)] 9);have HB10:=KZ9 (HB9.out.alloc (by omega) (.cells #[.string (mk nm)] 9));have hs10:(W9.alloc (.cells #[.string (mk nm)] 9)).heap.size=W9.heap.size+1:=by simp
   obtain ⟨y,hy⟩:=KZ6 W9.heap.size;rw [←hy] at hct0 hs10;rw [←hs9,←hy];have hyz:z+5<y:=by omega
   generalize W9.alloc (.cells #[.string (mk nm)] 9)=W10 at *;clear y0 y1 y2 y3 y4 y5 n3 ht9 HB9 hyn hs9;have hent:=fun (a:Act) ps asg bd=>enter_outer (F:=Fence.wide) (P:=Tryz.prog) rfl W10 a ps asg bd;rw [hs10] at hent;have hBK:∀ W',Keeps (fun k=>k<z) W10 W'→Base W':=fun W' hk=>hB.below (HZ.out▸HB10.out.trans (hk.below (by omega)));refine range_law (w₁:=W10.alloc (.deferred (some []))) (L:=y+2) (by omega) (by simp;omega) (hent _ _ _ _) (gf:=246) (lb:=#[.pointer (some ⟨y,0,none⟩)]) rfl trivial (enters_of Tryz.func246 (by kernel_rfl) rfl)
    (Y4 8 y z (mk nm) W10 (by omega) hct0 (by omega) hBK (by omega) (by rw [zi];omega)) ((Below.refl _ W10).alloc (Nat.le_refl _) _) (fun _=>rfl) (by omega) (by omega)
    (CInvG w z y now q q2 T L) (COutG w z y now T L (yc nm)) (fun _ _ _ _ _ h hg hr=>h.turn hz' hyz hg hr) (fun _ _ _ _ h hg=>h.lay hz' hyz hg) (fun _ _ _ _ _ _ h hg hr=>h.turn hz' hyz hg hr) (fun _ _ _ _ _ h hg=>h.lay hz' hyz hg) ?start
    (fun x a' W'=>a'={ tmps:=#[.int .i64 now,.pointer q,.pointer q2,.agg (zj ⟨1,nm,va,[a,b,c,d,e,f,g,i]⟩).toArray,.pointer (some ⟨z,0,none⟩),.pointer (some ⟨z+1,0,none⟩),.pointer (some ⟨z+2,0,none⟩),.pointer (some ⟨z+3,0,none⟩),.pointer (some ⟨z+4,0,none⟩),.pointer (some ⟨z+5,0,none⟩),.pointer (some ⟨w2.heap.size,0,none⟩),.bool false,.string (mk x),undef,undef,.pointer (some ⟨z+3,0,none⟩),.int .i64 1,.bool false,.bool false,.agg #[.int .i64 1,.string (mk nm),.int .u32 (va:Int),.int .u16 (a:Int),.int .u16 (b:Int),.int .u16 (c:Int),.int .u16 (d:Int),.int .u16 (e:Int),.int .u16 (f:Int),.int .u16 (g:Int),.int .u16 (i:Int)],.bool true,.bool false,.bool false,undef,(.tuple #[.agg #[.int .i64 (cov0.source:Int),.string (mk cov0.name),.bool cov0.exact],.bool false]),.int .i64 now,.pointer q,.pointer q2,.pointer (some ⟨z+3,1,none⟩),.string (mk nm),(.tuple #[.agg #[.int .i64 (cov0.source:Int),.string (mk cov0.name),.bool cov0.exact],.bool false]),.agg #[.int .i64 (cov0.source:Int),.string (mk cov0.name),.bool cov0.exact],.bool false,.bool false,undef,.pointer (some ⟨z+3,1,none⟩),.string (mk nm),.func (.func 246) #[] #[.pointer (some ⟨y,0,none⟩)],.string (mk x),undef,undef,undef,undef,undef,undef,undef,undef,undef,undef,undef],defers:=[] }) (fun _ _ _ _ _ h _ _=>h) ?assign ?body ?done ?stop
   case start =>
    intro o;have hd:=World.alloc_heap_new W10 (.deferred (some []));rw [hs10] at hd;refine ⟨(fun s hs=>by cases hs),(z0.alloc _).alloc _,(z1.alloc _).alloc _,(z2.alloc _).alloc _,(z4.alloc _).alloc _,(z5.alloc _).alloc _,(Below.heap_alloc _ o _ (by simp;omega)).trans hd,(HB10.out.alloc (by omega) _).alloc (by simp;omega) _,?_⟩;rintro k rfl;omega
   case assign =>
    intro pre x G W' K hI hsp hK
    gi_wp2
    exact hK _ _ rfl (Keeps.refl _ _) hI (by rw [hy])
   case body =>
    rintro pre x G a' Wb ⟨r0,hr0⟩ hI rfl ⟨post,hpost⟩;rw [hsup2] at hpost;have hxn:x∈yc nm:=by rw [←hpost];simp
    have hI':=hI;obtain ⟨i1,i0,j1,j2,j4,j5,i6,i7,i8⟩:=hI';have ht11:TL Wb q q2 T L:=ht.below (HZ.out▸i7);have hxl:x.length≤100000:=by have:=rI nm x hxn;omega
    have hat2:=YJ now q q2 T L x false Wb ht11 hxl;obtain ⟨o,ho⟩:=KZ6 (covAt now T L x false);rw [←ho] at hat2;have HAT2:=KZ9 hat2;have HO:=KZ9 ho;have n0:=i0.c 0 _ rfl;have n1:=j1.c 0 _ rfl;have n2:=j2.c 0 _ rfl;have HI:=KZ9 hI;have HPO:=KZ9 hpost;clear hat2 ho hI i0 j1 j2 j4 j5 i1 i6 i7 i8 hpost
    gi_wp2
    refine ⟨trivial,?_⟩;refine (CallsIn.inRound _ (callsIn_wide.2 HAT2.out)).mono ?_;rintro e w3 ⟨rfl,hb3⟩;have hg3:=grown_of_below hb3;have HI3:=KZ9 (HI.out.turn hz' hyz hg3 (fun r e=>by cases e));have hy4:y+2<Wb.heap.size:=(Array.getElem?_eq_some_iff.1 hr0).1;have hL3:w3.heap[y+2]? =Wb.heap[y+2]? :=hb3.block _ hy4;have hK3:Keeps (fun k=>G k∨k<z) Wb w3:=Keeps.of_below hb3;have hs3:=hb3.size;clear hb3 HI HAT2 n0 n1 n2 hg3;cases o with
    | none =>
     simp only [Option.getD_none,Option.isSome_none]
     gi_wp2
     obtain ⟨i1,j0,j1,j2,j4,j5,i6,i7,i8⟩:=HI3.out;refine (show _∧_∧_ from ⟨(Below.heap_alloc _ _ _ (by omega)).trans hL3,hK3.trans (Keeps.alloc _ _ _),?_,j0.alloc _,j1.alloc _,j2.alloc _,j4.alloc _,j5.alloc _,(Below.heap_alloc _ _ _ (Array.getElem?_eq_some_iff.1 i6).1).trans i6,i7.alloc (by have:=j0.lt;omega) _,i8⟩);intro s hs;rcases List.mem_append.1 hs with hs | hs
     ·exact i1 s hs
     rw [List.mem_singleton.1 hs];exact HO.out.symm
    | some cc =>
     simp only [Option.getD_some,Option.isSome_some]
     gi_upto_region 10 with fail
     obtain ⟨i1,j0,j1,j2,j4,j5,i6,i7,i8⟩:=HI3.out;have hyn:BlkL (w3.alloc (.cells #[.int .i64 (cc.source:Int),.string (mk cc.name),.bool cc.exact] 204)) w3.heap.size 204 (zw cc):=BlkL.new w3 204 (zw cc);have v4:=j4.alloc (.cells #[.int .i64 (cc.source:Int),.string (mk cc.name),.bool cc.exact] 204);have v5:=j5.alloc (.cells #[.int .i64 (cc.source:Int),.string (mk cc.name),.bool cc.exact] 204);have v6:=(Below.heap_alloc w3 (.cells #[.int .i64 (cc.source:Int),.string (mk cc.name),.bool cc.exact] 204) _ (Array.getElem?_eq_some_iff.1 i6).1).trans i6;have v7:=i7.alloc (by have:=j0.lt;omega) (.cells #[.int .i64 (cc.source:Int),.string (mk cc.name),.bool cc.exact] 204);have vL:=(Below.heap_alloc w3 (.cells #[.int .i64 (cc.source:Int),.string (mk cc.name),.bool cc.exact] 204) (y+2) (by omega)).trans hL3;have vK:=hK3.trans (Keeps.alloc _ w3 (.cells #[.int .i64 (cc.source:Int),.string (mk cc.name),.bool cc.exact] 204))
     obtain ⟨e0,e1,e2⟩:=BlkL.cs3 hyn;obtain ⟨k0,k1,k2⟩:=BlkL.cs3 v5;have m0:=v5.f 0;have m1:=v5.f 1;have m2:=v5.f 2;have hcs:wt now T L (yc nm)=cc:=by rw [←HPO.out,List.append_assoc,List.singleton_append];exact We now T L pre x post cc i1 HO.out.symm
     have HCS:=KZ9 hcs;have HV5:=KZ9 v5;have HV4:=KZ9 v4;have HV6:=KZ9 v6;have HV7:=KZ9 v7;have HVL:=KZ9 vL;have HVK:=KZ9 vK;have HI8:=KZ9 i8;clear hcs v5 v4 v6 v7 vL vK i1 i6 i7 i8 j0 j1 j2 j4 j5 HI3 hyn hL3 hK3
     gi_wp2
     all_goals try omega
     have hr:=zO HV5.out rfl (.int .i64 (cc.source:Int)) (.string (mk cc.name)) (.bool cc.exact);refine (show _∧_∧_ from ⟨?_,?_,rfl,?_,?_,?_,?_,HI8.out⟩)
     ·exact ((Below.heap_setCell _ _ _ _ (by simp;omega)).trans ((Below.heap_setCell _ _ _ _ (by simp;omega)).trans (Below.heap_setCell _ _ _ _ (by simp;omega)))).trans HVL.out
     ·have hne:¬ (G (z+5)∨z+5<z):=fun h=>h.elim (fun h=>by have:=(HI8.out _ h).1;omega) (fun h=>by omega);exact ((HVK.out.trans (Keeps.setCell _ _ _ hne _)).trans (Keeps.setCell _ _ _ hne _)).trans (Keeps.setCell _ _ _ hne _)
     ·exact ((HV4.out.other (by omega) _ _).other (by omega) _ _).other (by omega) _ _
     ·rw [HCS.out];exact hr
     ·exact ss HV6.out (by omega) _ _ _
     exact zC HV7.out (by omega) _ _ _
   case done =>
    rintro xs G W' hxs hI;rw [hsup2] at hxs;obtain ⟨i1,j0,j1,j2,j4,j5,i6,i7,i8⟩:=hI;have hcs:wt now T L (yc nm)=cov0:=by
     have:=sJ now T L xs [] i1;rw [List.append_nil,hxs] at this;rw [this];rfl
    rw [hcs] at hfin;obtain ⟨e0,e1,e2⟩:=BlkL.cs3 j5;obtain ⟨k0,k1,k2⟩:=BlkL.cs3 j4;have m0:=j4.f 0;have m1:=j4.f 1;have m2:=j4.f 2;have HJ4:=KZ9 j4;have HI6:=KZ9 i6;have HI7:=KZ9 i7;clear j4 i6 i7 i1 i8 j0 j1 j2 j5 hcs hxs
    gi_wp2
    all_goals try omega
    (try rw [Exit.noGoto_ret])
    refine yC [y+1] _ (fun r hr=> ?_) (by simp) (fun W'' hW'=> ?_)
    ·rw [List.mem_singleton.1 hr];exact ss HI6.out (by omega) _ _ _
    have hr:=zO HJ4.out rfl (.int .i64 (cov0.source:Int)) (.string (mk cov0.name)) (.bool cov0.exact);have hr2:BlkL W'' (z+4) 204 (zw cov0):=(hW'.block _ hr.lt (by simp;omega)).trans hr;refine ⟨_,results_cell_row rfl _ _ (z+4) 204 _ _ _ rfl hr2 Tryz.underlying204 rfl zQ,?_⟩;rw [hfin.out,←HZ.out];exact ⟨rfl,(zC HI7.out (by omega) _ _ _).trans (Keeps.below (hW'.mono fun k _=>by simp;omega) (by have:=HI7.out.size;simp;omega))⟩
   case stop =>
    rintro c pre G W' _ hO;obtain ⟨rfl,j4,j5,i6,i7,i8⟩:=hO;obtain ⟨cs,hcs⟩:=KZ6 (wt now T L (yc nm));rw [←hcs] at hfin j5;obtain ⟨e0,e1,e2⟩:=BlkL.cs3 j5;obtain ⟨k0,k1,k2⟩:=BlkL.cs3 j4;have m0:=j4.f 0;have m1:=j4.f 1;have m2:=j4.f 2;have HJ4:=KZ9 j4;have HI6:=KZ9 i6;have HI7:=KZ9 i7;clear j4 i6 i7 i8 j5 hcs
    gi_wp2
    all_goals try omega
    (try rw [Exit.noGoto_ret])
    refine yC [y+1] _ (fun r hr=> ?_) (by simp) (fun W'' hW'=> ?_)
    ·rw [List.mem_singleton.1 hr];exact ss HI6.out (by omega) _ _ _
    have hr:=zO HJ4.out rfl (.int .i64 (cs.source:Int)) (.string (mk cs.name)) (.bool cs.exact);have hr2:BlkL W'' (z+4) 204 (zw cs):=(hW'.block _ hr.lt (by simp;omega)).trans hr;refine ⟨_,results_cell_row rfl _ _ (z+4) 204 _ _ _ rfl hr2 Tryz.underlying204 rfl zQ,?_⟩;rw [hfin.out,←HZ.out];exact ⟨rfl,(zC HI7.out (by omega) _ _ _).trans (Keeps.below (hW'.mono fun k _=>by simp;omega) (by have:=HI7.out.size;simp;omega))⟩
  | some cc =>
   have hfin:=KZ9 (HHIT.out cc rfl);clear HSUP HHIT;simp only [Option.getD_some,Option.isSome_some]
   gi_upto_region 5 with fail
   obtain ⟨W9,hW9⟩:=KZ6 (w2.alloc (.cells #[.int .i64 (cc.source:Int),.string (mk cc.name),.bool cc.exact] 204));have y0:=x0.alloc (.cells #[.int .i64 (cc.source:Int),.string (mk cc.name),.bool cc.exact] 204);have y1:=x1.alloc (.cells #[.int .i64 (cc.source:Int),.string (mk cc.name),.bool cc.exact] 204);have y2:=x2.alloc (.cells #[.int .i64 (cc.source:Int),.string (mk cc.name),.bool cc.exact] 204);have y3:=x3.alloc (.cells #[.int .i64 (cc.source:Int),.string (mk cc.name),.bool cc.exact] 204);have y4:=x4.alloc (.cells #[.int .i64 (cc.source:Int),.string (mk cc.name),.bool cc.exact] 204);have y5:=x5.alloc (.cells #[.int .i64 (cc.source:Int),.string (mk cc.name),.bool cc.exact] 204);have yn:=BlkL.new w2 204 (zw cc);have ht9:TL (w2.alloc (.cells #[.int .i64 (cc.source:Int),.string (mk cc.name),.bool cc.exact] 204)) q q2 T L:=ht8.below ((Below.refl _ w2).alloc (Nat.le_refl _) _)
   have HB9:=KZ9 (HB8.out.alloc (by omega) (.cells #[.int .i64 (cc.source:Int),.string (mk cc.name),.bool cc.exact] 204));have hs9:(w2.alloc (.cells #[.int .i64 (cc.source:Int),.string (mk cc.name),.bool cc.exact] 204)).heap.size=w2.heap.size+1:=by simp
   have hyn:BlkL (w2.alloc (.cells #[.int .i64 (cc.source:Int),.string (mk cc.name),.bool cc.exact] 204)) w2.heap.size 204 (zw cc):=yn;rw [←hW9] at y0 y1 y2 y3 y4 y5 ht9 HB9 hs9 hyn ⊢;clear hW9 yn x0 x1 x2 x3 x4 x5 ht8 HB8;obtain ⟨e0,e1,e2⟩:=BlkL.cs3 hyn;obtain ⟨k0,k1,k2⟩:=BlkL.cs3 y4;have m0:=y4.f 0;have m1:=y4.f 1;have m2:=y4.f 2
   gi_wp2
   all_goals try omega
   (try rw [Exit.noGoto_ret])
   refine yC [] _ (by simp) List.nodup_nil (fun W' hW'=> ?_);have hr:=zO y4 rfl (.int .i64 (cc.source:Int)) (.string (mk cc.name)) (.bool cc.exact);have hr2:BlkL W' (z+4) 204 (zw cc):=(hW'.block _ hr.lt (by simp)).trans hr;refine ⟨_,results_cell_row rfl _ _ (z+4) 204 _ _ _ rfl hr2 Tryz.underlying204 rfl zQ,?_⟩;rw [hfin.out,←HZ.out];exact ⟨rfl,(zC HB9.out (by omega) _ _ _).trans (Keeps.below (hW'.mono fun k _=>by simp) (by have:=HB9.out.size;simp;omega))⟩
 have g1:((kd:Int) != 1)=true:=by simp;omega
 have hfin:=KZ9 (Vu (now:=now) (T:=T) (L:=L) (h:=⟨kd,nm,va,[a,b,c,d,e,f,g,i]⟩) (fun hh=>hk hh.1));clear hk HV HOK;obtain ⟨e0,e1,e2⟩:=BlkL.cs3 c5;obtain ⟨k0,k1,k2⟩:=BlkL.cs3 a4;have m0:=a4.f 0;have m1:=a4.f 1;have m2:=a4.f 2
 gi_wp2
 all_goals try omega
 refine ⟨trivial,?_⟩
 gi_wp2
 all_goals try omega
 (try rw [Exit.noGoto_ret])
 refine yC [] _ (by simp) List.nodup_nil (fun W' hW'=> ?_);have hr:=zO a4 rfl (.int .i64 ((cov0).source:Int)) (.string (mk (cov0).name)) (.bool (cov0).exact);have hr2:BlkL W' (z+4) 204 (zw (cov0)):=(hW'.block _ hr.lt (by simp)).trans hr;refine ⟨_,results_cell_row rfl _ _ (z+4) 204 _ _ _ rfl hr2 Tryz.underlying204 rfl zQ,?_⟩;rw [hfin.out,←HZ.out];exact ⟨rfl,(zC hB6 (by omega) _ _ _).trans (Keeps.below (hW'.mono fun k _=>by simp) (by have:=(hB6).size;simp;omega))⟩
end Go.Proofs.YtbnnlkdhpifpeaaGreatDoor
namespace Go.Proofs.YtbnnlkdhpifpeaaGreatDoor
open Go.RowKit Hs
set_option maxRecDepth 20000
set_option maxHeartbeats 8000000
theorem Uv (l:Bs) (d:Int) (img:Bool) (c:CtxP) (hv:Value) (now:Int) (q q2:Option Addr) (T:List PinP) (L:List EntP) (u:UrlP) (w:World) (hB:Base6 w) (hl:l.length≤100000) (hTl:okT l) (hu:ti l=some u) (hw:xR u.host) (hb:qW u) (hT:okT (xx u)) (hw':xR (zT u).host) (hb':qW (zT u)) (hT':okT (xx (zT u))) (hS:Strs w hv c.hosts) (hvu:yY u=true) (ht:TL w q q2 T L) :
  Calls Tryz.prog 51 #[.agg (uJ l d img).toArray,.agg (yF c hv).toArray,.int .i64 now,.pointer q,.pointer q2] w fun e w'=>e= .returned (.tuple #[.agg (yy (if uG d=true then vo u d img c (tg now T L u.host) else SH)).toArray,.int .i64 (if uG d=true then 0 else 2)])∧Below w.heap.size w w':=by
 obtain ⟨z,hz⟩:=KZ6 w.heap.size;obtain ⟨W0,hW0⟩:=KZ6 (((w.alloc (.cells (uJ l d img).toArray 42)).alloc (.cells (yF c hv).toArray 120)).alloc (.cells #[.int .i64 0,.int .i64 0,.string ⟨#[]⟩] 38));have hbA:Below z w W0:=by rw [hW0,hz];exact (((Below.refl _ w).alloc (Nat.le_refl _) _).alloc (by simp) _).alloc (by simp;omega) _
 have hbA':Below w.heap.size w W0:=hz▸hbA;have b0:BlkL W0 z 42 (uJ l d img):=by rw [hW0,hz];exact ((BlkL.new w _ _).alloc _).alloc _
 have b1:BlkL W0 (z+1) 120 (yF c hv):=by
  rw [hW0,hz];have:=(BlkL.new (w.alloc (.cells (uJ l d img).toArray 42)) 120 (yF c hv)).alloc (.cells #[.int .i64 0,.int .i64 0,.string ⟨#[]⟩] 38);simp only [World.size_alloc] at this;exact this
 have b3:BlkL W0 (z+2) 38 (yy ⟨0,0,[]⟩):=by
  rw [hW0,hz];have:=BlkL.new ((w.alloc (.cells (uJ l d img).toArray 42)).alloc (.cells (yF c hv).toArray 120)) 38 (yy ⟨0,0,[]⟩);simp only [World.size_alloc] at this;exact this
 have HW0:=KZ9 hW0.symm;have hsz:W0.heap.size=z+3:=by rw [hW0,hz];simp
 have HI0:=KZ9 (yg hw.1);have HW8:=KZ9 hw;have HBA:=KZ9 hbA;have HZ:=KZ9 hz;have hz':=Nat.le_of_eq hz;have hB0:Base6 W0:=hB.below (hz▸hbA);have hpar:=cm (mk l) W0 hB0.1 (by rw [zi];omega) (by rw [zk];exact hTl);rw [zk,hu] at hpar;have HPAR:=KZ9 hpar;have HFI:=KZ9 (fun (W1:World) (h1:Below W0.heap.size W0 W1)=>US now q q2 T L u.host W1 (hB0.below h1).1 hw hb.2.2.1 (ht.below (hbA'.trans (h1.mono hbA'.size))));have HR:=KZ9 (fun (W1:World) (h1:Below W0.heap.size W0 W1)=>ZW u d img c hv (tg now T L u.host) W1 (hB0.below h1) hw hb hT hw' hb' hT' (hS.below (hbA'.trans (h1.mono hbA'.size))) hvu);obtain ⟨cv,hcv⟩:=KZ6 (tg now T L u.host);simp only [←hcv] at HFI HR ⊢;generalize (if uG d=true then vo u d img c cv else SH)=rv at *;obtain ⟨ce,hce⟩:∃ ce:Int,ce=(if uG d=true then 0 else 2):=⟨_,rfl⟩;simp only [←hce] at HR ⊢
 clear hW0 hbA hbA' hB hT hb hb' hT' hw' hz hB0 hvu hS hpar hTl hu ht hl hcv hce;have c0:=b0.c 0 _ rfl;go_enter Tryz.func51,Tryz.ntmps51
 go_upto_region 1 with fail
 rw [HW0.out,←HZ.out];clear HW0;rw [show z+1+1=z+2 from rfl];go_wp2_with fail
 all_goals try omega
 refine HPAR.out.mono ?_;rintro e w1 ⟨⟨u1,ec,rfl,hcase⟩,hb1⟩;obtain ⟨rfl,hue⟩:ec=0∧some u=some u1:=by
  rcases hcase with h | ⟨_,_,h⟩
  ·exact h
  cases h
 obtain rfl:u=u1:=by injection hue
 clear hcase hue HPAR;have hs1:=hb1.size;have B0:=KZ9 (b0.below (by omega) hb1);have B1:=KZ9 (b1.below (by omega) hb1);have B3:=KZ9 (b3.below (by omega) hb1);have HA1:=KZ9 (HBA.out.trans (hb1.mono (by omega)));have HN:=KZ9 (heap_alloc_new w1 (.cells (zb zJ).toArray 100));have HSZ0:=KZ9 (show (zb zJ).toArray.size=(zb u).toArray.size by rw [List.size_toArray,List.size_toArray,xN HW8.out.1];rfl);have HW1:=KZ9 hb1;have hY:=(BlkL.new w1 100 (zb zJ)).setRow (zb u);have c0':=(B0.out.alloc (.cells (zb zJ).toArray 100)).setRow_other (show z≠w1.heap.size by omega) (zb u).toArray;have c1':=(B1.out.alloc (.cells (zb zJ).toArray 100)).setRow_other (show z+1≠w1.heap.size by omega) (zb u).toArray;have c3':=(B3.out.alloc (.cells (zb zJ).toArray 100)).setRow_other (show z+2≠w1.heap.size by omega) (zb u).toArray
 have hA2:=below_setRow (HA1.out.alloc (by omega) (.cells (zb zJ).toArray 100)) (show z≤w1.heap.size by omega) (zb u).toArray;have hA2':=below_setRow (hb1.alloc hs1 (.cells (zb zJ).toArray 100)) hs1 (zb u).toArray;obtain ⟨W2,hW2⟩:=KZ6 ((w1.alloc (.cells (zb zJ).toArray 100)).setRow w1.heap.size (zb u).toArray);rw [←hW2] at hY c0' c1' c3' hA2 hA2';have hs2:W2.heap.size=w1.heap.size+1:=by rw [hW2];simp [World.setRow]
 have HW2:Hid ((w1.alloc (.cells #[.string ⟨#[]⟩,.string ⟨#[]⟩,.int .i64 0,.string ⟨#[]⟩,.int .u32 0,.int .u16 0,.int .u16 0,.int .u16 0,.int .u16 0,.int .u16 0,.int .u16 0,.int .u16 0,.int .u16 0,.int .i64 0,.string ⟨#[]⟩] 100)).setRow w1.heap.size (zb u).toArray=W2):=KZ9 hW2.symm;have HY:=KZ9 hY;have HA2:=KZ9 hA2;have F1:=KZ9 (fun x:xi W2=>HFI.out x.1 (hA2'.trans (x.2.mono (by omega))));have F2:=KZ9 (fun x:xi W2=>HR.out x.1 (hA2'.trans (x.2.mono (by omega))));clear b0 b1 b3 HBA hb1 hW2 B0 B1 B3 HA1 hA2 hA2' HFI HR HW1;go_upto_region 2 with (refine wpList_store_row rfl 100 (.tmp 12) (.tmp 18) rfl w1.heap.size (zb u).toArray rfl rfl 100 _ HN.out HI0.out HSZ0.out (zh (yZ _)) ?_)
 all_goals try omega
 rw [HW2.out];clear HW2 HN;go_wp2
 all_goals try omega
 obtain ⟨sc,us,⟨kd,nm,va,v6⟩,pt,rs⟩:=u;obtain ⟨a0,a1,a2,a3,a4,a5,a6,a7,rfl⟩:=Z5 HW8.out.1;clear HY;obtain ⟨q0,q1,q2,q3,q4,q5,q6,q7,q8,q9,q10,q11,q12,q13,q14⟩:=BlkL.fs15 (fun x:xi W2=>(hY.below (by omega) x.2));obtain ⟨r0,r1,r2⟩:=BlkL.fs3 (fun x:xi W2=>(c0'.below (by omega) x.2));obtain ⟨s0,s1,s2,s3,s4⟩:=BlkL.fs5 (fun x:xi W2=>(c1'.below (by omega) x.2));refine sf 15 W2 (by kernel_rfl) (by kernel_rfl) (Below.refl _ _) ?_;simp only [List.take_succ_cons,List.take_zero,List.drop_succ_cons,List.drop_zero];repeat (go_big_quiet_step (fail))
 go_big_quiet_step (exact Calls.later (F1.out _))
 repeat (go_big_quiet_step (fail))
 go_big_quiet_step (exact Calls.later (F2.out _))
 repeat (go_big_quiet_step (fail))
 refine wpQuiet_nil ?_;intro w5 hw';obtain ⟨⟨w6,hb6⟩,hw6⟩:=hw';have hb5:Below W2.heap.size W2 w5:=hw6▸hb6;clear hw6 hb6;have hs5:=hb5.size;have D3:=KZ9 (c3'.below (by omega) hb5);have HA5:=KZ9 (HA2.out.trans (hb5.mono (by omega)));clear q0 q1 q2 q3 q4 q5 q6 q7 q8 q9 q10 q11 q12 q13 q14 r0 r1 r2 s0 s1 s2 s3 s4 c0' c1' c3' hY F1 F2 hb5 HA2;go_wp2_with (refine wpList_store_row rfl 38 (.tmp 10) (.tmp 37) rfl (z+2) (yy rv).toArray rfl rfl 38 _ D3.out yi rfl (zh (bK _)) ?_)
 all_goals try omega
 refine bodyPost_ret (zf rfl _ _ (z+2) 38 _ _ rfl (D3.out.setRow (yy rv)) Tryz.underlying38 rfl yi) rfl ?_;exact ⟨rfl,HZ.out▸below_setRow HA5.out (by omega) _⟩
theorem ZX (clk:Int) (T:List PinP) (v fv:Value) (lp:Nat) (l:Bs) (d:Int) (img:Bool) (c:CtxP) (u:UrlP) (w:World) (hB:Base6 w) (hT:Pins w v T) (hok:OkS clk T) (hlp:BlkL w lp 141 [.slice none 0 0])
  (hCT:∀ W,Below w.heap.size w W→Calls Tryz.prog 49 #[fv] W fun e w'=>e= .returned (.tuple #[.agg (yF c (.slice none 0 0)).toArray,.int .i64 0])∧Below W.heap.size W w') (hch:c.hosts=[]) (hvd:uG d=true)
  (hl:l.length≤100000) (hu:ti l=some u) (hw:xR u.host) (hb:qW u) (hw':xR (zT u).host) (hb':qW (zT u)) (hvu:yY u=true) (hk1:okT l) (hk2:okT (xx u)) (hk3:okT (xx (zT u))) :
  Calls Tryz.prog 24 #[.agg #[.int .i64 clk,v],.pointer (some ⟨lp,0,none⟩),.agg (uJ l d img).toArray,fv] w fun e w'=>e= .returned (.tuple #[.agg (yy (vo u d img c (tg clk T [] u.host))).toArray,.int .i64 0])∧Below w.heap.size w w':=by
 obtain ⟨va,vc,rfl,_,_,_⟩:=hT.open;obtain ⟨z,hz⟩:=KZ6 w.heap.size;obtain ⟨W0,hW0⟩:∃ W0,((w.alloc (.cells #[.int .i64 clk,.slice va T.length vc] 49)).alloc (.cells #[.string (mk l),.int .i64 d,.bool img] 42)).alloc (.cells #[.int .i64 0,.int .i64 0,.string ⟨#[]⟩] 38)=W0:=⟨_,rfl⟩;have hb0:Below w.heap.size w W0:=by rw [←hW0];exact (((Below.refl _ w).alloc (Nat.le_refl _) _).alloc (by simp) _).alloc (by simp;omega) _
 have hx0:BlkL W0 z 49 [.int .i64 clk,.slice va T.length vc]:=by rw [←hW0,hz];exact ((BlkL.new w _ _).alloc _).alloc _
 have hr0:BlkL W0 (z+1) 42 [.string (mk l),.int .i64 d,.bool img]:=by
  have h8:=(BlkL.new (w.alloc (.cells #[.int .i64 clk,.slice va T.length vc] 49)) 42 [.string (mk l),.int .i64 d,.bool img]).alloc (.cells #[.int .i64 0,.int .i64 0,.string ⟨#[]⟩] 38);rw [World.size_alloc,←hz] at h8;rw [←hW0];exact h8
 have hd0:BlkL W0 (z+2) 38 [.int .i64 0,.int .i64 0,.string ⟨#[]⟩]:=by
  have h8:=BlkL.new ((w.alloc (.cells #[.int .i64 clk,.slice va T.length vc] 49)).alloc (.cells #[.string (mk l),.int .i64 d,.bool img] 42)) 38 [.int .i64 0,.int .i64 0,.string ⟨#[]⟩];rw [World.size_alloc,World.size_alloc,←hz] at h8;rw [←hW0];exact h8
 have hs0:W0.heap.size=z+3:=by rw [←hW0,hz];simp
 have HVS:=KZ9 (xM clk T _ W0 (hB.1.below hb0) (hT.below hb0) hok);simp only [yF] at hCT;have HCT:=KZ9 hCT;have hl1:T.length≤1:=hok.2.2.1;have hps:∀ p∈T,p.host.length≤100000:=fun p hp=>by have:=(hok.2.2.2 p hp).2.1;omega
 have hpk:∀ p∈T,xU p=true:=fun p hp=>(hok.2.2.2 p hp).1;have HLD:=KZ9 (fun W (hW:Below w.heap.size w W)=>TR T _ W (hB.1.below hW) (hT.below hW) hl1 hps hpk);have HMD:=KZ9 (fun W q (hW:Below w.heap.size w W) (hq:TabG W (.pointer q) T)=>by
  have h8:=Uv l d img c (.slice none 0 0) clk q (some ⟨lp,0,none⟩) T [] u W (hB.below hW) hl hk1 hu hw hb hk2 hw' hb' hk3 (by rw [hch];exact Row.nil _ _) hvu ⟨hq,.inr ⟨lp,none,0,rfl,hlp.below hlp.lt hW,Row.nil _ _,by simp [SortH],by simp,by simp⟩⟩;rw [if_pos hvd,if_pos hvd] at h8;exact h8)
 simp only [uJ,yF] at HMD ⊢;generalize vo u d img c (tg clk T [] u.host)=D at HMD ⊢;simp only [yy] at HMD ⊢;have HX0:=KZ9 hx0;have HR0:=KZ9 hr0;have HD0:=KZ9 hd0;have HS0:=KZ9 hs0;have HB0:=KZ9 hb0;have HW0:=KZ9 hW0;have HZ:=KZ9 hz;have x0:=hx0.c 0 _ rfl;have x1:=hx0.c 1 _ rfl;clear hB hT hok hlp hCT hch hvd hl hu hw hb hw' hb' hvu hk1 hk2 hk3 hx0 hr0 hd0 hs0 hb0 hW0 hz hl1 hps hpk;go_enter Tryz.func24,Tryz.ntmps24
 go_upto_region 1 with fail
 rw [HW0.out,←HZ.out,show z+1+1=z+2 from rfl];go_wp2_with fail
 refine HVS.out.mono ?_;rintro e w1 ⟨rfl,hb1⟩;have HX1:=KZ9 (HX0.out.below HX0.out.lt hb1);have HR1:=KZ9 (HR0.out.below HR0.out.lt hb1);have HD1:=KZ9 (HD0.out.below HD0.out.lt hb1);have HB1:=KZ9 (HB0.out.trans (hb1.mono HB0.out.size));clear hb1 HVS HX0 HR0 HD0 HS0 HB0 HW0 x0 x1;go_wp2_with fail
 refine (HCT.out w1 HB1.out).mono ?_;rintro e w2 ⟨rfl,hb2⟩;obtain ⟨W3,hW3⟩:∃ W3,w2.alloc (.cells #[.bool c.secure,.bool c.prohibits,.bool c.upgrade,.bool c.blockAll,.slice none 0 0] 120)=W3:=⟨_,rfl⟩;have hb3:Below w1.heap.size w1 W3:=by rw [←hW3];exact hb2.alloc hb2.size _
 have hc3:BlkL W3 w2.heap.size 120 [.bool c.secure,.bool c.prohibits,.bool c.upgrade,.bool c.blockAll,.slice none 0 0]:=by rw [←hW3];exact BlkL.new w2 _ _
 have hx3:=HX1.out.below HX1.out.lt hb3;have HR3:=KZ9 (HR1.out.below HR1.out.lt hb3);have HD3:=KZ9 (HD1.out.below HD1.out.lt hb3);have HB3:=KZ9 (HB1.out.trans (hb3.mono HB1.out.size));have HC3:=KZ9 hc3;have HX3:=KZ9 hx3;have HW3:=KZ9 hW3;have x0:=hx3.c 0 _ rfl;have x1:=hx3.c 1 _ rfl;clear hb2 hb3 hc3 hx3 hW3 HX1 HR1 HD1 HB1 HCT;go_upto_region 4 with fail
 rw [HW3.out];go_wp2_with fail
 refine (HLD.out W3 HB3.out).mono ?_;rintro e w4 ⟨q,rfl,htb,hb4⟩;have hx4:=HX3.out.below HX3.out.lt hb4;have hr4:=HR3.out.below HR3.out.lt hb4;have hd4:=HD3.out.below HD3.out.lt hb4;have hc4:=HC3.out.below HC3.out.lt hb4;have HB4:=KZ9 (HB3.out.trans (hb4.mono HB3.out.size));have x0:=hx4.c 0 _ rfl;obtain ⟨r0,r1,r2⟩:=BlkL.cs3 hr4;obtain ⟨c0,c1,c2,c3,c4⟩:=BlkL.cs5 hc4;have HD4:=KZ9 hd4;have HM4:=KZ9 (HMD.out w4 q HB4.out htb);clear hx4 hr4 hd4 hc4 htb hb4 HLD HMD HX3 HR3 HD3 HC3 HB3 HW3;go_wp2_with fail
 refine HM4.out.mono ?_;rintro e w5 ⟨rfl,hb5⟩;have hd5:=HD4.out.below HD4.out.lt hb5;obtain ⟨d0,d1,d2⟩:=BlkL.cs3 hd5;have f0:=hd5.f 0;have f1:=hd5.f 1;have f2:=hd5.f 2;have HD5:=KZ9 hd5;have HB5:=KZ9 (HB4.out.trans (hb5.mono HB4.out.size));clear hd5 hb5 HM4 HD4 HB4 x0 r0 r1 r2 c0 c1 c2 c3 c4;go_wp2_with fail
 have hR:=((HD5.out.set 0 (by simp) (.int .i64 (D.action:Int))).set 1 (by simp) (.int .i64 (D.reason:Int))).set 2 (by simp) (.string (mk D.url));have hbz:=((((But.refl (fun k=>k=z+2) w5).set (.inl rfl) 0 (.int .i64 (D.action:Int))).set (.inl rfl) 1 (.int .i64 (D.reason:Int))).set (.inl rfl) 2 (.string (mk D.url)));refine bodyPost_ret (zf rfl _ _ (z+2) 38 _ _ rfl hR Tryz.underlying38 rfl yi) rfl ?_;exact ⟨rfl,HB5.out.trans (hbz.to_below (fun k hk=>by have:=HZ.out;omega) HB5.out.size)⟩
theorem dz (pm ps lp n vc:Nat) (va:Option Addr) (clk:Int) (fv:Value) (l:Bs) (d:Int) (img:Bool) (D:DecP) (w:World) (hM:BlkL w pm 73 (xD ps lp clk (.slice va n vc)))
  (hMD:∀ W,Below w.heap.size w W→Calls Tryz.prog 24 #[.agg #[.int .i64 clk,.slice va n vc],.pointer (some ⟨lp,0,none⟩),.agg (uJ l d img).toArray,fv] W fun e w'=>e= .returned (.tuple #[.agg (yy D).toArray,.int .i64 0])∧Below W.heap.size W w') :
  Calls Tryz.prog 11 #[.pointer (some ⟨pm,0,none⟩),.agg (uJ l d img).toArray,fv] w fun e w'=>e= .returned (.tuple #[.agg (yy D).toArray,.int .i64 0])∧Below w.heap.size w w':=by
 obtain ⟨z,hz⟩:=KZ6 w.heap.size;obtain ⟨W0,hW0⟩:∃ W0,(w.alloc (.cells #[.string (mk l),.int .i64 d,.bool img] 42)).alloc (.cells #[.int .i64 0,.int .i64 0,.string ⟨#[]⟩] 38)=W0:=⟨_,rfl⟩;have hb0:Below w.heap.size w W0:=by rw [←hW0];exact ((Below.refl _ w).alloc (Nat.le_refl _) _).alloc (by simp) _
 have hr0:BlkL W0 z 42 [.string (mk l),.int .i64 d,.bool img]:=by rw [←hW0,hz];exact (BlkL.new w _ _).alloc _
 have hd0:BlkL W0 (z+1) 38 [.int .i64 0,.int .i64 0,.string ⟨#[]⟩]:=by
  have h8:=BlkL.new (w.alloc (.cells #[.string (mk l),.int .i64 d,.bool img] 42)) 38 [.int .i64 0,.int .i64 0,.string ⟨#[]⟩];rw [World.size_alloc,←hz] at h8;rw [←hW0];exact h8
 have HCT:=KZ9 (rW pm ps lp n vc clk va W0 (hM.below hM.lt hb0));simp only [uJ,yy] at hMD ⊢;have HMD:=KZ9 hMD;have HR0:=KZ9 hr0;have HD0:=KZ9 hd0;have HB0:=KZ9 hb0;have HW0:=KZ9 hW0;have HZ:=KZ9 hz;clear hM hMD hb0 hr0 hd0 hW0 hz;go_enter Tryz.func11,Tryz.ntmps11
 go_wp2_with fail
 rw [HW0.out,←HZ.out];refine HCT.out.mono ?_;rintro e w1 ⟨rfl,hb1⟩;have hr1:=(HR0.out.below HR0.out.lt hb1).alloc (.cells #[.int .i64 clk,.slice va n vc] 49);have hy1:=BlkL.new w1 49 [.int .i64 clk,.slice va n vc];have HD1:=KZ9 ((HD0.out.below HD0.out.lt hb1).alloc (.cells #[.int .i64 clk,.slice va n vc] 49));have hbb1:=HB0.out.trans (hb1.mono HB0.out.size);have HB1:=KZ9 (hbb1.alloc hbb1.size (.cells #[.int .i64 clk,.slice va n vc] 49));obtain ⟨r0,r1,r2⟩:=BlkL.cs3 hr1;have y0:=hy1.c 0 _ rfl;have y1:=hy1.c 1 _ rfl;clear hr1 hy1 hbb1 hb1 HCT HR0 HD0 HB0 HW0;go_wp2_with fail
 refine (HMD.out _ HB1.out).mono ?_;rintro e w5 ⟨rfl,hb5⟩;have hd5:=HD1.out.below HD1.out.lt hb5;obtain ⟨d0,d1,d2⟩:=BlkL.cs3 hd5;have f0:=hd5.f 0;have f1:=hd5.f 1;have f2:=hd5.f 2;have HD5:=KZ9 hd5;have HB5:=KZ9 (HB1.out.trans (hb5.mono HB1.out.size));clear hd5 hb5 HMD HD1 HB1 r0 r1 r2 y0 y1;go_wp2_with fail
 have hR:=((HD5.out.set 0 (by simp) (.int .i64 (D.action:Int))).set 1 (by simp) (.int .i64 (D.reason:Int))).set 2 (by simp) (.string (mk D.url));have hbz:=((((But.refl (fun k=>k=z+1) w5).set (.inl rfl) 0 (.int .i64 (D.action:Int))).set (.inl rfl) 1 (.int .i64 (D.reason:Int))).set (.inl rfl) 2 (.string (mk D.url)));refine bodyPost_ret (zf rfl _ _ (z+1) 38 _ _ rfl hR Tryz.underlying38 rfl yi) rfl ?_;exact ⟨rfl,HB5.out.trans (hbz.to_below (fun k hk=>by have:=HZ.out;omega) HB5.out.size)⟩
end Go.Proofs.YtbnnlkdhpifpeaaGreatDoor
namespace Hs
open Go
def jn (n:Nat):Bs:=tk wU++zs (64*n - 64)
theorem sA (n:Nat) (h:1≤n):(jn n).length=64*n:=by simp [jn,yf,yV];omega
theorem Vk (n k:Nat) (h1:64≤k) (h2:k<64*n):(jn n)[k]? =some 0:=by
 unfold jn;rw [List.getElem?_append_right (by rw [yf];exact h1),yf];show (List.replicate (64*n - 64) (0:UInt8))[k - 64]? =some 0;rw [List.getElem?_replicate,if_pos (by omega)]
theorem Ph {l:Bs} {m:Nat} (hl:l.length=m) (h:∀ k,k<m→l[k]? =some 0):l=zs m:=by
 apply List.ext_getElem?;intro k;by_cases hk:k<m
 ·rw [h k hk];simp [zs,hk]
 rw [List.getElem?_eq_none (by omega),List.getElem?_eq_none (by rw [yV];omega)]
theorem rh (n o m:Nat) (h1:64≤o) (h2:o+m≤64*n) (hn:1≤n):((jn n).drop o).take m=zs m:=by
 apply Ph
 ·rw [List.length_take,List.length_drop,sA n hn];omega
 intro k hk;rw [List.getElem?_take,if_pos hk,List.getElem?_drop];exact Vk n _ (by omega) (by omega)
theorem dM (n:Nat):sec (jn n) 0=tk wU:=by
 unfold sec jn;rw [Nat.mul_zero,List.drop_zero];exact List.take_left' (yf _)
theorem dL (n:Nat) (hn:2≤n):sec (jn n) 1=zs 64:=rh n 64 64 (by omega) (by omega) (by omega)
theorem TI (n F:Nat) (r:Bs) (o k:Nat) (hn:1≤n) (hr:64*F+r.length≤64*n) (h:o+k≤64*F):((splice (jn n) (64*F) r).drop o).take k=((jn n).drop o).take k:=by
 apply List.ext_getElem?;intro j;rw [List.getElem?_take,List.getElem?_take];by_cases hj:j<k
 ·rw [if_pos hj,if_pos hj,List.getElem?_drop,List.getElem?_drop,getElem?_splice _ _ _ (by rw [sA n hn];exact hr),if_pos (by omega)]
 rw [if_neg hj,if_neg hj]
theorem RD (n F N:Nat) (r:Bs) (hn:1≤n) (hF:1≤F) (hN:F+N≤n) (hr:r.length≤64*N):((splice (jn n) (64*F) r).drop (64*F)).take (64*N)=r++zs (64*N - r.length):=by
 apply List.ext_getElem?;intro j;rw [List.getElem?_take];by_cases hj:j<64*N
 ·rw [if_pos hj,List.getElem?_drop,getElem?_splice _ _ _ (by rw [sA n hn];omega),if_neg (by omega)];by_cases h2:j<r.length
  ·rw [if_pos (by omega),List.getElem?_append_left h2]
   congr 1
   omega
  rw [if_neg (by omega),List.getElem?_append_right (by omega),Vk n _ (by omega) (by omega)];show some 0=(List.replicate (64*N - r.length) (0:UInt8))[j - r.length]?;rw [List.getElem?_replicate,if_pos (by omega)]
 rw [if_neg hj,List.getElem?_eq_none (by simp [yV];omega)]
end Hs
namespace Go.Proofs.YtbnnlkdhpifpeaaGreatDoor
open Go.RowKit Hs
def vX (v:Bs):Bs:=[115,116,114,105,99,116,45,116,114,97,110,115,112,111,114,116,45,115,101,99,117,114,105,116,121,58,32]++v++[13,10,13,10]
set_option maxRecDepth 20000
theorem b9 (v:Bs) (w:World) (hl:v.length≤1000):Calls Tryz.prog 9 #[.string (mk v)] w fun e w'=>∃ g c,e= .returned (.slice (some ⟨g,0,none⟩) (vX v).length c)∧Byts w' (.slice (some ⟨g,0,none⟩) (vX v).length c) (vX v)∧w.heap.size≤g∧Below w.heap.size w w':=by
 obtain ⟨Y,hY⟩:∃ Y,(⟨#[115,116,114,105,99,116,45,116,114,97,110,115,112,111,114,116,45,115,101,99,117,114,105,116,121,58,32]⟩:ByteArray)++mk v=Y:=⟨_,rfl⟩;obtain ⟨X,hX⟩:∃ X,Y++(⟨#[13,10,13,10]⟩:ByteArray)=X:=⟨_,rfl⟩;have hun:un X=vX v:=by
  rw [←hX,←hY,yT,yT,zk];rfl
 have hsz:X.size=(vX v).length:=by rw [←hun,za]
 have hsl:X.size≤maxLen:=by rw [hsz];simp [vX,maxLen];omega
 have HC:=KZ9 (UZ w X (vX v) hun hsl);have HB:=KZ9 (Wi w X);have HSZ:=KZ9 hsz;have K:=run_bytes_of_string (P:=Tryz.prog) w 9 34 5 X Tryz.underlying9 Tryz.underlying34 Tryz.underlying5;have hYs:Y.size≤2000:=by rw [←hY,ByteArray.size_append,zi];simp [ByteArray.size];omega
 clear hun hsz hsl;go_enter Tryz.func9,Tryz.ntmps9
 go_wp2
 all_goals try omega
 go_ret;rw [←HSZ.out];exact ⟨w.heap.size,_,rfl,HC.out,Nat.le_refl _,HB.out⟩
set_option maxHeartbeats 2000000
theorem Wz (n cap h s:Nat) (w:World) (hB:Base6 w) (HPL:∀ W,Calls Tryz.prog 63 #[.int .i64 (n:Int)] W fun e w'=>e= .returned (.tuple #[.agg (uW cap h s).toArray,.int .i64 0])∧Below W.heap.size W w') (hs:1≤s) (hsh:s<h) (hn:2+h≤n) (h100:n≤100) (hc1:1≤cap) (hc2:cap≤1000) (hlz:uh (zs (64*(h - s))) 1 0=none) :
  Calls Tryz.prog 6 #[.int .i64 (n:Int),.slice none 0 0] w fun e w'=>∃ (I:DK) (pm b:Nat),e= .returned (.tuple #[.pointer (some ⟨I.dd,0,none⟩),.pointer (some ⟨pm,0,none⟩),.bool true])∧(∀ k,I.S k→w.heap.size≤k)∧w.heap.size≤b∧MonQ I n cap h s 0 0 [] (wF n) b pm 0 w'∧Below w.heap.size w w':=by
 have HNW:=KZ9 (QS n w (by omega) (by omega));have HPN:=KZ9 HPL;have HB:=KZ9 hB;have HLZ:=KZ9 hlz;clear HPL hB hlz;go_enter Tryz.func6,Tryz.ntmps6
 go_wp2_with fail
 refine HNW.out.mono ?_;rintro e w1 ⟨I,rfl,hd1,hS1,hb1⟩;have hde:DskE I w1 n (zs (64*n)) (zs (64*n)):=⟨_,fun _ hk=>hk.elim,hd1⟩;have hg1:Gnd I w w1:=⟨HB.out,hS1,hb1⟩;have HFM:=KZ9 (Ut I n cap h s w w1 HPN.out hde hg1 hs hsh hn (by omega));have HS1:=KZ9 hS1;have HG1:=KZ9 hg1;have HB1:=KZ9 hb1;clear hd1 hS1 hb1 hde hg1 HNW;go_wp2_with fail
 refine HFM.out.mono ?_;rintro e w2 ⟨rfl,hd2,hb2⟩;have HG2:=HG1.out.step hb2;have HFO:=KZ9 (WU I n cap h s 0 0 [] (wF n) w2 hd2.lt (fun W hW=>WF I n cap h s 0 0 [] (wF n) W (hd2.below hW).lt (fun W' hW'=>by
  have hdW:=(hd2.below hW).below hW';have hgW:=(HG2.below hW).below hW';refine (WE I n cap h s 0 0 (wF n) [] ⟨[],false,0⟩ [] w W' HPN.out hdW hgW hs hsh hn (by omega) hc1 hc2 (rh n _ _ (by omega) (by omega) (by omega)) (dM n) (by rw [show sec (wF n) 1=zs 64 from dL n (by omega)];exact Zo) (.inl ⟨rfl,rfl⟩) (fun V hV=> ?_) (fun h8=>absurd h8 (by decide)) (fun h8=>absurd h8 (by decide))).mono ?_
  ·obtain ⟨K,hK,hdV⟩:=hV;refine (Tb I K n (2+s) (h - s) 1 _ _ V hdV hK (by omega) (by omega) (by omega) (by decide) (rh n _ _ (by omega) (by omega) (by omega)) HLZ.out).mono ?_;rintro e w' ⟨t,rfl,h1,h2,h3,h4⟩;exact ⟨t,none,0,rfl,h1,h2,fun h8=>absurd h8 (by decide),⟨K,fun k hk=>Nat.lt_of_lt_of_le (hK k hk) h4.size,h3⟩,h4⟩
  rintro e w' ⟨ps,t,v,rfl,h1,h2,h3,h4,h5,h6,h7⟩;exact ⟨ps,v,rfl,⟨h1,⟨t,h2,h3,h4⟩,h5,h6⟩,h7⟩)))
 have HBB:=KZ9 (HB1.out.trans (hb2.to_below (fun k hk=>HS1.out k hk) HB1.out.size));clear hd2 hb2 HG2 HFM HG1 HB1;go_wp2_with fail
 refine HFO.out.mono ?_;rintro e w3 ⟨pm,rfl,hq,hb3⟩;have HQ:=KZ9 hq;have HB3:=KZ9 (HBB.out.trans (hb3.to_below (fun k hk=>HS1.out k hk) HBB.out.size));have HSZ:=KZ9 HBB.out.size;clear hq hb3 HFO HBB;go_wp2_with fail
 go_ret3
 exact ⟨I,pm,_,rfl,HS1.out,HSZ.out,HQ.out,HB3.out⟩
end Go.Proofs.YtbnnlkdhpifpeaaGreatDoor
namespace Go.Proofs.YtbnnlkdhpifpeaaGreatDoor
open Go.RowKit Go.Shelf Hs
set_option maxRecDepth 100000
set_option maxHeartbeats 4000000
theorem SN (w:World):Calls Tryz.prog 98 #[.slice none 0 0] w fun e w'=>∃ a c,e= .returned (.tuple #[.agg #[.bool false,.bool false,.slice a 0 c],.int .i64 0])∧Below w.heap.size w w':=by
 have hmm:=@run_makeMap Tryz.prog;refine (callsIn_wide (n:=9)).1 ?_;refine callsIn_of_wp_marks Tryz.func98 rfl trivial ?_ rfl;simp only [Tryz.ntmps98,List.size_toArray,List.length_cons,List.length_nil,Nat.reduceAdd,Nat.reduceSub,Array.replicate_succ,Array.replicate_zero,List.push_toArray,List.append_toArray,List.nil_append,List.cons_append]
 gi_wp2
 obtain ⟨W4,hW4⟩:=KZ6 ((((w.alloc (.cells #[.bool false,.bool false,.slice none 0 0] 192)).alloc (.cells #[.bool false,.bool false,.slice none 0 0] 192)).alloc (.map #[] 0)).alloc (.cells #[.map (some (w.heap.size+1+1))] 252));have r0:Blk3 W4 w.heap.size 192 (.bool false) (.bool false) (.slice none 0 0):=by rw [hW4];exact (((Blk3.new w _ _ _ _).alloc _).alloc _).alloc _
 have o0:Blk3 W4 (w.heap.size+1) 192 (.bool false) (.bool false) (.slice none 0 0):=by
  rw [hW4];have:=((Blk3.new (w.alloc (.cells #[.bool false,.bool false,.slice none 0 0] 192)) 192 (.bool false) (.bool false) (.slice none 0 0)).alloc (.map #[] 0)).alloc (.cells #[.map (some (w.heap.size+1+1))] 252)
  rwa [World.size_alloc] at this
 have hb0:Below w.heap.size w W4:=by rw [hW4];exact ((((Below.refl _ w).alloc (Nat.le_refl _) _).alloc (by simp) _).alloc (by simp;omega) _).alloc (by simp;omega) _
 rw [←hW4];clear hW4 hmm;obtain ⟨z,hz⟩:=KZ6 w.heap.size;simp only [←hz] at r0 o0 hb0 ⊢;have HZ:=KZ9 hz;clear hz;rw [show z+1+1+1=z+3 from rfl,show z+1+1=z+2 from rfl];have o1:=o0.set0 (.bool false);have o2:=o1.set1 (.bool false);have r1:=r0.other (p:=z+1) (by omega) 0 (.bool false);have r2:=r1.other (p:=z+1) (by omega) 1 (.bool false);have A0:=o0.c0;have A1:=o0.c1;have A2:=o0.c2;have B0:=o0.f0;have B1:=o1.f1;have A20:=o1.c2;have A11:=o1.c1;have A3:=o2.c0;have A4:=o2.c1;have A5:=o2.c2;have P0:=r2.c0;have P1:=r2.c1;have P2:=r2.c2;have Q0:=r2.f0;have Q1:=r2.f1;have Q2:=r2.f2;refine wpIn_loop_rounds 1 ?_;rw [roundsIn_succ]
 gi_wp2
 refine ⟨trivial,?_⟩;refine (callsIn_wide.2 (Tryz.slices_Contains_string_empty none 0 _ _)).mono ?_;rintro e w' ⟨rfl,rfl⟩
 gi_wp2
 refine ⟨trivial,?_⟩;refine (callsIn_wide.2 (Tryz.slices_Contains_string_empty none 0 _ _)).mono ?_;rintro e w' ⟨rfl,rfl⟩
 gi_wp2
 have r5:=((r2.set0 (.bool false)).set1 (.bool false)).set2 (.slice none 0 0);have hbl:=((((hb0.trans (vd _ (z+1) 0 (.bool false) (by omega))).trans (vd _ (z+1) 1 (.bool false) (by omega))).trans (vd _ z 0 (.bool false) (Nat.le_refl _))).trans (vd _ z 1 (.bool false) (Nat.le_refl _))).trans (vd _ z 2 (.slice none 0 0) (Nat.le_refl _));exact ⟨_,zf rfl _ _ z 192 _ _ rfl r5 Tryz.underlying192 rfl (by kernel_rfl),none,0,rfl,by rw [←HZ.out];exact hbl⟩
end Go.Proofs.YtbnnlkdhpifpeaaGreatDoor
namespace Go.Proofs.YtbnnlkdhpifpeaaGreatDoor
open Go.RowKit Hs
set_option maxRecDepth 20000
set_option maxHeartbeats 8000000
theorem YM (nm pg:Bs) (hln:nm.length≤200) (hlp:pg.length≤1000) (hpg:ti pg=some (zK zE nm)) (htr:xS (zK zE nm)=false) (hkp:okT pg) (hkd:okT (xx (zK zE nm))) (g cap:Nat) (w:World) (hB:Base6 w) (h0:w.cell? ⟨g,0,none⟩=some (.string (mk pg))) (h1:w.cell? ⟨g,1,none⟩=some (.slice none 0 0)) (hg:g<w.heap.size) :
  Calls Tryz.prog 49 #[.slice (some ⟨g,0,none⟩) 1 cap] w fun e w'=>e= .returned (.tuple #[.agg (yF ⟨false,false,false,false,[]⟩ (.slice none 0 0)).toArray,.int .i64 0])∧Below w.heap.size w w':=by
 obtain ⟨z,hz⟩:=KZ6 w.heap.size;obtain ⟨W0,hW0⟩:=KZ6 (((w.alloc (.cells #[.bool false,.bool false,.bool false,.bool false,.slice none 0 0] 120)).alloc (.cells #[.bool true,.bool false,.bool false,.bool false,.slice none 0 0] 120)).alloc (.cells #[.string (mk pg),.slice none 0 0] 45));have hbA:Below z w W0:=by rw [hW0,hz];exact (((Below.refl _ w).alloc (Nat.le_refl _) _).alloc (by simp) _).alloc (by simp;omega) _
 have hbA':Below w.heap.size w W0:=hz▸hbA;have b0:BlkL W0 z 120 [.bool false,.bool false,.bool false,.bool false,.slice none 0 0]:=by rw [hW0,hz];exact ((BlkL.new w _ [.bool false,.bool false,.bool false,.bool false,.slice none 0 0]).alloc _).alloc _
 have b1:BlkL W0 (z+1) 120 [.bool true,.bool false,.bool false,.bool false,.slice none 0 0]:=by
  rw [hW0,hz];have:=(BlkL.new (w.alloc (.cells #[.bool false,.bool false,.bool false,.bool false,.slice none 0 0] 120)) 120 [.bool true,.bool false,.bool false,.bool false,.slice none 0 0]).alloc (.cells #[.string (mk pg),.slice none 0 0] 45);simp only [World.size_alloc] at this;exact this
 have b2:BlkL W0 (z+2) 45 [.string (mk pg),.slice none 0 0]:=by
  rw [hW0,hz];have:=BlkL.new ((w.alloc (.cells #[.bool false,.bool false,.bool false,.bool false,.slice none 0 0] 120)).alloc (.cells #[.bool true,.bool false,.bool false,.bool false,.slice none 0 0] 120)) 45 [.string (mk pg),.slice none 0 0];simp only [World.size_alloc] at this;exact this
 have HW0:=KZ9 hW0.symm;have hsz:W0.heap.size=z+3:=by rw [hW0,hz];simp
 have HBA:=KZ9 hbA;have HZ:=KZ9 hz;have hB0:Base6 W0:=hB.below hbA';have hpar:=cm (mk pg) W0 hB0.1 (by rw [zi];omega) (by rw [zk];exact hkp);rw [zk,hpg] at hpar;have HPAR:=KZ9 hpar;have HI0:=KZ9 (yg (u:=zK zE nm) (qk _ _).1);have HSZ0:=KZ9 (show (zb zJ).toArray.size=(zb (zK zE nm)).toArray.size from rfl);have OT:=KZ9 (fun (W1:World) (h1:Below W0.heap.size W0 W1)=>WQ (zK zE nm) W1 (hB0.below h1) (qk _ _) (kZ _ _ (by simp [zE]) (by omega)) hkd);rw [htr] at OT;have HSP:=KZ9 (fun W=>sS (mk zE) W);rw [zk,show decide (0<zS zE)=true from rfl] at HSP;have HCN:=KZ9 SN;have HSO:=KZ9 Tryz.slices_Sort_string_none;have HCO:=KZ9 Tryz.slices_Compact_string_empty;clear hW0 hbA hbA' hB hB0 hpar hz hpg htr hkp hkd;go_enter Tryz.func49,Tryz.ntmps49
 go_wp2_with fail
 refine wp_loop_rounds 2 ?_;rw [rounds_succ];go_wp2_with fail
 all_goals try omega
 rw [HW0.out,←HZ.out];clear HW0;rw [show z+1+1=z+2 from rfl];refine HPAR.out.mono ?_;rintro e w1 ⟨⟨u1,ec,rfl,hcase⟩,hb1⟩;obtain ⟨rfl,hue⟩:ec=0∧some (zK zE nm)=some u1:=by
  rcases hcase with h | ⟨_,_,h⟩
  ·exact h
  cases h
 obtain rfl:zK zE nm=u1:=by injection hue
 clear hcase hue HPAR;have hs1:=hb1.size;have B0:=KZ9 (b0.below (by omega) hb1);have B1:=KZ9 (b1.below (by omega) hb1);have B2:=KZ9 (b2.below (by omega) hb1);have HA1:=KZ9 (HBA.out.trans (hb1.mono (by omega)));have HN:=KZ9 (heap_alloc_new w1 (.cells (zb zJ).toArray 100));have hY:=(BlkL.new w1 100 (zb zJ)).setRow (zb (zK zE nm));have c0':=(B0.out.alloc (.cells (zb zJ).toArray 100)).setRow_other (show z≠w1.heap.size by omega) (zb (zK zE nm)).toArray;have c1':=(B1.out.alloc (.cells (zb zJ).toArray 100)).setRow_other (show z+1≠w1.heap.size by omega) (zb (zK zE nm)).toArray;have c2':=(B2.out.alloc (.cells (zb zJ).toArray 100)).setRow_other (show z+2≠w1.heap.size by omega) (zb (zK zE nm)).toArray;have hA2:=below_setRow (HA1.out.alloc (by omega) (.cells (zb zJ).toArray 100)) (show z≤w1.heap.size by omega) (zb (zK zE nm)).toArray
 have hA2':=below_setRow (hb1.alloc hs1 (.cells (zb zJ).toArray 100)) hs1 (zb (zK zE nm)).toArray;obtain ⟨W2,hW2⟩:=KZ6 ((w1.alloc (.cells (zb zJ).toArray 100)).setRow w1.heap.size (zb (zK zE nm)).toArray);rw [←hW2] at hY c0' c1' c2' hA2 hA2';have hs2:W2.heap.size=w1.heap.size+1:=by rw [hW2];simp [World.setRow]
 have HW2:Hid ((w1.alloc (.cells #[.string ⟨#[]⟩,.string ⟨#[]⟩,.int .i64 0,.string ⟨#[]⟩,.int .u32 0,.int .u16 0,.int .u16 0,.int .u16 0,.int .u16 0,.int .u16 0,.int .u16 0,.int .u16 0,.int .u16 0,.int .i64 0,.string ⟨#[]⟩] 100)).setRow w1.heap.size (zb (zK zE nm)).toArray=W2):=KZ9 hW2.symm;have HY:=KZ9 hY;have C0:=KZ9 c0';have C1:=KZ9 c1';have HA2:=KZ9 hA2;have HA2':=KZ9 hA2';have f1:=c2'.c 1 _ rfl;clear b0 b1 b2 HBA hb1 hW2 B0 B1 B2 HA1 hA2 hA2' hY c0' c1' c2';go_upto_region 9 with (refine wpList_store_row rfl 100 (.tmp 8) (.tmp 31) rfl w1.heap.size (zb (zK zE nm)).toArray rfl rfl 100 _ HN.out HI0.out HSZ0.out (zh (yZ _)) ?_)
 all_goals try omega
 rw [HW2.out];clear HW2 HN;go_wp2_with fail
 all_goals try omega
 refine (HCN.out _).mono ?_;rintro e w3 ⟨xa,xc,rfl,hb3⟩;have hs3:=hb3.size;have hY3:=HY.out.below (by omega) hb3;have C0b:=C0.out.below (by omega) hb3;have C1b:=C1.out.below (by omega) hb3;have HA3:=KZ9 (HA2.out.trans (hb3.mono (by omega)));have HA3':=KZ9 (HA2'.out.trans (hb3.mono (by omega)));clear hb3 HY C0 C1 HA2 HA2' f1;have e4:((mk zE).toList==([97,98,111,117,116]:Bs))=false:=by rw [toList_mk'];decide
 have y0:=(hY3.alloc (.cells #[.bool false,.bool false,.slice xa 0 xc] 192)).c 0 _ (show (zb (zK zE nm))[0]? =some (.string (mk zE)) from rfl);have y1:=(hY3.alloc (.cells #[.bool false,.bool false,.slice xa 0 xc] 192)).c 1 _ (show (zb (zK zE nm))[1]? =some (.string (mk [])) from rfl);have y2:=(hY3.alloc (.cells #[.bool false,.bool false,.slice xa 0 xc] 192)).c 2 _ (show (zb (zK zE nm))[2]? =some (.int .i64 ((1:Nat):Int)) from rfl);have y3:=(hY3.alloc (.cells #[.bool false,.bool false,.slice xa 0 xc] 192)).c 3 _ (show (zb (zK zE nm))[3]? =some (.string (mk nm)) from rfl);have y4:=(hY3.alloc (.cells #[.bool false,.bool false,.slice xa 0 xc] 192)).c 4 _ (show (zb (zK zE nm))[4]? =some (.int .u32 ((0:Nat):Int)) from rfl);have y5:=(hY3.alloc (.cells #[.bool false,.bool false,.slice xa 0 xc] 192)).c 5 _ (show (zb (zK zE nm))[5]? =some (.int .u16 ((0:Nat):Int)) from rfl)
 have y6:=(hY3.alloc (.cells #[.bool false,.bool false,.slice xa 0 xc] 192)).c 6 _ (show (zb (zK zE nm))[6]? =some (.int .u16 ((0:Nat):Int)) from rfl);have y7:=(hY3.alloc (.cells #[.bool false,.bool false,.slice xa 0 xc] 192)).c 7 _ (show (zb (zK zE nm))[7]? =some (.int .u16 ((0:Nat):Int)) from rfl);have y8:=(hY3.alloc (.cells #[.bool false,.bool false,.slice xa 0 xc] 192)).c 8 _ (show (zb (zK zE nm))[8]? =some (.int .u16 ((0:Nat):Int)) from rfl);have y9:=(hY3.alloc (.cells #[.bool false,.bool false,.slice xa 0 xc] 192)).c 9 _ (show (zb (zK zE nm))[9]? =some (.int .u16 ((0:Nat):Int)) from rfl);have y10:=(hY3.alloc (.cells #[.bool false,.bool false,.slice xa 0 xc] 192)).c 10 _ (show (zb (zK zE nm))[10]? =some (.int .u16 ((0:Nat):Int)) from rfl)
 have y11:=(hY3.alloc (.cells #[.bool false,.bool false,.slice xa 0 xc] 192)).c 11 _ (show (zb (zK zE nm))[11]? =some (.int .u16 ((0:Nat):Int)) from rfl);have y12:=(hY3.alloc (.cells #[.bool false,.bool false,.slice xa 0 xc] 192)).c 12 _ (show (zb (zK zE nm))[12]? =some (.int .u16 ((0:Nat):Int)) from rfl);have y13:=(hY3.alloc (.cells #[.bool false,.bool false,.slice xa 0 xc] 192)).c 13 _ (show (zb (zK zE nm))[13]? =some (.int .i64 (-1)) from rfl);have y14:=(hY3.alloc (.cells #[.bool false,.bool false,.slice xa 0 xc] 192)).c 14 _ (show (zb (zK zE nm))[14]? =some (.string (mk [47])) from rfl);have HY4:=KZ9 (hY3.alloc (.cells #[.bool false,.bool false,.slice xa 0 xc] 192));have C0c:=KZ9 (C0b.alloc (.cells #[.bool false,.bool false,.slice xa 0 xc] 192));have C1c:=KZ9 (C1b.alloc (.cells #[.bool false,.bool false,.slice xa 0 xc] 192))
 have HN4:=KZ9 (BlkL.new w3 192 [.bool false,.bool false,.slice xa 0 xc]);have HA4:=KZ9 (HA3.out.alloc (by omega) (.cells #[.bool false,.bool false,.slice xa 0 xc] 192));have HA4':=KZ9 (HA3'.out.alloc (by omega) (.cells #[.bool false,.bool false,.slice xa 0 xc] 192));have HOT4:=KZ9 (OT.out _ HA4'.out);have hs4:(w3.alloc (.cells #[.bool false,.bool false,.slice xa 0 xc] 192)).heap.size=w3.heap.size+1:=by simp
 clear hY3 C0b C1b OT HA3 HA3';go_wp2_with fail
 all_goals try omega
 refine (HSP.out _).mono ?_;rintro e w4 ⟨rfl,rfl⟩;go_wp2_with fail
 all_goals try omega
 refine HOT4.out.mono ?_;rintro e w5 ⟨rfl,hb5⟩;have hs5:=hb5.size;have N5:=HN4.out.below (by omega) hb5;have HD0:=KZ9 (C0c.out.below (by omega) hb5);have D1:=C1c.out.below (by omega) hb5;have HD1:=KZ9 D1;have HA5:=KZ9 (HA4.out.trans (hb5.mono (by omega)));clear hb5 HOT4 HY4 C0c C1c HN4 HA4 HA4' y0 y1 y2 y3 y4 y5 y6 y7 y8 y9 y10 y11 y12 y13 y14;obtain ⟨k0,k1,k2,k3,k4⟩:=BlkL.cs5 D1;have m0:=D1.f 0;have m1:=D1.f 1;have m2:=D1.f 2;have m3:=D1.f 3;have m4:=D1.f 4;have n0:=N5.c 0 _ rfl;have n1:=N5.c 1 _ rfl;clear D1 N5;go_wp2_with fail
 all_goals try omega
 have hv1:BlkL ((((w5.setCell ⟨z+1,0,none⟩ (.bool false)).setCell ⟨z+1,1,none⟩ (.bool false)).setCell ⟨z+1,2,none⟩ (.bool false)).setCell ⟨z+1,3,none⟩ (.bool false)) (z+1) 120 [.bool false,.bool false,.bool false,.bool false,.slice none 0 0]:=(((HD1.out.set 0 (by simp) (.bool false)).set 1 (by simp) (.bool false)).set 2 (by simp) (.bool false)).set 3 (by simp) (.bool false);have hv0:BlkL ((((w5.setCell ⟨z+1,0,none⟩ (.bool false)).setCell ⟨z+1,1,none⟩ (.bool false)).setCell ⟨z+1,2,none⟩ (.bool false)).setCell ⟨z+1,3,none⟩ (.bool false)) z 120 [.bool false,.bool false,.bool false,.bool false,.slice none 0 0]:=(((HD0.out.other (by omega) _ _).other (by omega) _ _).other (by omega) _ _).other (by omega) _ _
 have hvA:Below z w ((((w5.setCell ⟨z+1,0,none⟩ (.bool false)).setCell ⟨z+1,1,none⟩ (.bool false)).setCell ⟨z+1,2,none⟩ (.bool false)).setCell ⟨z+1,3,none⟩ (.bool false)):=(((HA5.out.trans (ye _ _ _ _ (by omega))).trans (ye _ _ _ _ (by omega))).trans (ye _ _ _ _ (by omega))).trans (ye _ _ _ _ (by omega));have HV0:=KZ9 hv0;have HVA:=KZ9 hvA;clear hv0 hvA HD0 HD1 HA5 k0 k1 k2 k3 k4 m0 m1 m2 m3 m4 n0 n1;generalize (((w5.setCell ⟨z+1,0,none⟩ (.bool false)).setCell ⟨z+1,1,none⟩ (.bool false)).setCell ⟨z+1,2,none⟩ (.bool false)).setCell ⟨z+1,3,none⟩ (.bool false)=V4 at *;obtain ⟨k0,k1,k2,k3,k4⟩:=BlkL.cs5 hv1;have m4:=hv1.f 4;obtain ⟨o0,o1,o2,o3,o4⟩:=BlkL.cs5 HV0.out;have p0:=HV0.out.f 0;have p1:=HV0.out.f 1;have p2:=HV0.out.f 2;have p3:=HV0.out.f 3;have p4:=HV0.out.f 4;have HV1:=KZ9 hv1;clear hv1;rw [rounds_succ];go_wp2_with fail
 all_goals try omega
 refine (HSO.out _ _ _).mono ?_;rintro e w6 ⟨rfl,rfl⟩;go_wp2_with fail
 all_goals try omega
 refine (HCO.out _ _ _).mono ?_;rintro e w6 ⟨rfl,rfl⟩;go_wp2_with fail
 all_goals try omega
 have hr:=(((((HV0.out.other (show z≠z+1 by omega) 4 (.slice none 0 0)).set 0 (by simp) (.bool false)).set 1 (by simp) (.bool false)).set 2 (by simp) (.bool false)).set 3 (by simp) (.bool false)).set 4 (by simp) (.slice none 0 0);have hra:=(((((HVA.out.trans (ye _ (z+1) 4 (.slice none 0 0) (by omega))).trans (ye _ z 0 (.bool false) (Nat.le_refl _))).trans (ye _ z 1 (.bool false) (Nat.le_refl _))).trans (ye _ z 2 (.bool false) (Nat.le_refl _))).trans (ye _ z 3 (.bool false) (Nat.le_refl _))).trans (ye _ z 4 (.slice none 0 0) (Nat.le_refl _));refine bodyPost_ret (zf rfl _ _ z 120 _ _ rfl hr Tryz.underlying120 rfl Va) rfl ?_;exact ⟨rfl,HZ.out▸hra⟩
end Go.Proofs.YtbnnlkdhpifpeaaGreatDoor
namespace Go.Proofs.YtbnnlkdhpifpeaaGreatDoor
open Go.RowKit Hs HsR
def awN:Bs:=[97,46,99,111,109]
def awX:Bs:=[120,46,97,46,99,111,109]
def awV:Bs:=[109,97,120,45,97,103,101,61,57,59,32,105,110,99,108,117,100,101,83,117,98,68,111,109,97,105,110,115]
def awU:Bs:=[104,116,116,112,115,58,47,47,97,46,99,111,109,47]
def awW:Bs:=[104,116,116,112,58,47,47,120,46,97,46,99,111,109,47]
def awP:PinP:=⟨awN,true,9⟩
theorem Pz:zG awN=true:=by decide
theorem SY:zG awX=true:=by decide
theorem Pa:ti awU=some (zK zP awN):=by
 unfold ti;rw [if_neg (by decide)];exact xB zP Pz (by decide) (by decide) (by decide) (by decide)
theorem Qw:ti awW=some (zK zE awX):=by
 unfold ti;rw [if_neg (by decide)];exact xB zE SY (by decide) (by decide) (by decide) (by decide)
set_option maxRecDepth 100000
theorem Pd:rR (vX awV)=([(fieldB,awV)],0):=by decide +kernel
theorem S0:sH [(fieldB,awV)] fieldB=(awV,true):=by decide +kernel
theorem Pb:cy awV=((9,true),0):=by decide +kernel
theorem SZ:vp awP=1::5::(awN++[1,9]):=by decide +kernel
theorem Pc:uh (sd 1 0 (1::5::(awN++[1,9]))++zs 937) 1 0=some (1::5::(awN++[1,9]),23):=by decide +kernel
theorem Qz:uh ((sd 1 0 (1::5::(awN++[1,9]))++zs 937).drop 23) 1 1=none:=by decide +kernel
theorem Uw:uh (zs 960) 1 0=none:=by decide +kernel
theorem PE:ti [104,116,116,112,58,47,47,98,47]=some (zK zE [98]):=by
 unfold ti;rw [if_neg (by decide)];exact xB zE (n:=[98]) (by decide) (by decide) (by decide) (by decide) (by decide)
theorem PD:ti [104,116,116,112,58,47,47,122,47]=some (zK zE [122]):=by
 unfold ti;rw [if_neg (by decide)];exact xB zE (n:=[122]) (by decide) (by decide) (by decide) (by decide) (by decide)
theorem PC:xS (zK zE [98])=false:=by
 unfold xS;rw [qe (n:=[98]) (by decide)]
 decide
theorem PB:xS (zK zE [122])=false:=by
 unfold xS;rw [qe (n:=[122]) (by decide)]
 decide
theorem Pe:(tg 0 [awP] [] (zK zE awX).host).source≠0:=by decide +kernel
theorem Qx:vo (zK zE awX) 15 false ⟨false,false,false,false,[]⟩ (tg 0 [awP] [] (zK zE awX).host)=⟨2,2,[104,116,116,112,115,58,47,47,120,46,97,46,99,111,109,47]⟩:=by
 unfold vo;rw [if_pos ⟨rfl,Pe⟩,Tj,XT SY];rfl
theorem Xe (I:DK) (w:World) (n:Nat) (S C:Bs) (h:DskE I w n S C):Calls Tryz.prog 16 #[.pointer (some ⟨I.dd,0,none⟩),.slice none 0 0] w fun e w'=>e= .returned (.tuple #[])∧DskE I w' n S S∧But I.S w w':=by
 obtain ⟨K,hK,hd⟩:=h;refine (Xd I w K n S C hd).mono ?_;rintro e w1 ⟨rfl,hd1,hb1⟩;exact ⟨rfl,⟨K,fun k hk=>Nat.lt_of_lt_of_le (hK k hk) hb1.size,hd1⟩,hb1⟩
theorem Wk (I:DK) (pm b g c:Nat) (w0 w:World) (hB:Base6 w) (hmx:MaxOk w) (hq:MonQ I 60 3 29 14 0 0 [] (wF 60) b pm 0 w) (hby:Byts w (.slice (some ⟨g,0,none⟩) (vX awV).length c) (vX awV)) :
  Calls Tryz.prog 8 #[.pointer (some ⟨pm,0,none⟩),.string (mk awU),.slice (some ⟨g,0,none⟩) (vX awV).length c] w fun e w'=>e= .returned (.agg #[.int .i64 3,.int .i64 0])∧(∃ C',C'=splice (wF 60) (64*16) (sd 1 0 (vp awP))∧DskE I w' 60 C' C')∧But (fun k=>I.S k∨b≤k) w w':=by
 obtain ⟨hpm,ps,lp,v,hM,hlp,hlist,⟨hps,⟨t,htb,hT,hL⟩,⟨a0,c0,hv0,hv1,hv2,hv3⟩,hd⟩⟩:=hq;obtain rfl:=hv3 rfl;have hrl:(vp awP).length=9:=by rw [SZ];rfl
 refine (kE pm ps lp 0 awU _ awP (fun W=>∃ C',C'=splice (wF 60) (64*16) (sd 1 0 (vp awP))∧DskE I W 60 C' C') (fun k=>I.S k∨k=t∨k=ps∨k=pm) w ?_ hM ?_ ?_ ?_).mono ?_
 ·rintro k (hk | rfl | rfl | rfl)
  ·exact hd.lt k hk
  ·exact hL.lt
  ·exact hT.lt
  exact hM.lt
 ·intro W hW;exact WW 0 awN awU (vX awV) awV _ [(fieldB,awV)] (9,true) W (hB.1.below hW) (hmx.below hW hmx.lt) (by decide) Pa (hby.below hW) (by decide) Pd (by decide) (by decide) S0 (by decide) Pb (by decide) (by decide) (by decide) (by unfold okT;decide)
 ·intro W hW _;refine (WV I 60 3 29 14 pm ps lp t 0 (wF 60) awP W (hM.below hM.lt hW) (hT.below hT.lt hW) (hL.below hL.lt hW) (hd.below hW) (hB.1.below hW) (by decide) (by decide) (by decide) (by decide) (by decide) (by decide) (by decide) (by decide) (by decide) (by decide) (by decide) (by decide) (by rw [hrl];decide) (by rw [hrl];decide)).mono ?_;rintro e w' ⟨rfl,_,_,_,h4,h5⟩;exact ⟨rfl,h4,h5⟩
 ·rintro W W' cs ⟨C',h1,h2⟩ hx hb;exact ⟨C',h1,h2.typed hx (by decide) (by decide) hb⟩
 rintro e w' ⟨rfl,h1,h2⟩;refine ⟨rfl,h1,(But.refl _ w).step h2 (fun i hi=> .inl ?_)⟩;rcases hi with hi | rfl | rfl | rfl
 ·exact .inl hi
 ·exact .inr htb
 ·exact .inr hps
 exact .inr hpm
theorem Qy (I:DK) (w0 w:World) (hB0:Base6 w0) (hS:∀ k,I.S k→w0.heap.size≤k) (hb:Below w0.heap.size w0 w) (C:Bs) (hC:C=splice (wF 60) (64*16) (sd 1 0 (vp awP))) (hd:DskE I w 60 C C) :
  Calls Tryz.prog 17 #[.pointer (some ⟨I.dd,0,none⟩),.slice none 0 0] w fun e w'=>∃ pm,e= .returned (.tuple #[.pointer (some ⟨pm,0,none⟩),.int .i64 0])∧MonQ I 60 3 29 14 23 1 [awP] C w.heap.size pm 0 w'∧But I.S w w':=by
 have hG:Gnd I w0 w:=⟨hB0,hS,hb⟩;have hfl:(sd 1 0 (1::5::(awN++[1,9]))).length=23:=by rw [pW];rfl
 rw [SZ] at hC;have hpart:∀ o k,o+k≤64*16→(C.drop o).take k=((jn 60).drop o).take k:=fun o k hk=>by
  rw [hC];exact TI 60 16 _ o k (by decide) (by rw [hfl];decide) hk
 have hlog:(C.drop (64*16)).take (64*15)=sd 1 0 (1::5::(awN++[1,9]))++zs 937:=by
  rw [hC];have h8:=RD 60 16 15 (sd 1 0 (1::5::(awN++[1,9]))) (by decide) (by decide) (by decide) (by rw [hfl];decide);rw [hfl] at h8;exact h8
 have hs0:sec C 0=tk wU:=by
  unfold sec;rw [hpart _ _ (by decide)];exact dM 60
 have hs1:sec C 1=zs 64:=by
  unfold sec;rw [hpart _ _ (by decide)];exact dL 60 (by decide)
 refine WU I 60 3 29 14 23 1 [awP] C w hd.lt (fun W hW=>WF I 60 3 29 14 23 1 [awP] C W (hd.below hW).lt (fun W' hW'=> ?_));have hdW:=(hd.below hW).below hW';have hgW:=(hG.below hW).below hW';refine (WE I 60 3 29 14 23 1 C [awP] awP (1::5::(awN++[1,9])) w0 W' gY hdW hgW (by decide) (by decide) (by decide) (by decide) (by decide) (by decide) (by rw [hpart _ _ (by decide)];exact rh 60 _ _ (by decide) (by decide) (by decide)) hs0 (by rw [hs1];exact Zo) (.inr ⟨rfl,rfl⟩) (fun V hV=> ?_) (fun _ bb V hBV hbV=> ?_) (fun _ V hBV=> ?_)).mono ?_
 ·obtain ⟨K,hK,hdV⟩:=hV;refine (Ta I K 60 16 15 1 23 _ _ (1::5::(awN++[1,9])) V hdV hK (by decide) (by decide) (by decide) (by decide) (by decide) (fun j h1 h2=> ?_) (by rw [hlog];exact Pc) (by rw [hlog];exact Qz)).mono ?_
  ·rw [hlog,List.getElem?_append_right (by rw [hfl];exact h1),hfl];show (List.replicate 937 (0:UInt8))[j - 23]? =some 0;rw [List.getElem?_replicate,if_pos (by omega)]
  rintro e w' ⟨t,g,cg,a,c,rfl,h1,h2,h3,h4,h5,h6,h7,h8⟩;exact ⟨t,some ⟨g,0,none⟩,cg,rfl,h1,h2,fun _=>⟨g,a,c,rfl,h3,h4,h5,h6⟩,⟨K,fun k hk=>Nat.lt_of_lt_of_le (hK k hk) h8.size,h7⟩,h8⟩
 ·exact VH bb 5 1 9 awN V hBV hbV (by decide) (by decide) (by decide) (by decide) (by decide) Pz
 ·exact bV 0 awP 3 V hBV (by decide) (by decide) (by decide) (by decide) (by decide) (by decide)
 rintro e w' ⟨ps,t,v,rfl,h1,h2,h3,h4,h5,h6,h7⟩;exact ⟨ps,v,rfl,⟨h1,⟨t,h2,h3,h4⟩,h5,h6⟩,h7⟩
theorem U3 (I:DK) (pm b g cap:Nat) (C:Bs) (w:World) (hB:Base6 w) (hq:MonQ I 60 3 29 14 23 1 [awP] C b pm 0 w) (h0:w.cell? ⟨g,0,none⟩=some (.string ⟨#[104,116,116,112,58,47,47,98,47]⟩)) (h1:w.cell? ⟨g,1,none⟩=some (.slice none 0 0)) (hg:g<w.heap.size) :
  Calls Tryz.prog 11 #[.pointer (some ⟨pm,0,none⟩),.agg #[.string ⟨#[104,116,116,112,58,47,47,120,46,97,46,99,111,109,47]⟩,.int .i64 15,.bool false],.slice (some ⟨g,0,none⟩) 1 cap] w fun e w'=>e= .returned (.tuple #[.agg #[.int .i64 2,.int .i64 2,.string ⟨#[104,116,116,112,115,58,47,47,120,46,97,46,99,111,109,47]⟩],.int .i64 0])∧Below w.heap.size w w':=by
 obtain ⟨hpm,ps,lp,v,hM,hlp,hlist,⟨hps,_,⟨a0,c0,rfl,hv1,_,_⟩,hd⟩⟩:=hq;refine (dz pm ps lp 1 c0 a0 0 _ awW 15 false ⟨2,2,[104,116,116,112,115,58,47,47,120,46,97,46,99,111,109,47]⟩ w hM (fun W hW=> ?_));rw [←Qx]
 exact ZX 0 [awP] _ _ lp awW 15 false ⟨false,false,false,false,[]⟩ (zK zE awX) W (hB.below hW) (hv1.below hW) ⟨by decide,by decide,by decide,fun p hp=>by obtain rfl:=List.mem_singleton.1 hp;decide⟩ (hlist.below hlist.lt hW) (fun V hV=>YM [98] [104,116,116,112,58,47,47,98,47] (by decide) (by decide) PE PC (by unfold okT;decide) (ra (by decide) (by unfold okT;decide) (by decide)) g cap V ((hB.below hW).below hV) ((hV.cell (Nat.lt_of_lt_of_le hg hW.size)).trans ((hW.cell hg).trans h0)) ((hV.cell (Nat.lt_of_lt_of_le hg hW.size)).trans ((hW.cell hg).trans h1)) (Nat.lt_of_lt_of_le hg (Nat.le_trans hW.size hV.size))) rfl (by decide) (by decide) Qw (qk _ _) (kZ _ _ (by decide) (by decide)) (qk _ _) (kZ _ _ (by decide) (by decide)) (qe SY) (by unfold okT;decide) (ra SY (by unfold okT;decide) (by decide)) (by rw [Tj];exact ra SY (by unfold okT;decide) (by decide))
set_option maxHeartbeats 4000000
theorem Rn (w:World) (hB:Base6 w) (hmx:MaxOk w):Calls Tryz.prog 5 #[] w fun e w'=>e= .returned (.bool true)∧Below w.heap.size w w':=by
 have HST:Hid (Calls Tryz.prog 6 #[.int .i64 60,.slice none 0 0] w fun e w'=>∃ (I:DK) (pm b:Nat),e= .returned (.tuple #[.pointer (some ⟨I.dd,0,none⟩),.pointer (some ⟨pm,0,none⟩),.bool true])∧(∀ k,I.S k→w.heap.size≤k)∧w.heap.size≤b∧MonQ I 60 3 29 14 0 0 [] (wF 60) b pm 0 w'∧Below w.heap.size w w'):=KZ9 (Wz 60 3 29 14 w hB gY (by decide) (by decide) (by decide) (by decide) (by decide) (by decide) Uw);have HPO:Hid (∀ W,Calls Tryz.prog 9 #[.string ⟨#[109,97,120,45,97,103,101,61,57,59,32,105,110,99,108,117,100,101,83,117,98,68,111,109,97,105,110,115]⟩] W fun e w'=>∃ g c,e= .returned (.slice (some ⟨g,0,none⟩) (vX awV).length c)∧Byts w' (.slice (some ⟨g,0,none⟩) (vX awV).length c) (vX awV)∧W.heap.size≤g∧Below W.heap.size W w'):=KZ9 (fun W=>b9 awV W (by decide))
 have hfd:∀ (v:Int) (W:World),(Instr.field 32 (.agg #[.int .i64 v,.int .i64 0]) 0).run Tryz.prog W= .ok (.int .i64 v) W:=fun _ _=>by kernel_rfl
 have HB:=KZ9 hB;have HMX:=KZ9 hmx;clear hB hmx;go_enter Tryz.func5,Tryz.ntmps5
 go_wp2_with fail
 refine HST.out.mono ?_;rintro e w1 ⟨I,pm,b,rfl,hS,hbb,hq,hb1⟩;have HS:=KZ9 hS;have HBB:=KZ9 hbb;have HQ:=KZ9 hq;have HB1:=KZ9 hb1;clear hS hbb hq hb1 HST;go_wp2_with fail
 refine (HPO.out w1).mono ?_;rintro e w2 ⟨g,c,rfl,hby,hg,hb2⟩;obtain ⟨m,hm⟩:=KZ6 ((vX awV).length);have hq2:MonQ I 60 3 29 14 0 0 [] (wF 60) b pm 0 w2:=by
  obtain ⟨h1,ps,lp,v,h2,h3,h4,h5⟩:=HQ.out;exact ⟨h1,ps,lp,v,h2.below h2.lt hb2,h3,h4.below h4.lt hb2,h5.below hb2⟩
 have hbb2:=HB1.out.trans (hb2.mono HB1.out.size);have hob:=Wk I pm b g c w w2 (HB.out.below hbb2) (HMX.out.below hbb2 HMX.out.lt) hq2 hby;rw [←hm] at hob ⊢;have HOB:=KZ9 hob;have HB2:=KZ9 hbb2;clear hob hbb2 hq2 hby hm hg hb2 HPO HQ HB1;go_wp2_with fail
 refine HOB.out.mono ?_;rintro e w3 ⟨rfl,⟨C,hC,hd3⟩,hb3⟩;have HB3:Hid (Below w.heap.size w w3):=KZ9 (HB2.out.trans (hb3.to_below (fun k hk=>hk.elim (HS.out k) (fun h8=>Nat.le_trans HBB.out h8)) HB2.out.size));have HRS:=KZ9 (Xe I w3 60 C C hd3);have HC:=KZ9 hC;clear hC hd3 hb3 HOB HB2;go_wp2_with fail
 refine HRS.out.mono ?_;rintro e w4 ⟨rfl,hd4,hb4⟩;have HB4:Hid (Below w.heap.size w w4):=KZ9 (HB3.out.trans (hb4.to_below HS.out HB3.out.size));have HOP:=KZ9 (Qy I w w4 HB.out HS.out HB4.out C HC.out hd4);clear hd4 hb4 HRS HB3;go_wp2_with fail
 refine HOP.out.mono ?_;rintro e w5 ⟨pm5,rfl,hq5,hb5⟩;have HB5:Hid (Below w.heap.size w w5):=KZ9 (HB4.out.trans (hb5.to_below HS.out HB4.out.size));have HQ5:=KZ9 hq5;clear hq5 hb5 HOP HB4;have HDC:=KZ9 (fun W (hW:Below w5.heap.size w5 W) g h0 h1 hg=>U3 I pm5 _ g 1 C W ((HB.out.below HB5.out).below hW) (by
  obtain ⟨h1,ps,lp,v,h2,h3,h4,h5⟩:=HQ5.out;exact ⟨h1,ps,lp,v,h2.below h2.lt hW,h3,h4.below h4.lt hW,h5.below hW⟩) h0 h1 hg)
 go_wp2_with fail
 have hfr:=BlkL.new w5 45 [.string ⟨#[104,116,116,112,58,47,47,98,47]⟩,.slice none 0 0];have hbf:Below w5.heap.size w5 (w5.alloc (.cells #[.string ⟨#[104,116,116,112,58,47,47,98,47]⟩,.slice none 0 0] 45)):=(Below.refl _ w5).alloc (Nat.le_refl _) _;have HD6:=KZ9 (HDC.out _ hbf w5.heap.size (hfr.c 0 _ rfl) (hfr.c 1 _ rfl) hfr.lt);have HBF:=KZ9 (HB5.out.trans (hbf.mono HB5.out.size));clear hfr hbf HDC HQ5 HB5;refine HD6.out.mono ?_;rintro e w6 ⟨rfl,hb6⟩;have hy:=BlkL.new w6 38 [.int .i64 2,.int .i64 2,.string ⟨#[104,116,116,112,115,58,47,47,120,46,97,46,99,111,109,47]⟩];have y0:=hy.c 0 _ rfl;have y2:=hy.c 2 _ rfl;have HB6:=KZ9 ((HBF.out.trans (hb6.mono HBF.out.size)).alloc (Nat.le_trans HBF.out.size hb6.size) (.cells #[.int .i64 2,.int .i64 2,.string ⟨#[104,116,116,112,115,58,47,47,120,46,97,46,99,111,109,47]⟩] 38));clear hy hb6 HD6 HBF;go_wp2_with fail
 go_ret;exact ⟨rfl,HB6.out⟩
end Go.Proofs.YtbnnlkdhpifpeaaGreatDoor
namespace Go.Proofs.YtbnnlkdhpifpeaaGreatDoor
open Go.RowKit Hs
theorem VM (n m:Int) (h:0<m):(n.tmod m<0→n.tmod m+m=n % m)∧(0≤n.tmod m→n.tmod m=n % m)∧ -m<n.tmod m∧n.tmod m<m:=by
 have h1:=Int.emod_add_mul_ediv n m;have h2:=Int.tmod_add_mul_tdiv n m;have h3:=Int.emod_nonneg n (show m≠0 by omega);have h4:=Int.emod_lt_of_pos n h;have h5: -m<n.tmod m:=by
  rcases Int.lt_or_le n 0 with hn | hn
  ·have:=Int.lt_tmod_of_pos n h;omega
  have:=Int.tmod_nonneg m hn;omega
 have h6:n.tmod m<m:=Int.tmod_lt_of_pos n h;refine ⟨fun hneg=> ?_,fun hpos=> ?_,h5,h6⟩
 ·have e:(n.tmod m+m - n % m)=m*(n / m - n.tdiv m+1):=by
   rw [Int.mul_add,Int.mul_sub];omega
  have hz:n / m - n.tdiv m+1=0:=by
   rcases Int.lt_trichotomy (n / m - n.tdiv m+1) 0 with h | h | h
   ·have:m*(n / m - n.tdiv m+1)≤m*(-1):=Int.mul_le_mul_of_nonneg_left (by omega) (by omega);omega
   ·exact h
   have:m*1≤m*(n / m - n.tdiv m+1):=Int.mul_le_mul_of_nonneg_left (by omega) (by omega);omega
  rw [hz] at e;omega
 have e:(n.tmod m - n % m)=m*(n / m - n.tdiv m):=by
  rw [Int.mul_sub];omega
 have hz:n / m - n.tdiv m=0:=by
  rcases Int.lt_trichotomy (n / m - n.tdiv m) 0 with h | h | h
  ·have:m*(n / m - n.tdiv m)≤m*(-1):=Int.mul_le_mul_of_nonneg_left (by omega) (by omega);omega
  ·exact h
  have:m*1≤m*(n / m - n.tdiv m):=Int.mul_le_mul_of_nonneg_left (by omega) (by omega);omega
 rw [hz] at e;omega
theorem Sj (n m:Int) (w:World) (hn:(Lit.int .i64 n).wf=true) (hm:0<m) (hm2:m≤1000000000000):Calls Tryz.prog 7 #[.int .i64 n,.int .i64 m] w fun e w'=>e= .returned (.int .i64 (n % m))∧w=w':=by
 obtain ⟨h1,h2,h3,h4⟩:=VM n m hm;have H1:=KZ9 h1;have H2:=KZ9 h2;have hm0:(m==0)=false:=by simp;omega
 clear h1 h2 hn;go_enter Tryz.func7,Tryz.ntmps7
 go_wp2
 ·go_ret;exact ⟨xz (H1.out (by assumption)),rfl⟩
 go_ret;exact ⟨xz (H2.out (by assumption)),rfl⟩
theorem uU (b:UInt8) (z:Int) (hz:z=(b.toNat:Int)) (w:World):Calls Tryz.prog 52 #[.int .u8 z] w fun e w'=>e= .returned (.int .i64 (yO b))∧w=w':=by
 subst hz;have hx:=b.toNat_lt;have hdc:=rk b;obtain ⟨q,hq⟩:=KZ6 (yO b);rw [←hq] at hdc ⊢;clear hq;rcases hdc with ⟨h1,h2,h3⟩ | ⟨h1,h2,h3⟩ | ⟨h1,h2,h3⟩ | ⟨h1,h2,h3,h4⟩
 all_goals
  go_enter Tryz.func52,Tryz.ntmps52
  go_wp2
  all_goals try omega
  all_goals
   go_ret;exact ⟨xz (by omega),rfl⟩
end Go.Proofs.YtbnnlkdhpifpeaaGreatDoor
