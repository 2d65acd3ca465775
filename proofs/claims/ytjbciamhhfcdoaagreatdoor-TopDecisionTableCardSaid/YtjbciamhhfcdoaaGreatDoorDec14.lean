/- What the proof of TopDecisionTable uses, part Dec14. -/
import Derived.Test.YtjbciamhhfcdoaaGreatDoorDec13
set_option linter.unusedSimpArgs false
set_option linter.unusedVariables false
namespace Go.Proofs.YtjbciamhhfcdoaaGreatDoor
open Go.RowKit Hs
set_option maxRecDepth 20000
set_option maxHeartbeats 4000000
theorem Rt (p:EntP) (x:Bs) (w:World) (hn:p.host.length≤100000) (hx:x.length≤100000):Calls Tryz.prog 178 #[.agg #[.string (mk p.host),.bool p.sub],.string (mk x)] w fun e w'=>e= .returned (.int .i64 (yF p.host x))∧Below w.heap.size w w':=by
 obtain ⟨W0,hW0⟩:=KZ6 (w.alloc (.cells #[.string (mk p.host),.bool p.sub] 87));have hbA:Below w.heap.size w W0:=by rw [hW0];exact (Below.refl _ w).alloc (Nat.le_refl _) _
 have hb0:BlkL W0 w.heap.size 87 [.string (mk p.host),.bool p.sub]:=by rw [hW0];exact BlkL.new w _ _
 have hsz:W0.heap.size=w.heap.size+1:=by rw [hW0];simp
 have HW0:=KZ9 hW0.symm;have hc:=jc (mk p.host) (mk x) W0 (by rw [zh];exact hn) (by rw [zh];exact hx);rw [zj,zj] at hc;have HC:=KZ9 hc;have c0:=hb0.c 0 _ rfl;have HBA:=KZ9 hbA;clear hW0 hc hb0 hbA;go_enter Tryz.func178,Tryz.ntmps178
 go_upto_region 1 with fail
 rw [HW0.out];clear HW0;go_wp2_with fail
 refine HC.out.mono ?_;rintro e w1 ⟨rfl,hb1⟩;go_wp2;go_ret;exact ⟨rfl,HBA.out.trans (hb1.mono (by omega))⟩
set_option maxHeartbeats 8000000
theorem T3 (T:List EntP) (a:Option Addr) (cap:Nat) (x:Bs) (w:World) (hT:Ents w (.slice a T.length cap) T) (hS:SortH (T.map (·.host))) (hn:∀ p∈T,p.host.length≤100000) (hx:x.length≤100000) (hl:T.length≤1000000):Calls Tryz.prog 177 #[.slice a T.length cap,.string (mk x),.func (.func 178) #[] #[]] w (Xh (T.map (·.host)) x w):=by
 obtain ⟨a',cap',hv,h1,h2,hc⟩:=hT.open;obtain ⟨rfl,rfl⟩:a=a'∧cap=cap':=by injection hv with e1 _ e2;exact ⟨e1,e2⟩
 clear hv;unfold maxLen at h2;have HC:=KZ9 hc;have HS:=KZ9 hS;have HN:=KZ9 hn;obtain ⟨n,hnn⟩:=KZ6 T.length;have HL:=KZ9 hnn;rw [←hnn] at h1 hl ⊢;clear hnn hc hS hn hT;go_enter Tryz.func177,Tryz.ntmps177
 go_wp2;go_loopw [9,10] (fun iv jv wr=>∃ lo hi:Nat,iv= .int .i64 lo∧jv= .int .i64 hi∧lo≤hi∧hi≤n∧Hid ((∀ t (h:t<T.length),t<lo→yF T[t].host x<0)∧(∀ t (h:t<T.length),hi≤t→0≤yF T[t].host x))∧Hid (Below w.heap.size w wr)) (fun iv jv _=>(intOf jv).toNat - (intOf iv).toNat)
 case atStart=>exact ⟨0,n,rfl,rfl,by omega,by omega,KZ9 ⟨fun t h h0=>by omega,fun t h h0=>by have:=HL.out;omega⟩,KZ9 (Below.refl _ _)⟩
 case round =>
  obtain ⟨lo,hi,rfl,rfl,hlh,hin,hI,hnx⟩:=hrel;by_cases hlt:lo<hi
  ·obtain ⟨m,hm⟩:=KZ6 ((lo+hi) / 2);have hmn:m<T.length:=by have:=HL.out;omega
   obtain ⟨b,off,rfl,hb,hcc⟩:=HC.out (by omega);obtain ⟨k0,k1⟩:=hcc m hmn;have c0:=(hnx.out.cell (p:=⟨b,off+m*2,none⟩) hb).trans k0;have c1:=(hnx.out.cell (p:=⟨b,off+m*2+1,none⟩) hb).trans k1;clear k0 k1;clear hcc;obtain ⟨p,hp⟩:=KZ6 (T[m]);have hpl:p.host.length≤100000:=HN.out p (by rw [hp];exact List.getElem_mem hmn);rw [←hp] at c0 c1;have hcm:=fun W=>Rt p x W hpl hx;have hmv:(lo:Int)+(hi:Int)=((lo+hi:Nat):Int):=by omega
   obtain ⟨c,hcd⟩:=KZ6 (yF p.host x);simp only [←hcd] at hcm;have HCM:=KZ9 hcm;have HP:=KZ9 hp;have HCD:=KZ9 hcd;have hm1:lo≤m:=by omega
   have hm2:m<hi:=by omega
   have hm3:((lo:Int)+(hi:Int)) / 2=(m:Int):=by omega
   clear hcm hp hcd hpl hmv;by_cases hneg:c<0
   ·have g1:decide (c<(0:Int))=true:=KZ7 hneg;have hI2:Hid ((∀ t (h:t<T.length),t<m+1→yF T[t].host x<0)∧(∀ t (h:t<T.length),hi≤t→0≤yF T[t].host x)):=KZ9 ⟨fun t h h0=>by
     have:=Zk HS.out (x:=x) (t:=t) (m:=m) (by omega) (by rw [List.length_map];exact hmn) (by rw [List.length_map];exact h) (by rw [List.getElem_map,←HP.out,←HCD.out];exact hneg)
     simpa using this,hI.out.2⟩
    clear hneg hI hm;go_wp2_with fail
    all_goals try omega
    refine (HCM.out _).mono ?_;rintro e w1 ⟨rfl,hb1⟩;have hnx1:=KZ9 (hnx.out.trans (hb1.mono hnx.out.size));clear hb1 c0 c1;go_wp2
    all_goals try omega
    go_roundw
    case rel=>exact ⟨m+1,hi,by go_num,rfl,by omega,hin,hI2,hnx1⟩
    case measure=>simp [intOf];omega
   have g1:decide (c<(0:Int))=false:=KZ8 hneg;have hI2:Hid ((∀ t (h:t<T.length),t<lo→yF T[t].host x<0)∧(∀ t (h:t<T.length),m≤t→0≤yF T[t].host x)):=KZ9 ⟨hI.out.1,fun t h h0=>by
    have:=jQ HS.out (x:=x) (t:=t) (m:=m) (by omega) (by rw [List.length_map];exact hmn) (by rw [List.length_map];exact h) (by rw [List.getElem_map,←HP.out,←HCD.out];exact hneg);rw [List.getElem_map] at this;omega⟩
   clear hneg hI hm;go_wp2_with fail
   all_goals try omega
   refine (HCM.out _).mono ?_;rintro e w1 ⟨rfl,hb1⟩;have hnx1:=KZ9 (hnx.out.trans (hb1.mono hnx.out.size));clear hb1 c0 c1;go_wp2
   all_goals try omega
   go_roundw
   case rel=>exact ⟨lo,m,rfl,by go_num,by omega,by omega,hI2,hnx1⟩
   case measure=>simp [intOf];omega
  obtain rfl:hi=lo:=by omega
  have hend:=Xr HS.out (x:=x) (i:=hi) (fun t h h0=>by have:=hI.out.1 t (by simpa using h) h0;simpa using this) (fun t h h0=>by have:=hI.out.2 t (by simpa using h) h0;rw [List.getElem_map];omega);clear hI hlh;by_cases hlast:hi<n
  ·have hmn:hi<T.length:=by have:=HL.out;omega
   obtain ⟨b,off,rfl,hb,hcc⟩:=HC.out (by omega);obtain ⟨k0,k1⟩:=hcc hi hmn;have c0:=(hnx.out.cell (p:=⟨b,off+hi*2,none⟩) hb).trans k0;have c1:=(hnx.out.cell (p:=⟨b,off+hi*2+1,none⟩) hb).trans k1;clear k0 k1;clear hcc;obtain ⟨p,hp⟩:=KZ6 (T[hi]);have hpl:p.host.length≤100000:=HN.out p (by rw [hp];exact List.getElem_mem hmn);rw [←hp] at c0 c1;have hcm:=fun W=>Rt p x W hpl hx;have hz:=tY p.host x;obtain ⟨c,hcd⟩:=KZ6 (yF p.host x);simp only [←hcd] at hcm;rw [←hcd] at hz;have hq:(c==0)=decide (x∈T.map (·.host)):=by
    have h3:c=0↔x∈T.map (·.host):=by
     rw [hz,hend];constructor
     ·intro e;exact ⟨by rw [List.length_map];exact hmn,by rw [List.getElem_map,←hp];exact e⟩
     rintro ⟨_,e⟩;rw [List.getElem_map,←hp] at e;exact e
    rw [Bool.eq_iff_iff];simp only [beq_iff_eq,decide_eq_true_eq];exact h3
   obtain ⟨d,hd⟩:=KZ6 (decide (x∈T.map (·.host)));rw [←hd] at hq;have HD:=KZ9 hd;have HE:=KZ9 hend;have HCM:=KZ9 hcm;clear hcm hp hcd hpl hz hd hend;go_wp2_with fail
   all_goals try omega
   refine (HCM.out _).mono ?_;rintro e w1 ⟨rfl,hb1⟩;have hnx1:=KZ9 (hnx.out.trans (hb1.mono hnx.out.size));clear hb1 c0 c1;go_wp2
   all_goals try omega
   go_ret2;refine ⟨⟨hi,by first | rfl | (rw [HD.out];rfl),by rw [List.length_map,←HL.out];omega,fun e=>HE.out.1 e⟩,hnx1.out⟩
  have hno:x∉T.map (·.host):=by
   rw [hend];rintro ⟨h,_⟩;rw [List.length_map] at h;have:=HL.out;omega
  have HNO:=KZ9 hno;clear hno hend;go_wp2
  all_goals try omega
  go_ret2;refine ⟨⟨hi,by rw [KZ8 HNO.out];rfl,by rw [List.length_map,←HL.out];omega,fun e=>absurd e HNO.out⟩,hnx.out⟩
def TabG (w:World) (v:Value) (T:List PinP):Prop:=(v= .pointer none∧T=[])∨(∃ (t:Nat) (a:Option Addr) (cap:Nat) (k:Int),v= .pointer (some ⟨t,0,none⟩)∧BlkL w t 78 [.slice a T.length cap,.int .i64 k]∧Pins w (.slice a T.length cap) T∧SortH (T.map (·.host))∧(∀ p∈T,p.host.length≤100000)∧T.length≤1000)
theorem TabG.below {w w':World} {v:Value} {T:List PinP} (h:TabG w v T) (hb:Below w.heap.size w w'):TabG w' v T:=by
 rcases h with h | ⟨t,a,cap,k,h1,h2,h3,h4,h5,h6⟩
 ·exact .inl h
 exact .inr ⟨t,a,cap,k,h1,h2.below h2.lt hb,h3.below hb,h4,h5,h6⟩
def LisG (w:World) (v:Value) (L:List EntP):Prop:=(v= .pointer none∧L=[])∨(∃ (t:Nat) (a:Option Addr) (cap:Nat),v= .pointer (some ⟨t,0,none⟩)∧BlkL w t 96 [.slice a L.length cap]∧Ents w (.slice a L.length cap) L∧SortH (L.map (·.host))∧(∀ p∈L,p.host.length≤100000)∧L.length≤1000)
theorem LisG.below {w w':World} {v:Value} {L:List EntP} (h:LisG w v L) (hb:Below w.heap.size w w'):LisG w' v L:=by
 rcases h with h | ⟨t,a,cap,h1,h2,h3,h4,h5,h6⟩
 ·exact .inl h
 exact .inr ⟨t,a,cap,h1,h2.below h2.lt hb,h3.below hb,h4,h5,h6⟩
def jt (L:List EntP) (x:Bs):EntP × Bool:=match L.find? (fun p=>decide (p.host=x)) with
 | some p=>(p,true)
 | none=>(⟨[],false⟩,false)
theorem PF {T:List PinP} {x:Bs} (h:x∉T.map (·.host)):go T x=(⟨[],false,0⟩,false):=by
 have e:=Tm (fun p:PinP=>p.host) h;unfold go;rw [e]
theorem PG {T:List PinP} (hs:SortH (T.map (·.host))) {i:Nat} (hi:i<T.length) {x:Bs} (hx:T[i].host=x):go T x=(T[i],true):=by
 subst hx;have e:=Y4 (fun p:PinP=>p.host) hs hi;unfold go;rw [e]
theorem PH {T:List EntP} {x:Bs} (h:x∉T.map (·.host)):jt T x=(⟨[],false⟩,false):=by
 have e:=Tm (fun p:EntP=>p.host) h;unfold jt;rw [e]
theorem PI {T:List EntP} (hs:SortH (T.map (·.host))) {i:Nat} (hi:i<T.length) {x:Bs} (hx:T[i].host=x):jt T x=(T[i],true):=by
 subst hx;have e:=Y4 (fun p:EntP=>p.host) hs hi;unfold jt;rw [e]
theorem Rp (v:Value) (T:List PinP) (x:Bs) (w:World) (ht:TabG w v T) (hx:x.length≤100000):Calls Tryz.prog 31 #[v,.string (mk x)] w (Xh (T.map (·.host)) x w):=by
 rcases ht with ⟨rfl,rfl⟩ | ⟨t,a,cap,k,rfl,h2,h3,h4,h5,h6⟩
 ·refine (XI x w).mono ?_;rintro e w' ⟨rfl,rfl⟩;exact ⟨⟨0,by simp,by simp,fun h=>by simp at h⟩,Below.refl _ _⟩
 have c0:=h2.c 0 _ rfl;have HS:=KZ9 (T0 T a cap x w h3 h4 h5 hx (by omega));obtain ⟨H,hH⟩:=KZ6 (T.map (·.host));rw [←hH] at HS ⊢;obtain ⟨n,hn⟩:=KZ6 T.length;rw [←hn] at c0 HS;clear h2 h3 h4 h5 h6 hH hn;go_enter Tryz.func31,Tryz.ntmps31
 go_wp2_with fail
 refine HS.out.mono ?_;rintro e w1 ⟨⟨i,rfl,hi,hi2⟩,hb1⟩;obtain ⟨d,hd⟩:=KZ6 (decide (x∈H));rw [←hd];have HI:=KZ9 hi2;have HJ:=KZ9 hi;have HD:=KZ9 hd;clear hi2 hd hi;go_wp2;go_ret2;exact ⟨⟨i,by first | rfl | (rw [HD.out];rfl),HJ.out,HI.out⟩,hb1⟩
theorem Pi (v:Value) (T:List PinP) (x:Bs) (w:World) (ht:TabG w v T) (hx:x.length≤100000):Calls Tryz.prog 115 #[v,.string (mk x)] w fun e w'=>e= .returned (.tuple #[.agg (yi (go T x).1).toArray,.bool (go T x).2])∧Below w.heap.size w w':=by
 obtain ⟨W0,hW0⟩:=KZ6 (w.alloc (.cells #[.string ⟨#[]⟩,.bool false,.int .i64 0] 23));have hbA:Below w.heap.size w W0:=by rw [hW0];exact (Below.refl _ w).alloc (Nat.le_refl _) _
 have hb0:BlkL W0 w.heap.size 23 (yi ⟨[],false,0⟩):=by rw [hW0];exact BlkL.new w _ _
 have hsz:W0.heap.size=w.heap.size+1:=by rw [hW0];simp
 have HW0:=KZ9 hW0.symm;have ht0:=ht.below hbA;have HF:=KZ9 (Rp v T x W0 ht0 hx);have HB0:=KZ9 hb0;have HBA:=KZ9 hbA;have HT0:=KZ9 ht0;clear hW0 hbA hb0 ht0 ht;go_enter Tryz.func115,Tryz.ntmps115
 go_upto_region 1 with fail
 rw [HW0.out];clear HW0;go_wp2_with fail
 refine HF.out.mono ?_;rintro e w1 ⟨⟨i,rfl,hi,hi2⟩,hb1⟩;have HB1:=KZ9 (HB0.out.below (by omega) hb1);have HA1:=KZ9 (HBA.out.trans (hb1.mono (by omega)));have HT1:=KZ9 (HT0.out.below hb1);clear hb1 HF HB0 HBA HT0;by_cases he:x∈T.map (·.host)
 ·obtain ⟨hi3,hix⟩:=hi2 he;rw [KZ7 he];have hiT:i<T.length:=by rwa [List.length_map] at hi3
  rw [List.getElem_map] at hix;rcases HT1.out with ⟨_,h2⟩ | ⟨t,a,cap,k,rfl,h2,h3,h4,h5,h6⟩
  ·rw [h2] at hiT;simp at hiT
  have hfin:=KZ9 (PG h4 hiT hix);obtain ⟨a',cap',hv,g1,g2,hc⟩:=h3.open;obtain ⟨rfl,rfl⟩:a=a'∧cap=cap':=by injection hv with e1 _ e2;exact ⟨e1,e2⟩
  clear hv;unfold maxLen at g2;obtain ⟨b,off,rfl,hb,hcc⟩:=hc (by omega);obtain ⟨d0,d1,d2⟩:=hcc i hiT;have c0:=h2.c 0 _ rfl;obtain ⟨p,hp⟩:=KZ6 (T[i]);rw [←hp] at d0 d1 d2 hfin;obtain ⟨n,hn⟩:=KZ6 T.length;rw [←hn] at c0 hiT g1;clear h2 h3 h4 h5 h6 he hi2 hi hcc hc hi3 hix hp hn HT1;go_wp2_with (refine wpList_store_row rfl 23 (.tmp 4) (.tmp 23) rfl w.heap.size (yi p).toArray rfl rfl 23 _ HB1.out sl rfl (ze (kE _)) ?_)
  all_goals try omega
  refine bodyPost_ret (zf rfl _ _ w.heap.size 23 _ _ rfl (HB1.out.setRow (yi p)) Tryz.underlying23 rfl sl) rfl ?_;rw [hfin.out];exact ⟨rfl,below_setRow HA1.out (Nat.le_refl _) _⟩
 rw [KZ8 he];have hfin:=KZ9 (PF he);clear he hi2 hi HT1;go_wp2_with (refine wpList_store_row rfl 23 (.tmp 4) (.tmp 16) rfl w.heap.size (yi ⟨[],false,0⟩).toArray rfl rfl 23 _ HB1.out sl rfl (ze (kE _)) ?_)
 all_goals try omega
 refine bodyPost_ret (zf rfl _ _ w.heap.size 23 _ _ rfl (HB1.out.setRow (yi ⟨[],false,0⟩)) Tryz.underlying23 rfl sl) rfl ?_;rw [hfin.out];exact ⟨rfl,below_setRow HA1.out (Nat.le_refl _) _⟩
theorem Po (v:Value) (L:List EntP) (x:Bs) (w:World) (ht:LisG w v L) (hx:x.length≤100000):Calls Tryz.prog 117 #[v,.string (mk x)] w fun e w'=>e= .returned (.tuple #[.agg (zA (jt L x).1).toArray,.bool (jt L x).2])∧Below w.heap.size w w':=by
 rcases ht with ⟨rfl,rfl⟩ | ⟨t,a,cap,rfl,h2,h3,h4,h5,h6⟩
 ·exact VQ x w
 obtain ⟨W0,hW0⟩:=KZ6 (w.alloc (.cells #[.string ⟨#[]⟩,.bool false] 87));have hbA:Below w.heap.size w W0:=by rw [hW0];exact (Below.refl _ w).alloc (Nat.le_refl _) _
 have hb0:BlkL W0 w.heap.size 87 (zA ⟨[],false⟩):=by rw [hW0];exact BlkL.new w _ _
 have hsz:W0.heap.size=w.heap.size+1:=by rw [hW0];simp
 have htz:=h2.lt;have HW0:=KZ9 hW0.symm;have h20:=h2.below htz hbA;have h30:=h3.below hbA;have c0:=h20.c 0 _ rfl;have HF:=KZ9 (T3 L a cap x W0 h30 h4 h5 hx (by omega));have HB0:=KZ9 hb0;have HBA:=KZ9 hbA;have H2:=KZ9 h20;have H3:=KZ9 h30;have H4:=KZ9 h4;obtain ⟨n,hn⟩:=KZ6 L.length;rw [←hn] at c0 HF H2 H3;have HN:=KZ9 hn;clear hW0 hbA hb0 h2 h3 h4 h5 h6 h20 h30 hn;go_enter Tryz.func117,Tryz.ntmps117
 go_upto_region 1 with fail
 rw [HW0.out];clear HW0;go_wp2_with fail
 refine HF.out.mono ?_;rintro e w1 ⟨⟨i,rfl,hi,hi2⟩,hb1⟩;have HB1:=KZ9 (HB0.out.below (by omega) hb1);have HA1:=KZ9 (HBA.out.trans (hb1.mono (by omega)));have d2:=H2.out.below (by omega) hb1;have d3:=H3.out.below hb1;clear hb1 HF HB0 HBA H2 H3 c0;by_cases he:x∈L.map (·.host)
 ·obtain ⟨hi3,hix⟩:=hi2 he;rw [KZ7 he];have hiT:i<L.length:=by rwa [List.length_map] at hi3
  rw [List.getElem_map] at hix;have hfin:=KZ9 (PI H4.out hiT hix);obtain ⟨a',cap',hv,g1,g2,hc⟩:=d3.open;obtain ⟨rfl,rfl⟩:a=a'∧cap=cap':=by injection hv with e1 _ e2;exact ⟨e1,e2⟩
  clear hv;unfold maxLen at g2;obtain ⟨b,off,rfl,hb,hcc⟩:=hc (by omega);obtain ⟨k0,k1⟩:=hcc i hiT;have c0:=d2.c 0 _ rfl;obtain ⟨p,hp⟩:=KZ6 (L[i]);rw [←hp] at k0 k1 hfin;rw [←HN.out] at hiT g1;clear d2 d3 H4 he hi2 hi hcc hc hi3 hix hp HN;go_wp2_with (refine wpList_store_row rfl 87 (.tmp 4) (.tmp 29) rfl w.heap.size (zA p).toArray rfl rfl 87 _ HB1.out uj rfl (ze (rg _)) ?_)
  all_goals try omega
  refine bodyPost_ret (zf rfl _ _ w.heap.size 87 _ _ rfl (HB1.out.setRow (zA p)) Tryz.underlying87 rfl uj) rfl ?_;rw [hfin.out];exact ⟨rfl,below_setRow HA1.out (Nat.le_refl _) _⟩
 rw [KZ8 he];have hfin:=KZ9 (PH he);clear he hi2 hi d2 d3 H4 HN;go_wp2_with (refine wpList_store_row rfl 87 (.tmp 4) (.tmp 22) rfl w.heap.size (zA ⟨[],false⟩).toArray rfl rfl 87 _ HB1.out uj rfl (ze (rg _)) ?_)
 all_goals try omega
 refine bodyPost_ret (zf rfl _ _ w.heap.size 87 _ _ rfl (HB1.out.setRow (zA ⟨[],false⟩)) Tryz.underlying87 rfl uj) rfl ?_;rw [hfin.out];exact ⟨rfl,below_setRow HA1.out (Nat.le_refl _) _⟩
end Go.Proofs.YtjbciamhhfcdoaaGreatDoor
namespace Hs
open Go
end Hs
namespace Go.Proofs.YtjbciamhhfcdoaaGreatDoor
open Go.RowKit Hs
def TL (w:World) (q q2:Option Addr) (T:List PinP) (L:List EntP):Prop:=TabG w (.pointer q) T∧LisG w (.pointer q2) L
theorem TL.below {w w':World} {q q2:Option Addr} {T:List PinP} {L:List EntP} (h:TL w q q2 T L) (hb:Below w.heap.size w w'):TL w' q q2 T L:=⟨h.1.below hb,h.2.below hb⟩
theorem SJ (now:Int) (T:List PinP) (L:List EntP) (x:Bs) (exact:Bool):covAt now T L x exact=if ((go T x).2&&(!(decide ((go T x).1.expiry≤now))&&(exact||(go T x).1.sub)))=true then some ⟨1,x,exact⟩ else if ((jt L x).2&&(exact||(jt L x).1.sub))=true then some ⟨2,x,exact⟩ else none:=by
 have hl:covAt.covL L x exact=if ((jt L x).2&&(exact||(jt L x).1.sub))=true then some ⟨2,x,exact⟩ else none:=by
  unfold covAt.covL jt;cases L.find? (fun p=>decide (p.host=x)) with
  | none=>simp
  | some p=>simp
 unfold covAt;rw [hl];unfold go;cases T.find? (fun p=>decide (p.host=x)) with
 | none=>simp
 | some p=>simp
set_option maxRecDepth 20000
set_option maxHeartbeats 8000000
theorem PX (now:Int) (q q2:Option Addr) (T:List PinP) (L:List EntP) (x:Bs) (exact:Bool) (w:World) (ht:TL w q q2 T L) (hx:x.length≤100000):Calls Tryz.prog 74 #[.int .i64 now,.pointer q,.pointer q2,.string (mk x),.bool exact] w fun e w'=>e= .returned (.tuple #[.agg (zm ((covAt now T L x exact).getD cov0)).toArray,.bool (covAt now T L x exact).isSome])∧Below w.heap.size w w':=by
 obtain ⟨W0,hW0⟩:=KZ6 (w.alloc (.cells #[.int .i64 0,.string ⟨#[]⟩,.bool false] 67));have hbA:Below w.heap.size w W0:=by rw [hW0];exact (Below.refl _ w).alloc (Nat.le_refl _) _
 have hr0:BlkL W0 w.heap.size 67 (zm cov0):=by rw [hW0];exact BlkL.new w _ _
 have hsz:W0.heap.size=w.heap.size+1:=by rw [hW0];simp
 have HW0:=KZ9 hW0.symm;have HG:=KZ9 (Pi (.pointer q) T x W0 (ht.1.below hbA) hx);have HPG0:=KZ9 (fun (W1:World) (h1:Below W0.heap.size W0 W1)=>Po (.pointer q2) L x W1 ((ht.2.below hbA).below h1) hx);have hdef:=SJ now T L x exact;obtain ⟨⟨p,ok⟩,hp⟩:∃ p,p=go T x:=⟨_,rfl⟩;obtain ⟨⟨en,ok2⟩,hen⟩:∃ p,p=jt L x:=⟨_,rfl⟩;rw [←hp] at HG hdef;rw [←hen] at hdef;simp only [←hen] at HPG0;simp only at HG hdef;obtain ⟨o,ho⟩:=KZ6 (covAt now T L x exact);rw [←ho] at hdef ⊢;have HDEF:=KZ9 hdef;have HR0:=KZ9 hr0;have HBA:=KZ9 hbA;clear hW0 hbA hr0 hp hen hdef ht ho;go_enter Tryz.func74,Tryz.ntmps74
 go_upto_region 1 with fail
 rw [HW0.out];clear HW0;go_wp2_with fail
 refine HG.out.mono ?_;rintro e w1 ⟨rfl,hb1⟩;have hs1:=hb1.size;have HR1:=KZ9 (HR0.out.below (by omega) hb1);have HA1:=KZ9 (HBA.out.trans (hb1.mono (by omega)));have HN:=KZ9 (heap_alloc_new w1 (.cells (yi ⟨[],false,0⟩).toArray 23));have hY:=(BlkL.new w1 23 (yi ⟨[],false,0⟩)).setRow (yi p);have hR2:=(HR1.out.alloc (.cells (yi ⟨[],false,0⟩).toArray 23)).setRow_other (show w.heap.size≠w1.heap.size by omega) (yi p).toArray;have hA2:=below_setRow (HA1.out.alloc (by omega) (.cells (yi ⟨[],false,0⟩).toArray 23)) (show w.heap.size≤w1.heap.size by omega) (yi p).toArray;have hA2':=below_setRow (hb1.alloc hs1 (.cells (yi ⟨[],false,0⟩).toArray 23)) hs1 (yi p).toArray;obtain ⟨W2,hW2⟩:=KZ6 ((w1.alloc (.cells (yi ⟨[],false,0⟩).toArray 23)).setRow w1.heap.size (yi p).toArray);rw [←hW2] at hY hR2 hA2 hA2';have hs2:W2.heap.size=w1.heap.size+1:=by rw [hW2];simp [World.setRow]
 have HW2:Hid ((w1.alloc (.cells #[.string ⟨#[]⟩,.bool false,.int .i64 0] 23)).setRow w1.heap.size (yi p).toArray=W2):=KZ9 hW2.symm;have HPG:=KZ9 (HPG0.out W2 hA2');clear hW2 hb1 HG HR0 HBA HR1 HA1 hA2' HPG0;have c1:=hY.c 1 _ rfl;have c2:=hY.c 2 _ rfl;go_upto_region 2 with (refine wpList_store_row rfl 23 (.tmp 12) (.tmp 20) rfl w1.heap.size (yi p).toArray rfl rfl 23 _ HN.out sl rfl (ze (kE _)) ?_)
 all_goals try omega
 rw [HW2.out];clear HW2 HN;obtain ⟨ph,ps,pe⟩:=p;have hex:=fun W=>TR pe now W;simp only at HDEF c1 c2;obtain ⟨E,hE⟩:=KZ6 (decide (pe≤now));rw [←hE] at HDEF;simp only [←hE] at hex;have HEX:=KZ9 hex;have HR2:=KZ9 hR2;have HA2:=KZ9 hA2;obtain ⟨eh,es⟩:=en;clear hex hE hY hR2 hA2;cases ok
 ·go_wp2_with fail
  all_goals try omega
  refine HPG.out.mono ?_;rintro e w9 ⟨rfl,hb9⟩;have hs9:=hb9.size;have HR9:=KZ9 (HR2.out.below (by omega) hb9);have HA9:=KZ9 (HA2.out.trans (hb9.mono (by omega)));have HN9:=KZ9 (heap_alloc_new w9 (.cells (zA ⟨[],false⟩).toArray 87));have hY9:=(BlkL.new w9 87 (zA ⟨[],false⟩)).setRow (zA ⟨eh,es⟩);have hR10:=(HR9.out.alloc (.cells (zA ⟨[],false⟩).toArray 87)).setRow_other (show w.heap.size≠w9.heap.size by omega) (zA ⟨eh,es⟩).toArray;have hA10:=below_setRow (HA9.out.alloc (by omega) (.cells (zA ⟨[],false⟩).toArray 87)) (show w.heap.size≤w9.heap.size by omega) (zA ⟨eh,es⟩).toArray;obtain ⟨W10,hW10⟩:=KZ6 ((w9.alloc (.cells (zA ⟨[],false⟩).toArray 87)).setRow w9.heap.size (zA ⟨eh,es⟩).toArray);rw [←hW10] at hY9 hR10 hA10;have HW10:Hid ((w9.alloc (.cells #[.string ⟨#[]⟩,.bool false] 87)).setRow w9.heap.size (zA ⟨eh,es⟩).toArray=W10):=KZ9 hW10.symm;have HR10:=KZ9 hR10
  have HA10:=KZ9 hA10;have f1:=hY9.c 1 _ rfl;clear hb9 HPG HR2 HA2 HR9 HA9 hW10 hY9 hR10 hA10 c1 c2;go_upto_region 5 with (refine wpList_store_row rfl 87 (.tmp 14) (.tmp 44) rfl w9.heap.size (zA ⟨eh,es⟩).toArray rfl rfl 87 _ HN9.out uj rfl (ze (rg _)) ?_)
  all_goals try omega
  rw [HW10.out];clear HW10 HN9;cases ok2
  ·have hfin:Hid (o=none):=KZ9 (by rw [HDEF.out];rfl);go_wp2_with (refine wpList_store_row rfl 67 (.tmp 10) (.tmp 57) rfl w.heap.size (zm cov0).toArray rfl rfl 67 _ HR10.out zS rfl (ze (vD _)) ?_)
   all_goals try omega
   refine bodyPost_ret (zf rfl _ _ w.heap.size 67 _ _ rfl (HR10.out.setRow (zm cov0)) Tryz.underlying67 rfl zS) rfl ?_;rw [hfin.out];exact ⟨rfl,below_setRow HA10.out (Nat.le_refl _) _⟩
  cases exact
  ·cases es
   ·have hfin:Hid (o=none):=KZ9 (by rw [HDEF.out];rfl);go_wp2_with (refine wpList_store_row rfl 67 (.tmp 10) (.tmp 57) rfl w.heap.size (zm cov0).toArray rfl rfl 67 _ HR10.out zS rfl (ze (vD _)) ?_)
    all_goals try omega
    refine bodyPost_ret (zf rfl _ _ w.heap.size 67 _ _ rfl (HR10.out.setRow (zm cov0)) Tryz.underlying67 rfl zS) rfl ?_;rw [hfin.out];exact ⟨rfl,below_setRow HA10.out (Nat.le_refl _) _⟩
   have hfin:Hid (o=some ⟨2,x,false⟩):=KZ9 (by rw [HDEF.out];rfl);go_wp2_with (refine wpList_store_row rfl 67 (.tmp 10) (.tmp 56) rfl w.heap.size (zm ⟨2,x,false⟩).toArray rfl rfl 67 _ HR10.out zS rfl (ze (vD _)) ?_)
   all_goals try omega
   refine bodyPost_ret (zf rfl _ _ w.heap.size 67 _ _ rfl (HR10.out.setRow (zm ⟨2,x,false⟩)) Tryz.underlying67 rfl zS) rfl ?_;rw [hfin.out];exact ⟨rfl,below_setRow HA10.out (Nat.le_refl _) _⟩
  have hfin:Hid (o=some ⟨2,x,true⟩):=KZ9 (by rw [HDEF.out];rfl);go_wp2_with (refine wpList_store_row rfl 67 (.tmp 10) (.tmp 56) rfl w.heap.size (zm ⟨2,x,true⟩).toArray rfl rfl 67 _ HR10.out zS rfl (ze (vD _)) ?_)
  all_goals try omega
  refine bodyPost_ret (zf rfl _ _ w.heap.size 67 _ _ rfl (HR10.out.setRow (zm ⟨2,x,true⟩)) Tryz.underlying67 rfl zS) rfl ?_;rw [hfin.out];exact ⟨rfl,below_setRow HA10.out (Nat.le_refl _) _⟩
 cases E
 ·cases exact
  ·cases ps
   ·go_wp2_with fail
    all_goals try omega
    refine (HEX.out _).mono ?_;rintro e w8 ⟨rfl,rfl⟩;go_wp2_with fail
    all_goals try omega
    refine HPG.out.mono ?_;rintro e w9 ⟨rfl,hb9⟩;have hs9:=hb9.size;have HR9:=KZ9 (HR2.out.below (by omega) hb9);have HA9:=KZ9 (HA2.out.trans (hb9.mono (by omega)));have HN9:=KZ9 (heap_alloc_new w9 (.cells (zA ⟨[],false⟩).toArray 87));have hY9:=(BlkL.new w9 87 (zA ⟨[],false⟩)).setRow (zA ⟨eh,es⟩);have hR10:=(HR9.out.alloc (.cells (zA ⟨[],false⟩).toArray 87)).setRow_other (show w.heap.size≠w9.heap.size by omega) (zA ⟨eh,es⟩).toArray;have hA10:=below_setRow (HA9.out.alloc (by omega) (.cells (zA ⟨[],false⟩).toArray 87)) (show w.heap.size≤w9.heap.size by omega) (zA ⟨eh,es⟩).toArray;obtain ⟨W10,hW10⟩:=KZ6 ((w9.alloc (.cells (zA ⟨[],false⟩).toArray 87)).setRow w9.heap.size (zA ⟨eh,es⟩).toArray);rw [←hW10] at hY9 hR10 hA10;have HW10:Hid ((w9.alloc (.cells #[.string ⟨#[]⟩,.bool false] 87)).setRow w9.heap.size (zA ⟨eh,es⟩).toArray=W10):=KZ9 hW10.symm;have HR10:=KZ9 hR10
    have HA10:=KZ9 hA10;have f1:=hY9.c 1 _ rfl;clear hb9 HPG HR2 HA2 HR9 HA9 hW10 hY9 hR10 hA10 c1 c2;go_upto_region 5 with (refine wpList_store_row rfl 87 (.tmp 14) (.tmp 44) rfl w9.heap.size (zA ⟨eh,es⟩).toArray rfl rfl 87 _ HN9.out uj rfl (ze (rg _)) ?_)
    all_goals try omega
    rw [HW10.out];clear HW10 HN9;cases ok2
    ·have hfin:Hid (o=none):=KZ9 (by rw [HDEF.out];rfl);go_wp2_with (refine wpList_store_row rfl 67 (.tmp 10) (.tmp 57) rfl w.heap.size (zm cov0).toArray rfl rfl 67 _ HR10.out zS rfl (ze (vD _)) ?_)
     all_goals try omega
     refine bodyPost_ret (zf rfl _ _ w.heap.size 67 _ _ rfl (HR10.out.setRow (zm cov0)) Tryz.underlying67 rfl zS) rfl ?_;rw [hfin.out];exact ⟨rfl,below_setRow HA10.out (Nat.le_refl _) _⟩
    cases es
    ·have hfin:Hid (o=none):=KZ9 (by rw [HDEF.out];rfl);go_wp2_with (refine wpList_store_row rfl 67 (.tmp 10) (.tmp 57) rfl w.heap.size (zm cov0).toArray rfl rfl 67 _ HR10.out zS rfl (ze (vD _)) ?_)
     all_goals try omega
     refine bodyPost_ret (zf rfl _ _ w.heap.size 67 _ _ rfl (HR10.out.setRow (zm cov0)) Tryz.underlying67 rfl zS) rfl ?_;rw [hfin.out];exact ⟨rfl,below_setRow HA10.out (Nat.le_refl _) _⟩
    have hfin:Hid (o=some ⟨2,x,false⟩):=KZ9 (by rw [HDEF.out];rfl);go_wp2_with (refine wpList_store_row rfl 67 (.tmp 10) (.tmp 56) rfl w.heap.size (zm ⟨2,x,false⟩).toArray rfl rfl 67 _ HR10.out zS rfl (ze (vD _)) ?_)
    all_goals try omega
    refine bodyPost_ret (zf rfl _ _ w.heap.size 67 _ _ rfl (HR10.out.setRow (zm ⟨2,x,false⟩)) Tryz.underlying67 rfl zS) rfl ?_;rw [hfin.out];exact ⟨rfl,below_setRow HA10.out (Nat.le_refl _) _⟩
   go_wp2_with fail
   all_goals try omega
   refine (HEX.out _).mono ?_;rintro e w8 ⟨rfl,rfl⟩;have hfin:Hid (o=some ⟨1,x,false⟩):=KZ9 (by rw [HDEF.out];rfl);go_wp2_with (refine wpList_store_row rfl 67 (.tmp 10) (.tmp 39) rfl w.heap.size (zm ⟨1,x,false⟩).toArray rfl rfl 67 _ HR2.out zS rfl (ze (vD _)) ?_)
   all_goals try omega
   refine bodyPost_ret (zf rfl _ _ w.heap.size 67 _ _ rfl (HR2.out.setRow (zm ⟨1,x,false⟩)) Tryz.underlying67 rfl zS) rfl ?_;rw [hfin.out];exact ⟨rfl,below_setRow HA2.out (Nat.le_refl _) _⟩
  go_wp2_with fail
  all_goals try omega
  refine (HEX.out _).mono ?_;rintro e w8 ⟨rfl,rfl⟩;have hfin:Hid (o=some ⟨1,x,true⟩):=KZ9 (by rw [HDEF.out];rfl);go_wp2_with (refine wpList_store_row rfl 67 (.tmp 10) (.tmp 39) rfl w.heap.size (zm ⟨1,x,true⟩).toArray rfl rfl 67 _ HR2.out zS rfl (ze (vD _)) ?_)
  all_goals try omega
  refine bodyPost_ret (zf rfl _ _ w.heap.size 67 _ _ rfl (HR2.out.setRow (zm ⟨1,x,true⟩)) Tryz.underlying67 rfl zS) rfl ?_;rw [hfin.out];exact ⟨rfl,below_setRow HA2.out (Nat.le_refl _) _⟩
 go_wp2_with fail
 all_goals try omega
 refine (HEX.out _).mono ?_;rintro e w8 ⟨rfl,rfl⟩;go_wp2_with fail
 all_goals try omega
 refine HPG.out.mono ?_;rintro e w9 ⟨rfl,hb9⟩;have hs9:=hb9.size;have HR9:=KZ9 (HR2.out.below (by omega) hb9);have HA9:=KZ9 (HA2.out.trans (hb9.mono (by omega)));have HN9:=KZ9 (heap_alloc_new w9 (.cells (zA ⟨[],false⟩).toArray 87));have hY9:=(BlkL.new w9 87 (zA ⟨[],false⟩)).setRow (zA ⟨eh,es⟩);have hR10:=(HR9.out.alloc (.cells (zA ⟨[],false⟩).toArray 87)).setRow_other (show w.heap.size≠w9.heap.size by omega) (zA ⟨eh,es⟩).toArray;have hA10:=below_setRow (HA9.out.alloc (by omega) (.cells (zA ⟨[],false⟩).toArray 87)) (show w.heap.size≤w9.heap.size by omega) (zA ⟨eh,es⟩).toArray;obtain ⟨W10,hW10⟩:=KZ6 ((w9.alloc (.cells (zA ⟨[],false⟩).toArray 87)).setRow w9.heap.size (zA ⟨eh,es⟩).toArray);rw [←hW10] at hY9 hR10 hA10;have HW10:Hid ((w9.alloc (.cells #[.string ⟨#[]⟩,.bool false] 87)).setRow w9.heap.size (zA ⟨eh,es⟩).toArray=W10):=KZ9 hW10.symm;have HR10:=KZ9 hR10
 have HA10:=KZ9 hA10;have f1:=hY9.c 1 _ rfl;clear hb9 HPG HR2 HA2 HR9 HA9 hW10 hY9 hR10 hA10 c1 c2;go_upto_region 5 with (refine wpList_store_row rfl 87 (.tmp 14) (.tmp 44) rfl w9.heap.size (zA ⟨eh,es⟩).toArray rfl rfl 87 _ HN9.out uj rfl (ze (rg _)) ?_)
 all_goals try omega
 rw [HW10.out];clear HW10 HN9;cases ok2
 ·have hfin:Hid (o=none):=KZ9 (by rw [HDEF.out];rfl);go_wp2_with (refine wpList_store_row rfl 67 (.tmp 10) (.tmp 57) rfl w.heap.size (zm cov0).toArray rfl rfl 67 _ HR10.out zS rfl (ze (vD _)) ?_)
  all_goals try omega
  refine bodyPost_ret (zf rfl _ _ w.heap.size 67 _ _ rfl (HR10.out.setRow (zm cov0)) Tryz.underlying67 rfl zS) rfl ?_;rw [hfin.out];exact ⟨rfl,below_setRow HA10.out (Nat.le_refl _) _⟩
 cases exact
 ·cases es
  ·have hfin:Hid (o=none):=KZ9 (by rw [HDEF.out];rfl);go_wp2_with (refine wpList_store_row rfl 67 (.tmp 10) (.tmp 57) rfl w.heap.size (zm cov0).toArray rfl rfl 67 _ HR10.out zS rfl (ze (vD _)) ?_)
   all_goals try omega
   refine bodyPost_ret (zf rfl _ _ w.heap.size 67 _ _ rfl (HR10.out.setRow (zm cov0)) Tryz.underlying67 rfl zS) rfl ?_;rw [hfin.out];exact ⟨rfl,below_setRow HA10.out (Nat.le_refl _) _⟩
  have hfin:Hid (o=some ⟨2,x,false⟩):=KZ9 (by rw [HDEF.out];rfl);go_wp2_with (refine wpList_store_row rfl 67 (.tmp 10) (.tmp 56) rfl w.heap.size (zm ⟨2,x,false⟩).toArray rfl rfl 67 _ HR10.out zS rfl (ze (vD _)) ?_)
  all_goals try omega
  refine bodyPost_ret (zf rfl _ _ w.heap.size 67 _ _ rfl (HR10.out.setRow (zm ⟨2,x,false⟩)) Tryz.underlying67 rfl zS) rfl ?_;rw [hfin.out];exact ⟨rfl,below_setRow HA10.out (Nat.le_refl _) _⟩
 have hfin:Hid (o=some ⟨2,x,true⟩):=KZ9 (by rw [HDEF.out];rfl);go_wp2_with (refine wpList_store_row rfl 67 (.tmp 10) (.tmp 56) rfl w.heap.size (zm ⟨2,x,true⟩).toArray rfl rfl 67 _ HR10.out zS rfl (ze (vD _)) ?_)
 all_goals try omega
 refine bodyPost_ret (zf rfl _ _ w.heap.size 67 _ _ rfl (HR10.out.setRow (zm ⟨2,x,true⟩)) Tryz.underlying67 rfl zS) rfl ?_;rw [hfin.out];exact ⟨rfl,below_setRow HA10.out (Nat.le_refl _) _⟩
end Go.Proofs.YtjbciamhhfcdoaaGreatDoor
namespace Go.Proofs.YtjbciamhhfcdoaaGreatDoor
open Go.RowKit Go.Shelf Hs
attribute [local go_sem] Oper.semAt_some
def CInvG (w:World) (z y:Nat) (now:Int) (q q2:Option Addr) (T:List PinP) (L:List EntP) (pre:List Bs) (G:Nat→Prop) (W:World):Prop :=
 (∀ s∈pre,covAt now T L s false=none)∧BlkL W z 3 [.int .i64 now]∧BlkL W (z+1) 27 [.pointer q]∧BlkL W (z+2) 51 [.pointer q2]∧BlkL W (z+4) 67 (zm cov0)∧BlkL W (z+5) 67 (zm cov0)∧W.heap[y+1]? =some (.deferred (some []))∧Below z w W∧(∀ k,G k→z+5<k∧k≠y+1)
def COutG (w:World) (z y:Nat) (now:Int) (T:List PinP) (L:List EntP) (S:List Bs) (c:Code) (pre:List Bs) (G:Nat→Prop) (W:World):Prop :=
 c= .exit 0∧BlkL W (z+4) 67 (zm cov0)∧BlkL W (z+5) 67 (zm (wH now T L S))∧W.heap[y+1]? =some (.deferred (some []))∧Below z w W∧(∀ k,G k→z+5<k∧k≠y+1)
theorem CInvG.turn {w:World} {z y:Nat} {now:Int} {q q2:Option Addr} {T:List PinP} {L:List EntP} {pre:List Bs} {G:Nat→Prop} {A B:World} {row:Option Nat} (h:CInvG w z y now q q2 T L pre G A) (hz:z≤w.heap.size) (hy:z+5<y) (hg:A.grownBy B row) (hr:∀ r,row=some r→G r∨r=y+2):CInvG w z y now q q2 T L pre G B:=by
 obtain ⟨h1,b0,b1,b2,b4,b5,h3,h4,h5⟩:=h;have hlow:∀ r,row=some r→z+5<r∧r≠y+1:=fun r e=>(hr r e).elim (h5 r) (fun h=>by omega);have ne:∀ k,k≤z+5→some k≠row:=fun k hk e=>by have:=hlow _ e.symm;omega
 exact ⟨h1,b0.grown hg (ne _ (by omega)),b1.grown hg (ne _ (by omega)),b2.grown hg (ne _ (by omega)),b4.grown hg (ne _ (by omega)),b5.grown hg (ne _ (by omega)),(hg.block _ (Array.getElem?_eq_some_iff.1 h3).1 (fun e=>(hlow _ e.symm).2 rfl)).trans h3,h4.grown hg (by have:=h4.size;omega) (fun j hj=>by have:=hlow j hj;omega),h5⟩
theorem CInvG.lay {w:World} {z y:Nat} {now:Int} {q q2:Option Addr} {T:List PinP} {L:List EntP} {pre:List Bs} {G:Nat→Prop} {A B:World} (h:CInvG w z y now q q2 T L pre G A) (hz:z≤w.heap.size) (hy:z+5<y) (hg:A.grownBy B none):CInvG w z y now q q2 T L pre (fun k=>G k∨(A.heap.size≤k∧k<B.heap.size)) B:=by
 obtain ⟨h1,b0,b1,b2,b4,b5,h3,h4,h5⟩:=h;have hlt:=(Array.getElem?_eq_some_iff.1 h3).1;exact ⟨h1,b0.grown hg (by simp),b1.grown hg (by simp),b2.grown hg (by simp),b4.grown hg (by simp),b5.grown hg (by simp),(hg.block _ hlt (by simp)).trans h3,h4.grown hg (by have:=h4.size;omega) (fun j hj=>by cases hj),fun k hk=>hk.elim (h5 k) (fun h=>⟨by have:=b5.lt;omega,by omega⟩)⟩
theorem COutG.turn {w:World} {z y:Nat} {now:Int} {T:List PinP} {L:List EntP} {S:List Bs} {c:Code} {pre:List Bs} {G:Nat→Prop} {A B:World} {row:Option Nat} (h:COutG w z y now T L S c pre G A) (hz:z≤w.heap.size) (hy:z+5<y) (hg:A.grownBy B row) (hr:∀ r,row=some r→G r∨r=y+2):COutG w z y now T L S c pre G B:=by
 obtain ⟨h1,b4,b5,h3,h4,h5⟩:=h;have hlow:∀ r,row=some r→z+5<r∧r≠y+1:=fun r e=>(hr r e).elim (h5 r) (fun h=>by omega);have ne:∀ k,k≤z+5→some k≠row:=fun k hk e=>by have:=hlow _ e.symm;omega
 exact ⟨h1,b4.grown hg (ne _ (by omega)),b5.grown hg (ne _ (by omega)),(hg.block _ (Array.getElem?_eq_some_iff.1 h3).1 (fun e=>(hlow _ e.symm).2 rfl)).trans h3,h4.grown hg (by have:=h4.size;omega) (fun j hj=>by have:=hlow j hj;omega),h5⟩
theorem COutG.lay {w:World} {z y:Nat} {now:Int} {T:List PinP} {L:List EntP} {S:List Bs} {c:Code} {pre:List Bs} {G:Nat→Prop} {A B:World} (h:COutG w z y now T L S c pre G A) (hz:z≤w.heap.size) (hy:z+5<y) (hg:A.grownBy B none):COutG w z y now T L S c pre (fun k=>G k∨(A.heap.size≤k∧k<B.heap.size)) B:=by
 obtain ⟨h1,b4,b5,h3,h4,h5⟩:=h;have hlt:=(Array.getElem?_eq_some_iff.1 h3).1;exact ⟨h1,b4.grown hg (by simp),b5.grown hg (by simp),(hg.block _ hlt (by simp)).trans h3,h4.grown hg (by have:=h4.size;omega) (fun j hj=>by cases hj),fun k hk=>hk.elim (h5 k) (fun h=>⟨by have:=b5.lt;omega,by omega⟩)⟩
theorem WY (now:Int) (q q2:Option Addr) (T:List PinP) (L:List EntP) (x:Bs) (exact:Bool) (w:World) (ht:TL w q q2 T L) (hx:x.length≤100000):Calls Tryz.prog 74 #[.int .i64 now,.pointer q,.pointer q2,.string (mk x),.bool exact] w fun e w'=>e= .returned (.tuple #[.agg #[.int .i64 (((covAt now T L x exact).getD cov0).source:Int),.string (mk ((covAt now T L x exact).getD cov0).name),.bool ((covAt now T L x exact).getD cov0).exact],.bool (covAt now T L x exact).isSome])∧Below w.heap.size w w':=PX now q q2 T L x exact w ht hx
set_option maxRecDepth 100000
set_option maxHeartbeats 8000000
theorem SI (now:Int) (q q2:Option Addr) (T:List PinP) (L:List EntP) (h:HostP) (w:World) (hB:Base w) (hw:ym h) (hn:h.name.length≤20000) (ht:TL w q q2 T L):Calls Tryz.prog 37 #[.int .i64 now,.pointer q,.pointer q2,.agg (zc h).toArray] w fun e w'=>e= .returned (.agg (zm (uT now T L h)).toArray)∧Below w.heap.size w w':=by
 refine (callsIn_wide (n:=9)).1 ?_;refine callsIn_of_wp_marks Tryz.func37 rfl trivial ?_ rfl;simp only [Tryz.ntmps37,List.size_toArray,List.length_cons,List.length_nil,Nat.reduceAdd,Nat.reduceSub,Array.replicate_succ,Array.replicate_zero,List.push_toArray,List.append_toArray,List.nil_append,List.cons_append];obtain ⟨kd,nm,va,v6⟩:=h;obtain ⟨a,b,c,d,e,f,g,i,rfl⟩:=si hw.1;simp only at hn;obtain ⟨W5,hW5⟩:=KZ6 (((((w.alloc (.cells #[.int .i64 now] 3)).alloc (.cells #[.pointer q] 27)).alloc (.cells #[.pointer q2] 51)).alloc (.cells (zc ⟨kd,nm,va,[a,b,c,d,e,f,g,i]⟩).toArray 60)).alloc (.cells #[.int .i64 0,.string ⟨#[]⟩,.bool false] 67));have HW5:=KZ9 hW5.symm;obtain ⟨z,hz⟩:=KZ6 w.heap.size;have hsz5:W5.heap.size=z+5:=by rw [hW5,hz];simp
 have hB5:Below z w W5:=by rw [hW5,hz];exact (((((Below.refl _ w).alloc (Nat.le_refl _) _).alloc (by simp) _).alloc (by simp;omega) _).alloc (by simp;omega) _).alloc (by simp;omega) _
 have b0:BlkL W5 z 3 [.int .i64 now]:=by rw [hW5,hz];exact ((((BlkL.new w _ _).alloc _).alloc _).alloc _).alloc _
 have b1:BlkL W5 (z+1) 27 [.pointer q]:=by
  rw [hW5,hz];have:=(((BlkL.new (w.alloc (.cells #[.int .i64 now] 3)) 27 [.pointer q]).alloc (.cells #[.pointer q2] 51)).alloc (.cells (zc ⟨kd,nm,va,[a,b,c,d,e,f,g,i]⟩).toArray 60)).alloc (.cells #[.int .i64 0,.string ⟨#[]⟩,.bool false] 67)
  simpa using this
 have b2:BlkL W5 (z+2) 51 [.pointer q2]:=by
  rw [hW5,hz];have:=((BlkL.new ((w.alloc (.cells #[.int .i64 now] 3)).alloc (.cells #[.pointer q] 27)) 51 [.pointer q2]).alloc (.cells (zc ⟨kd,nm,va,[a,b,c,d,e,f,g,i]⟩).toArray 60)).alloc (.cells #[.int .i64 0,.string ⟨#[]⟩,.bool false] 67);simp only [World.size_alloc] at this;exact this
 have b3:BlkL W5 (z+3) 60 (zc ⟨kd,nm,va,[a,b,c,d,e,f,g,i]⟩):=by
  rw [hW5,hz];have:=(BlkL.new (((w.alloc (.cells #[.int .i64 now] 3)).alloc (.cells #[.pointer q] 27)).alloc (.cells #[.pointer q2] 51)) 60 (zc ⟨kd,nm,va,[a,b,c,d,e,f,g,i]⟩)).alloc (.cells #[.int .i64 0,.string ⟨#[]⟩,.bool false] 67);simp only [World.size_alloc] at this;exact this
 have b4:BlkL W5 (z+4) 67 (zm cov0):=by
  rw [hW5,hz];have:=BlkL.new ((((w.alloc (.cells #[.int .i64 now] 3)).alloc (.cells #[.pointer q] 27)).alloc (.cells #[.pointer q2] 51)).alloc (.cells (zc ⟨kd,nm,va,[a,b,c,d,e,f,g,i]⟩).toArray 60)) 67 (zm cov0);simp only [World.size_alloc] at this;exact this
 have ht5:=ht.below (hz▸hB5);clear hW5
 gi_upto_region 2 with fail
 rw [HW5.out,←hz];have hz':=Nat.le_of_eq hz;have HZ:=KZ9 hz;clear HW5 hz;rw [show z+1+1+1+1=z+4 from rfl,show z+1+1+1=z+3 from rfl,show z+1+1=z+2 from rfl];refine wpIn_wide.2 (wp_scope_straight ((wpIn_wide (n:=9)).1 ?_))
 gi_upto_region 2 with fail
 have c5:BlkL (W5.alloc (.cells #[.int .i64 0,.string ⟨#[]⟩,.bool false] 67)) (z+5) 67 (zm cov0):=by
  have:=BlkL.new W5 67 (zm cov0);rw [hsz5] at this;exact this
 have a0:=b0.alloc (.cells #[.int .i64 0,.string ⟨#[]⟩,.bool false] 67);have a1:=b1.alloc (.cells #[.int .i64 0,.string ⟨#[]⟩,.bool false] 67);have a2:=b2.alloc (.cells #[.int .i64 0,.string ⟨#[]⟩,.bool false] 67);have a3:=b3.alloc (.cells #[.int .i64 0,.string ⟨#[]⟩,.bool false] 67);have a4:=b4.alloc (.cells #[.int .i64 0,.string ⟨#[]⟩,.bool false] 67);have ht6:TL (W5.alloc (.cells #[.int .i64 0,.string ⟨#[]⟩,.bool false] 67)) q q2 T L:=ht5.below ((Below.refl _ W5).alloc (Nat.le_refl _) _);have hB6:=hB5.alloc (by omega) (.cells #[.int .i64 0,.string ⟨#[]⟩,.bool false] 67);have hsz6:(W5.alloc (.cells #[.int .i64 0,.string ⟨#[]⟩,.bool false] 67)).heap.size=z+6:=by simp [hsz5]
 generalize W5.alloc (.cells #[.int .i64 0,.string ⟨#[]⟩,.bool false] 67)=W6 at *;clear b0 b1 b2 b3 b4 ht5 hB5 hsz5;have hk0:=a3.c 0 _ rfl;have hv:=jB ⟨kd,nm,va,[a,b,c,d,e,f,g,i]⟩ W6 (hB.below (HZ.out▸hB6)) hw (by show nm.length≤100000;omega);obtain ⟨ok,hok⟩:=KZ6 (zT ⟨kd,nm,va,[a,b,c,d,e,f,g,i]⟩);rw [←hok] at hv;have HV:=KZ9 hv;have HOK:=KZ9 hok;clear hv hok;by_cases hk:kd=1
 ·subst hk;have h1:=a3.c 1 _ rfl;have h2:=a3.c 2 _ rfl;have h3:=a3.c 3 _ rfl;have h4:=a3.c 4 _ rfl;have h5:=a3.c 5 _ rfl;have h6:=a3.c 6 _ rfl;have h7:=a3.c 7 _ rfl;have h8:=a3.c 8 _ rfl;have h9:=a3.c 9 _ rfl;have h10:=a3.c 10 _ rfl
  gi_wp2
  refine ⟨trivial,?_⟩;refine (callsIn_wide.2 HV.out).mono ?_;rintro e w1 ⟨rfl,hb1⟩;have hs1:=hb1.size;have d0:=a0.below (by omega) hb1;have d1:=a1.below (by omega) hb1;have d2:=a2.below (by omega) hb1;have d3:=a3.below (by omega) hb1;have d4:=a4.below (by omega) hb1;have d5:=c5.below (by omega) hb1;have ht7:=ht6.below hb1;have HB7:=KZ9 (hB6.trans (hb1.mono (by omega)));clear hb1 HV a0 a1 a2 a3 a4 c5 ht6 hB6 hk0 h1 h2 h3 h4 h5 h6 h7 h8 h9 h10;cases ok
  ·have hfin:=KZ9 (Ts (now:=now) (T:=T) (L:=L) (h:=⟨1,nm,va,[a,b,c,d,e,f,g,i]⟩) (fun hh=>by rw [←HOK.out] at hh;exact absurd hh.2 (by simp)));obtain ⟨e0,e1,e2⟩:=BlkL.cs3 d5;obtain ⟨k0,k1,k2⟩:=BlkL.cs3 d4;have m0:=d4.f 0;have m1:=d4.f 1;have m2:=d4.f 2
   gi_wp2
   all_goals try omega
   (try rw [Exit.noGoto_ret])
   refine yB [] _ (by simp) List.nodup_nil (fun W' hW'=> ?_);have hr:=yj d4 rfl (.int .i64 ((cov0).source:Int)) (.string (mk (cov0).name)) (.bool (cov0).exact);have hr2:BlkL W' (z+4) 67 (zm (cov0)):=(hW'.block _ hr.lt (by simp)).trans hr;refine ⟨_,results_cell_row rfl _ _ (z+4) 67 _ _ _ rfl hr2 Tryz.underlying67 rfl zS,?_⟩;rw [hfin.out,←HZ.out];exact ⟨rfl,(zO HB7.out (by omega) _ _ _).trans (Keeps.below (hW'.mono fun k _=>by simp) (by have:=(HB7.out).size;simp;omega))⟩
  have n0:=d0.c 0 _ rfl;have n1:=d1.c 0 _ rfl;have n2:=d2.c 0 _ rfl;have n3:=d3.c 1 _ rfl;have hat:=WY now q q2 T L nm true w1 ht7 (by omega);have hhit:=fun cc=>@Qz now T L ⟨1,nm,va,[a,b,c,d,e,f,g,i]⟩ ⟨rfl,HOK.out.symm⟩ cc;have hsup:=@Qy now T L ⟨1,nm,va,[a,b,c,d,e,f,g,i]⟩ ⟨rfl,HOK.out.symm⟩;simp only at hhit hsup;obtain ⟨o,ho⟩:=KZ6 (covAt now T L nm true);rw [←ho] at hat hsup;simp only [←ho] at hhit;have HAT:=KZ9 hat;have HHIT:=KZ9 hhit;have HSUP:=KZ9 hsup;clear hat hhit hsup ho
  gi_wp2
  refine ⟨trivial,?_⟩;refine (callsIn_wide.2 HAT.out).mono ?_;rintro e w2 ⟨rfl,hb2⟩;have hs2:=hb2.size;have x0:=d0.below (by omega) hb2;have x1:=d1.below (by omega) hb2;have x2:=d2.below (by omega) hb2;have x3:=d3.below (by omega) hb2;have x4:=d4.below (by omega) hb2;have x5:=d5.below (by omega) hb2;have ht8:=ht7.below hb2;have HB8:=KZ9 (HB7.out.trans (hb2.mono (by omega)));clear hb2 HAT d0 d1 d2 d3 d4 d5 ht7 HB7 n0 n1 n2 n3;cases o with
  | none =>
   have hfin:=KZ9 (HSUP.out rfl);clear HSUP HHIT;simp only [Option.getD_none,Option.isSome_none]
   gi_upto_region 5 with fail
   obtain ⟨W9,hW9⟩:=KZ6 (w2.alloc (.cells #[.int .i64 (cov0.source:Int),.string (mk cov0.name),.bool cov0.exact] 67));have y0:=x0.alloc (.cells #[.int .i64 (cov0.source:Int),.string (mk cov0.name),.bool cov0.exact] 67);have y1:=x1.alloc (.cells #[.int .i64 (cov0.source:Int),.string (mk cov0.name),.bool cov0.exact] 67);have y2:=x2.alloc (.cells #[.int .i64 (cov0.source:Int),.string (mk cov0.name),.bool cov0.exact] 67);have y3:=x3.alloc (.cells #[.int .i64 (cov0.source:Int),.string (mk cov0.name),.bool cov0.exact] 67);have y4:=x4.alloc (.cells #[.int .i64 (cov0.source:Int),.string (mk cov0.name),.bool cov0.exact] 67);have y5:=x5.alloc (.cells #[.int .i64 (cov0.source:Int),.string (mk cov0.name),.bool cov0.exact] 67);have yn:=BlkL.new w2 67 (zm cov0);have ht9:TL (w2.alloc (.cells #[.int .i64 (cov0.source:Int),.string (mk cov0.name),.bool cov0.exact] 67)) q q2 T L:=ht8.below ((Below.refl _ w2).alloc (Nat.le_refl _) _)
   have HB9:=KZ9 (HB8.out.alloc (by omega) (.cells #[.int .i64 (cov0.source:Int),.string (mk cov0.name),.bool cov0.exact] 67));have hs9:(w2.alloc (.cells #[.int .i64 (cov0.source:Int),.string (mk cov0.name),.bool cov0.exact] 67)).heap.size=w2.heap.size+1:=by simp
   have hyn:BlkL (w2.alloc (.cells #[.int .i64 (cov0.source:Int),.string (mk cov0.name),.bool cov0.exact] 67)) w2.heap.size 67 (zm cov0):=yn;rw [←hW9] at y0 y1 y2 y3 y4 y5 ht9 HB9 hs9 hyn ⊢;clear hW9 yn x0 x1 x2 x3 x4 x5 ht8 HB8;have n3:=y3.c 1 _ rfl
   gi_upto_region 7 with fail
   refine wpIn_label ?_
   gi_wp2
   refine ⟨trivial,?_⟩;refine (callsIn_wide.2 (Qe (mk nm) _)).mono ?_;rintro e w10 ⟨rfl,rfl⟩
   gi_wp2
   have hsup2:Xp (un (mk nm))=yl nm:=by
    rw [zj];unfold Xp;have:zJ nm=true:=by
     have h:=HOK.out.symm;rw [sn,if_pos rfl] at h;simp only [Bool.and_eq_true] at h;exact h.1.1
    rw [if_pos this]
   have hct0:=Boxed.new W9 9 (.string (mk nm));have z0:=y0.alloc (.cells #[.string (mk nm)] 9);have z1:=y1.alloc (.cells #[.string (mk nm)] 9);have z2:=y2.alloc (.cells #[.string (mk nm)] 9);have z4:=y4.alloc (.cells #[.string (mk nm)] 9);have z5:=y5.alloc (.cells #[.string (mk nm)] 9);have HB10:=KZ9 (HB9.out.alloc (by omega) (.cells #[.string (mk nm)] 9));have hs10:(W9.alloc (.cells #[.string (mk nm)] 9)).heap.size=W9.heap.size+1:=by simp
   obtain ⟨y,hy⟩:=KZ6 W9.heap.size;rw [←hy] at hct0 hs10;rw [←hs9,←hy];have hyz:z+5<y:=by omega
   generalize W9.alloc (.cells #[.string (mk nm)] 9)=W10 at *;clear y0 y1 y2 y3 y4 y5 n3 ht9 HB9 hyn hs9;have hent:=fun (a:Act) ps asg bd=>tf (F:=Fence.wide) (P:=Tryz.prog) rfl W10 a ps asg bd;rw [hs10] at hent;have hBK:∀ W',Keeps (fun k=>k<z) W10 W'→Base W':=fun W' hk=>hB.below (HZ.out▸HB10.out.trans (hk.below (by omega)));refine tC (w₁:=W10.alloc (.deferred (some []))) (L:=y+2) (by omega) (by simp;omega) (hent _ _ _ _) (gf:=118) (lb:=#[.pointer (some ⟨y,0,none⟩)]) rfl trivial (enters_of Tryz.func118 (by kernel_rfl) rfl)
    (Vt 8 y z (mk nm) W10 (by omega) hct0 (by omega) hBK (by omega) (by rw [zh];omega)) ((Below.refl _ W10).alloc (Nat.le_refl _) _) (fun _=>rfl) (by omega) (by omega)
    (CInvG w z y now q q2 T L) (COutG w z y now T L (yl nm)) (fun _ _ _ _ _ h hg hr=>h.turn hz' hyz hg hr) (fun _ _ _ _ h hg=>h.lay hz' hyz hg) (fun _ _ _ _ _ _ h hg hr=>h.turn hz' hyz hg hr) (fun _ _ _ _ _ h hg=>h.lay hz' hyz hg) ?start
    (fun x a' W'=>a'={ tmps:=#[.int .i64 now,.pointer q,.pointer q2,.agg (zc ⟨1,nm,va,[a,b,c,d,e,f,g,i]⟩).toArray,.pointer (some ⟨z,0,none⟩),.pointer (some ⟨z+1,0,none⟩),.pointer (some ⟨z+2,0,none⟩),.pointer (some ⟨z+3,0,none⟩),.pointer (some ⟨z+4,0,none⟩),.pointer (some ⟨z+5,0,none⟩),.pointer (some ⟨w2.heap.size,0,none⟩),.bool false,.string (mk x),undef,undef,.pointer (some ⟨z+3,0,none⟩),.int .i64 1,.bool false,.bool false,.agg #[.int .i64 1,.string (mk nm),.int .u32 (va:Int),.int .u16 (a:Int),.int .u16 (b:Int),.int .u16 (c:Int),.int .u16 (d:Int),.int .u16 (e:Int),.int .u16 (f:Int),.int .u16 (g:Int),.int .u16 (i:Int)],.bool true,.bool false,.bool false,undef,(.tuple #[.agg #[.int .i64 (cov0.source:Int),.string (mk cov0.name),.bool cov0.exact],.bool false]),.int .i64 now,.pointer q,.pointer q2,.pointer (some ⟨z+3,1,none⟩),.string (mk nm),(.tuple #[.agg #[.int .i64 (cov0.source:Int),.string (mk cov0.name),.bool cov0.exact],.bool false]),.agg #[.int .i64 (cov0.source:Int),.string (mk cov0.name),.bool cov0.exact],.bool false,.bool false,undef,.pointer (some ⟨z+3,1,none⟩),.string (mk nm),.func (.func 118) #[] #[.pointer (some ⟨y,0,none⟩)],.string (mk x),undef,undef,undef,undef,undef,undef,undef,undef,undef,undef,undef],defers:=[] }) (fun _ _ _ _ _ h _ _=>h) ?assign ?body ?done ?stop
   case start =>
    intro o;have hd:=World.alloc_heap_new W10 (.deferred (some []));rw [hs10] at hd;refine ⟨(fun s hs=>by cases hs),(z0.alloc _).alloc _,(z1.alloc _).alloc _,(z2.alloc _).alloc _,(z4.alloc _).alloc _,(z5.alloc _).alloc _,(Below.heap_alloc _ o _ (by simp;omega)).trans hd,(HB10.out.alloc (by omega) _).alloc (by simp;omega) _,?_⟩;rintro k rfl;omega
   case assign =>
    intro pre x G W' K hI hsp hK
    gi_wp2
    exact hK _ _ rfl (Keeps.refl _ _) hI (by rw [hy])
   case body =>
    rintro pre x G a' Wb ⟨r0,hr0⟩ hI rfl ⟨post,hpost⟩;rw [hsup2] at hpost;have hxn:x∈yl nm:=by rw [←hpost];simp
    have hI':=hI;obtain ⟨i1,i0,j1,j2,j4,j5,i6,i7,i8⟩:=hI';have ht11:TL Wb q q2 T L:=ht.below (HZ.out▸i7);have hxl:x.length≤100000:=by have:=rY nm x hxn;omega
    have hat2:=WY now q q2 T L x false Wb ht11 hxl;obtain ⟨o,ho⟩:=KZ6 (covAt now T L x false);rw [←ho] at hat2;have HAT2:=KZ9 hat2;have HO:=KZ9 ho;have n0:=i0.c 0 _ rfl;have n1:=j1.c 0 _ rfl;have n2:=j2.c 0 _ rfl;have HI:=KZ9 hI;have HPO:=KZ9 hpost;clear hat2 ho hI i0 j1 j2 j4 j5 i1 i6 i7 i8 hpost
    gi_wp2
    refine ⟨trivial,?_⟩;refine (CallsIn.inRound _ (callsIn_wide.2 HAT2.out)).mono ?_;rintro e w3 ⟨rfl,hb3⟩;have hg3:=yt hb3;have HI3:=KZ9 (HI.out.turn hz' hyz hg3 (fun r e=>by cases e));have hy4:y+2<Wb.heap.size:=(Array.getElem?_eq_some_iff.1 hr0).1;have hL3:w3.heap[y+2]? =Wb.heap[y+2]? :=hb3.block _ hy4;have hK3:Keeps (fun k=>G k∨k<z) Wb w3:=Keeps.of_below hb3;have hs3:=hb3.size;clear hb3 HI HAT2 n0 n1 n2 hg3;cases o with
    | none =>
     simp only [Option.getD_none,Option.isSome_none]
     gi_wp2
     obtain ⟨i1,j0,j1,j2,j4,j5,i6,i7,i8⟩:=HI3.out;refine (show _∧_∧_ from ⟨(Below.heap_alloc _ _ _ (by omega)).trans hL3,hK3.trans (Keeps.alloc _ _ _),?_,j0.alloc _,j1.alloc _,j2.alloc _,j4.alloc _,j5.alloc _,(Below.heap_alloc _ _ _ (Array.getElem?_eq_some_iff.1 i6).1).trans i6,i7.alloc (by have:=j0.lt;omega) _,i8⟩);intro s hs;rcases List.mem_append.1 hs with hs | hs
     ·exact i1 s hs
     rw [List.mem_singleton.1 hs];exact HO.out.symm
    | some cc =>
     simp only [Option.getD_some,Option.isSome_some]
     gi_upto_region 10 with fail
     obtain ⟨i1,j0,j1,j2,j4,j5,i6,i7,i8⟩:=HI3.out;have hyn:BlkL (w3.alloc (.cells #[.int .i64 (cc.source:Int),.string (mk cc.name),.bool cc.exact] 67)) w3.heap.size 67 (zm cc):=BlkL.new w3 67 (zm cc);have v4:=j4.alloc (.cells #[.int .i64 (cc.source:Int),.string (mk cc.name),.bool cc.exact] 67);have v5:=j5.alloc (.cells #[.int .i64 (cc.source:Int),.string (mk cc.name),.bool cc.exact] 67);have v6:=(Below.heap_alloc w3 (.cells #[.int .i64 (cc.source:Int),.string (mk cc.name),.bool cc.exact] 67) _ (Array.getElem?_eq_some_iff.1 i6).1).trans i6;have v7:=i7.alloc (by have:=j0.lt;omega) (.cells #[.int .i64 (cc.source:Int),.string (mk cc.name),.bool cc.exact] 67);have vL:=(Below.heap_alloc w3 (.cells #[.int .i64 (cc.source:Int),.string (mk cc.name),.bool cc.exact] 67) (y+2) (by omega)).trans hL3;have vK:=hK3.trans (Keeps.alloc _ w3 (.cells #[.int .i64 (cc.source:Int),.string (mk cc.name),.bool cc.exact] 67))
     obtain ⟨e0,e1,e2⟩:=BlkL.cs3 hyn;obtain ⟨k0,k1,k2⟩:=BlkL.cs3 v5;have m0:=v5.f 0;have m1:=v5.f 1;have m2:=v5.f 2;have hcs:wH now T L (yl nm)=cc:=by rw [←HPO.out,List.append_assoc,List.singleton_append];exact Ux now T L pre x post cc i1 HO.out.symm
     have HCS:=KZ9 hcs;have HV5:=KZ9 v5;have HV4:=KZ9 v4;have HV6:=KZ9 v6;have HV7:=KZ9 v7;have HVL:=KZ9 vL;have HVK:=KZ9 vK;have HI8:=KZ9 i8;clear hcs v5 v4 v6 v7 vL vK i1 i6 i7 i8 j0 j1 j2 j4 j5 HI3 hyn hL3 hK3
     gi_wp2
     all_goals try omega
     have hr:=yj HV5.out rfl (.int .i64 (cc.source:Int)) (.string (mk cc.name)) (.bool cc.exact);refine (show _∧_∧_ from ⟨?_,?_,rfl,?_,?_,?_,?_,HI8.out⟩)
     ·exact ((Below.heap_setCell _ _ _ _ (by simp;omega)).trans ((Below.heap_setCell _ _ _ _ (by simp;omega)).trans (Below.heap_setCell _ _ _ _ (by simp;omega)))).trans HVL.out
     ·have hne:¬ (G (z+5)∨z+5<z):=fun h=>h.elim (fun h=>by have:=(HI8.out _ h).1;omega) (fun h=>by omega);exact ((HVK.out.trans (Keeps.setCell _ _ _ hne _)).trans (Keeps.setCell _ _ _ hne _)).trans (Keeps.setCell _ _ _ hne _)
     ·exact ((HV4.out.other (by omega) _ _).other (by omega) _ _).other (by omega) _ _
     ·rw [HCS.out];exact hr
     ·exact sS HV6.out (by omega) _ _ _
     exact zO HV7.out (by omega) _ _ _
   case done =>
    rintro xs G W' hxs hI;rw [hsup2] at hxs;obtain ⟨i1,j0,j1,j2,j4,j5,i6,i7,i8⟩:=hI;have hcs:wH now T L (yl nm)=cov0:=by
     have:=rk now T L xs [] i1;rw [List.append_nil,hxs] at this;rw [this];rfl
    rw [hcs] at hfin;obtain ⟨e0,e1,e2⟩:=BlkL.cs3 j5;obtain ⟨k0,k1,k2⟩:=BlkL.cs3 j4;have m0:=j4.f 0;have m1:=j4.f 1;have m2:=j4.f 2;have HJ4:=KZ9 j4;have HI6:=KZ9 i6;have HI7:=KZ9 i7;clear j4 i6 i7 i1 i8 j0 j1 j2 j5 hcs hxs
    gi_wp2
    all_goals try omega
    (try rw [Exit.noGoto_ret])
    refine yB [y+1] _ (fun r hr=> ?_) (by simp) (fun W'' hW'=> ?_)
    ·rw [List.mem_singleton.1 hr];exact sS HI6.out (by omega) _ _ _
    have hr:=yj HJ4.out rfl (.int .i64 (cov0.source:Int)) (.string (mk cov0.name)) (.bool cov0.exact);have hr2:BlkL W'' (z+4) 67 (zm cov0):=(hW'.block _ hr.lt (by simp;omega)).trans hr;refine ⟨_,results_cell_row rfl _ _ (z+4) 67 _ _ _ rfl hr2 Tryz.underlying67 rfl zS,?_⟩;rw [hfin.out,←HZ.out];exact ⟨rfl,(zO HI7.out (by omega) _ _ _).trans (Keeps.below (hW'.mono fun k _=>by simp;omega) (by have:=HI7.out.size;simp;omega))⟩
   case stop =>
    rintro c pre G W' _ hO;obtain ⟨rfl,j4,j5,i6,i7,i8⟩:=hO;obtain ⟨cs,hcs⟩:=KZ6 (wH now T L (yl nm));rw [←hcs] at hfin j5;obtain ⟨e0,e1,e2⟩:=BlkL.cs3 j5;obtain ⟨k0,k1,k2⟩:=BlkL.cs3 j4;have m0:=j4.f 0;have m1:=j4.f 1;have m2:=j4.f 2;have HJ4:=KZ9 j4;have HI6:=KZ9 i6;have HI7:=KZ9 i7;clear j4 i6 i7 i8 j5 hcs
    gi_wp2
    all_goals try omega
    (try rw [Exit.noGoto_ret])
    refine yB [y+1] _ (fun r hr=> ?_) (by simp) (fun W'' hW'=> ?_)
    ·rw [List.mem_singleton.1 hr];exact sS HI6.out (by omega) _ _ _
    have hr:=yj HJ4.out rfl (.int .i64 (cs.source:Int)) (.string (mk cs.name)) (.bool cs.exact);have hr2:BlkL W'' (z+4) 67 (zm cs):=(hW'.block _ hr.lt (by simp;omega)).trans hr;refine ⟨_,results_cell_row rfl _ _ (z+4) 67 _ _ _ rfl hr2 Tryz.underlying67 rfl zS,?_⟩;rw [hfin.out,←HZ.out];exact ⟨rfl,(zO HI7.out (by omega) _ _ _).trans (Keeps.below (hW'.mono fun k _=>by simp;omega) (by have:=HI7.out.size;simp;omega))⟩
  | some cc =>
   have hfin:=KZ9 (HHIT.out cc rfl);clear HSUP HHIT;simp only [Option.getD_some,Option.isSome_some]
   gi_upto_region 5 with fail
   obtain ⟨W9,hW9⟩:=KZ6 (w2.alloc (.cells #[.int .i64 (cc.source:Int),.string (mk cc.name),.bool cc.exact] 67));have y0:=x0.alloc (.cells #[.int .i64 (cc.source:Int),.string (mk cc.name),.bool cc.exact] 67);have y1:=x1.alloc (.cells #[.int .i64 (cc.source:Int),.string (mk cc.name),.bool cc.exact] 67);have y2:=x2.alloc (.cells #[.int .i64 (cc.source:Int),.string (mk cc.name),.bool cc.exact] 67);have y3:=x3.alloc (.cells #[.int .i64 (cc.source:Int),.string (mk cc.name),.bool cc.exact] 67);have y4:=x4.alloc (.cells #[.int .i64 (cc.source:Int),.string (mk cc.name),.bool cc.exact] 67);have y5:=x5.alloc (.cells #[.int .i64 (cc.source:Int),.string (mk cc.name),.bool cc.exact] 67);have yn:=BlkL.new w2 67 (zm cc);have ht9:TL (w2.alloc (.cells #[.int .i64 (cc.source:Int),.string (mk cc.name),.bool cc.exact] 67)) q q2 T L:=ht8.below ((Below.refl _ w2).alloc (Nat.le_refl _) _)
   have HB9:=KZ9 (HB8.out.alloc (by omega) (.cells #[.int .i64 (cc.source:Int),.string (mk cc.name),.bool cc.exact] 67));have hs9:(w2.alloc (.cells #[.int .i64 (cc.source:Int),.string (mk cc.name),.bool cc.exact] 67)).heap.size=w2.heap.size+1:=by simp
   have hyn:BlkL (w2.alloc (.cells #[.int .i64 (cc.source:Int),.string (mk cc.name),.bool cc.exact] 67)) w2.heap.size 67 (zm cc):=yn;rw [←hW9] at y0 y1 y2 y3 y4 y5 ht9 HB9 hs9 hyn ⊢;clear hW9 yn x0 x1 x2 x3 x4 x5 ht8 HB8;obtain ⟨e0,e1,e2⟩:=BlkL.cs3 hyn;obtain ⟨k0,k1,k2⟩:=BlkL.cs3 y4;have m0:=y4.f 0;have m1:=y4.f 1;have m2:=y4.f 2
   gi_wp2
   all_goals try omega
   (try rw [Exit.noGoto_ret])
   refine yB [] _ (by simp) List.nodup_nil (fun W' hW'=> ?_);have hr:=yj y4 rfl (.int .i64 (cc.source:Int)) (.string (mk cc.name)) (.bool cc.exact);have hr2:BlkL W' (z+4) 67 (zm cc):=(hW'.block _ hr.lt (by simp)).trans hr;refine ⟨_,results_cell_row rfl _ _ (z+4) 67 _ _ _ rfl hr2 Tryz.underlying67 rfl zS,?_⟩;rw [hfin.out,←HZ.out];exact ⟨rfl,(zO HB9.out (by omega) _ _ _).trans (Keeps.below (hW'.mono fun k _=>by simp) (by have:=HB9.out.size;simp;omega))⟩
 have g1:((kd:Int) != 1)=true:=by simp;omega
 have hfin:=KZ9 (Ts (now:=now) (T:=T) (L:=L) (h:=⟨kd,nm,va,[a,b,c,d,e,f,g,i]⟩) (fun hh=>hk hh.1));clear hk HV HOK;obtain ⟨e0,e1,e2⟩:=BlkL.cs3 c5;obtain ⟨k0,k1,k2⟩:=BlkL.cs3 a4;have m0:=a4.f 0;have m1:=a4.f 1;have m2:=a4.f 2
 gi_wp2
 all_goals try omega
 refine ⟨trivial,?_⟩
 gi_wp2
 all_goals try omega
 (try rw [Exit.noGoto_ret])
 refine yB [] _ (by simp) List.nodup_nil (fun W' hW'=> ?_);have hr:=yj a4 rfl (.int .i64 ((cov0).source:Int)) (.string (mk (cov0).name)) (.bool (cov0).exact);have hr2:BlkL W' (z+4) 67 (zm (cov0)):=(hW'.block _ hr.lt (by simp)).trans hr;refine ⟨_,results_cell_row rfl _ _ (z+4) 67 _ _ _ rfl hr2 Tryz.underlying67 rfl zS,?_⟩;rw [hfin.out,←HZ.out];exact ⟨rfl,(zO hB6 (by omega) _ _ _).trans (Keeps.below (hW'.mono fun k _=>by simp) (by have:=(hB6).size;simp;omega))⟩
end Go.Proofs.YtjbciamhhfcdoaaGreatDoor
namespace Go.Proofs.YtjbciamhhfcdoaaGreatDoor
open Go.RowKit Hs
set_option maxRecDepth 20000
set_option maxHeartbeats 8000000
theorem pP (l:Bs) (d:Int) (img:Bool) (c:CtxP) (hv:Value) (now:Int) (q q2:Option Addr) (T:List PinP) (L:List EntP) (u:UrlP) (w:World) (hB:Base6 w) (hl:l.length≤100000) (hTl:okT l) (hu:sI l=some u) (hw:ym u.host) (hb:tS u) (hT:okT (xd u)) (hw':ym (yd u).host) (hb':tS (yd u)) (hT':okT (xd (yd u))) (hS:Strs w hv c.hosts) (hvu:yR u=true) (ht:TL w q q2 T L) :
  Calls Tryz.prog 11 #[.agg (wT l d img).toArray,.agg (zZ c hv).toArray,.int .i64 now,.pointer q,.pointer q2] w fun e w'=>e= .returned (.tuple #[.agg (zP (if xO d=true then xK u d img c (uT now T L u.host) else ju)).toArray,.int .i64 (if xO d=true then 0 else 2)])∧Below w.heap.size w w':=by
 obtain ⟨z,hz⟩:=KZ6 w.heap.size;obtain ⟨W0,hW0⟩:=KZ6 (((w.alloc (.cells (wT l d img).toArray 38)).alloc (.cells (zZ c hv).toArray 41)).alloc (.cells #[.int .i64 0,.int .i64 0,.string ⟨#[]⟩] 34));have hbA:Below z w W0:=by rw [hW0,hz];exact (((Below.refl _ w).alloc (Nat.le_refl _) _).alloc (by simp) _).alloc (by simp;omega) _
 have hbA':Below w.heap.size w W0:=hz▸hbA;have b0:BlkL W0 z 38 (wT l d img):=by rw [hW0,hz];exact ((BlkL.new w _ _).alloc _).alloc _
 have b1:BlkL W0 (z+1) 41 (zZ c hv):=by
  rw [hW0,hz];have:=(BlkL.new (w.alloc (.cells (wT l d img).toArray 38)) 41 (zZ c hv)).alloc (.cells #[.int .i64 0,.int .i64 0,.string ⟨#[]⟩] 34);simp only [World.size_alloc] at this;exact this
 have b3:BlkL W0 (z+2) 34 (zP ⟨0,0,[]⟩):=by
  rw [hW0,hz];have:=BlkL.new ((w.alloc (.cells (wT l d img).toArray 38)).alloc (.cells (zZ c hv).toArray 41)) 34 (zP ⟨0,0,[]⟩);simp only [World.size_alloc] at this;exact this
 have HW0:=KZ9 hW0.symm;have hsz:W0.heap.size=z+3:=by rw [hW0,hz];simp
 have HI0:=KZ9 (zV hw.1);have HW8:=KZ9 hw;have HBA:=KZ9 hbA;have HZ:=KZ9 hz;have hz':=Nat.le_of_eq hz;have hB0:Base6 W0:=hB.below (hz▸hbA);have hpar:=Yn (mk l) W0 hB0.1 (by rw [zh];omega) (by rw [zj];exact hTl);rw [zj,hu] at hpar;have HPAR:=KZ9 hpar;have HFI:=KZ9 (fun (W1:World) (h1:Below W0.heap.size W0 W1)=>SI now q q2 T L u.host W1 (hB0.below h1).1 hw hb.2.2.1 (ht.below (hbA'.trans (h1.mono hbA'.size))));have HR:=KZ9 (fun (W1:World) (h1:Below W0.heap.size W0 W1)=>We u d img c hv (uT now T L u.host) W1 (hB0.below h1) hw hb hT hw' hb' hT' (hS.below (hbA'.trans (h1.mono hbA'.size))) hvu);obtain ⟨cv,hcv⟩:=KZ6 (uT now T L u.host);simp only [←hcv] at HFI HR ⊢;generalize (if xO d=true then xK u d img c cv else ju)=rv at *;obtain ⟨ce,hce⟩:∃ ce:Int,ce=(if xO d=true then 0 else 2):=⟨_,rfl⟩;simp only [←hce] at HR ⊢
 clear hW0 hbA hbA' hB hT hb hb' hT' hw' hz hB0 hvu hS hpar hTl hu ht hl hcv hce;have c0:=b0.c 0 _ rfl;go_enter Tryz.func11,Tryz.ntmps11
 go_upto_region 1 with fail
 rw [HW0.out,←HZ.out];clear HW0;rw [show z+1+1=z+2 from rfl];go_wp2_with fail
 all_goals try omega
 refine HPAR.out.mono ?_;rintro e w1 ⟨⟨u1,ec,rfl,hcase⟩,hb1⟩;obtain ⟨rfl,hue⟩:ec=0∧some u=some u1:=by
  rcases hcase with h | ⟨_,_,h⟩
  ·exact h
  cases h
 obtain rfl:u=u1:=by injection hue
 clear hcase hue HPAR;have hs1:=hb1.size;have B0:=KZ9 (b0.below (by omega) hb1);have B1:=KZ9 (b1.below (by omega) hb1);have B3:=KZ9 (b3.below (by omega) hb1);have HA1:=KZ9 (HBA.out.trans (hb1.mono (by omega)));have HN:=KZ9 (heap_alloc_new w1 (.cells (za zu).toArray 62));have HSZ0:=KZ9 (show (za zu).toArray.size=(za u).toArray.size by rw [List.size_toArray,List.size_toArray,xo HW8.out.1];rfl);have HW1:=KZ9 hb1;have hY:=(BlkL.new w1 62 (za zu)).setRow (za u);have c0':=(B0.out.alloc (.cells (za zu).toArray 62)).setRow_other (show z≠w1.heap.size by omega) (za u).toArray;have c1':=(B1.out.alloc (.cells (za zu).toArray 62)).setRow_other (show z+1≠w1.heap.size by omega) (za u).toArray;have c3':=(B3.out.alloc (.cells (za zu).toArray 62)).setRow_other (show z+2≠w1.heap.size by omega) (za u).toArray
 have hA2:=below_setRow (HA1.out.alloc (by omega) (.cells (za zu).toArray 62)) (show z≤w1.heap.size by omega) (za u).toArray;have hA2':=below_setRow (hb1.alloc hs1 (.cells (za zu).toArray 62)) hs1 (za u).toArray;obtain ⟨W2,hW2⟩:=KZ6 ((w1.alloc (.cells (za zu).toArray 62)).setRow w1.heap.size (za u).toArray);rw [←hW2] at hY c0' c1' c3' hA2 hA2';have hs2:W2.heap.size=w1.heap.size+1:=by rw [hW2];simp [World.setRow]
 have HW2:Hid ((w1.alloc (.cells #[.string ⟨#[]⟩,.string ⟨#[]⟩,.int .i64 0,.string ⟨#[]⟩,.int .u32 0,.int .u16 0,.int .u16 0,.int .u16 0,.int .u16 0,.int .u16 0,.int .u16 0,.int .u16 0,.int .u16 0,.int .i64 0,.string ⟨#[]⟩] 62)).setRow w1.heap.size (za u).toArray=W2):=KZ9 hW2.symm;have HY:=KZ9 hY;have HA2:=KZ9 hA2;have F1:=KZ9 (fun x:yg W2=>HFI.out x.1 (hA2'.trans (x.2.mono (by omega))));have F2:=KZ9 (fun x:yg W2=>HR.out x.1 (hA2'.trans (x.2.mono (by omega))));clear b0 b1 b3 HBA hb1 hW2 B0 B1 B3 HA1 hA2 hA2' HFI HR HW1;go_upto_region 2 with (refine wpList_store_row rfl 62 (.tmp 12) (.tmp 18) rfl w1.heap.size (za u).toArray rfl rfl 62 _ HN.out HI0.out HSZ0.out (ze (yk _)) ?_)
 all_goals try omega
 rw [HW2.out];clear HW2 HN;go_wp2
 all_goals try omega
 obtain ⟨sc,us,⟨kd,nm,va,v6⟩,pt,rs⟩:=u;obtain ⟨a0,a1,a2,a3,a4,a5,a6,a7,rfl⟩:=si HW8.out.1;clear HY;obtain ⟨q0,q1,q2,q3,q4,q5,q6,q7,q8,q9,q10,q11,q12,q13,q14⟩:=BlkL.fs15 (fun x:yg W2=>(hY.below (by omega) x.2));obtain ⟨r0,r1,r2⟩:=BlkL.fs3 (fun x:yg W2=>(c0'.below (by omega) x.2));obtain ⟨s0,s1,s2,s3,s4⟩:=BlkL.fs5 (fun x:yg W2=>(c1'.below (by omega) x.2));refine vY 15 W2 (by kernel_rfl) (by kernel_rfl) (Below.refl _ _) ?_;simp only [List.take_succ_cons,List.take_zero,List.drop_succ_cons,List.drop_zero];repeat (go_big_quiet_step (fail))
 go_big_quiet_step (exact Calls.later (F1.out _))
 repeat (go_big_quiet_step (fail))
 go_big_quiet_step (exact Calls.later (F2.out _))
 repeat (go_big_quiet_step (fail))
 refine wpQuiet_nil ?_;intro w5 hw';obtain ⟨⟨w6,hb6⟩,hw6⟩:=hw';have hb5:Below W2.heap.size W2 w5:=hw6▸hb6;clear hw6 hb6;have hs5:=hb5.size;have D3:=KZ9 (c3'.below (by omega) hb5);have HA5:=KZ9 (HA2.out.trans (hb5.mono (by omega)));clear q0 q1 q2 q3 q4 q5 q6 q7 q8 q9 q10 q11 q12 q13 q14 r0 r1 r2 s0 s1 s2 s3 s4 c0' c1' c3' hY F1 F2 hb5 HA2;go_wp2_with (refine wpList_store_row rfl 34 (.tmp 10) (.tmp 37) rfl (z+2) (zP rv).toArray rfl rfl 34 _ D3.out yE rfl (ze (jC _)) ?_)
 all_goals try omega
 refine bodyPost_ret (zf rfl _ _ (z+2) 34 _ _ rfl (D3.out.setRow (zP rv)) Tryz.underlying34 rfl yE) rfl ?_;exact ⟨rfl,HZ.out▸below_setRow HA5.out (by omega) _⟩
end Go.Proofs.YtjbciamhhfcdoaaGreatDoor
namespace Go.Proofs.YtjbciamhhfcdoaaGreatDoor
open Go.RowKit Go.Shelf Hs
attribute [local go_sem] Oper.semAt_some
def WX (vs:List Bs):List Bs × Int:=match se vs [] with | none=>([],3) | some N=>(N,0)
set_option maxRecDepth 100000
set_option maxHeartbeats 4000000
theorem Z3 (v:Value) (vs:List Bs) (w:World) (hv:Strs w v vs) (hl:vs.length≤1000) (hs:∀ x∈vs,x.length≤maxLen) :
  Calls Tryz.prog 46 #[v] w fun e w'=>∃ u,e= .returned (.tuple #[Qv (WX vs).1 u,.int .i64 (WX vs).2])∧w'.ownsRow w.heap.size 9 1 u (WX vs).1.length (zy (WX vs).1)∧Below w.heap.size w w':=by
 obtain ⟨iS0,iS⟩:=info_parts qY;obtain ⟨a,cap,rfl,hn,hm,hc⟩:=hv.open;unfold maxLen at hm;have HC:=KZ9 hc;have HS:=KZ9 hs;clear hc hs hv;have hmm:=@run_makeMap Tryz.prog;refine (callsIn_wide (n:=9)).1 ?_;refine callsIn_of_wp_marks Tryz.func46 rfl trivial ?_ rfl;simp only [Tryz.ntmps46,List.size_toArray,List.length_cons,List.length_nil,Nat.reduceAdd,Nat.reduceSub,Array.replicate_succ,Array.replicate_zero,List.push_toArray,List.append_toArray,List.nil_append,List.cons_append]
 gi_wp2
 obtain ⟨W4,hW4⟩:=KZ6 ((((w.alloc (.cells #[.bool false,.bool false,.slice none 0 0] 98)).alloc (.cells #[.bool false,.bool false,.slice none 0 0] 98)).alloc (.map #[] 0)).alloc (.cells #[.map (some (w.heap.size+1+1))] 128));have hcore:MCore w w.heap.size [] (.slice none 0 0) [] W4:=by
  rw [hW4];refine ⟨(((Blk3.new w _ _ _ _).alloc _).alloc _).alloc _,?_,World.ownsRow_nil _ _ _ _,?_,?_,(fun r h=>by cases h),((((Below.refl _ w).alloc (Nat.le_refl _) _).alloc (by simp) _).alloc (by simp;omega) _).alloc (by simp;omega) _⟩
  ·have:=((Blk3.new (w.alloc (.cells #[.bool false,.bool false,.slice none 0 0] 98)) 98 (.bool false) (.bool false) (.slice none 0 0)).alloc (.map #[] 0)).alloc (.cells #[.map (some (w.heap.size+1+1))] 128)
   rwa [World.size_alloc] at this
  ·have:=(World.ownsMap_made ((w.alloc (.cells #[.bool false,.bool false,.slice none 0 0] 98)).alloc (.cells #[.bool false,.bool false,.slice none 0 0] 98)) Tryz.prog 9 wP).alloc (.cells #[.map (some (w.heap.size+1+1))] 128);simp only [World.size_alloc] at this;exact this
  have:=Boxed.new (((w.alloc (.cells #[.bool false,.bool false,.slice none 0 0] 98)).alloc (.cells #[.bool false,.bool false,.slice none 0 0] 98)).alloc (.map #[] 0)) 128 (.map (some (w.heap.size+1+1)));simp only [World.size_alloc] at this;exact this
 rw [←hW4];clear hW4 hmm;obtain ⟨z,hz⟩:=KZ6 w.heap.size;simp only [←hz] at hcore ⊢;have hzz:=Nat.le_of_eq hz;have HZ:=KZ9 hz;clear hz;rw [show z+1+1+1=z+3 from rfl,show z+1+1=z+2 from rfl]
 refine wpIn_loop (fun a' W=>∃ (k:Nat) (ds:List Nat) (N:List Bs) (v:Value) (u6 u7 u8 u13 u14 u15 u16 u17 u18 u19 u20 u21 u22 u23 u24 u25 u26 u27 u28 u29 u30 u31 u32 u33 u34 u35:Value),a'={ tmps:=#[.slice a vs.length cap,undef,.pointer (some ⟨z,0,none⟩),.int .i64 0,.pointer (some ⟨z+1,0,none⟩),.pointer (some ⟨z+3,0,none⟩),u6,u7,u8,.map (some (z+2)),.slice a vs.length cap,.int .i64 (vs.length:Int),.int .i64 (k:Int),u13,u14,u15,u16,u17,u18,u19,u20,u21,u22,u23,u24,u25,u26,u27,u28,u29,u30,u31,u32,u33,u34,u35,undef,undef,undef,undef,undef,undef,undef,undef,undef],defers:=U6 ds }∧k≤vs.length∧MCore w z N v ds W∧ds.Nodup∧Hid (se vs []=se (vs.drop k) N)∧N.length≤20259001*k) (fun a' _=>vs.length - (intOf (a'.tmps.getD 12 undef)).toNat) ?_ ?_
 ·exact ⟨0,[],[],_,_,_,_,_,_,_,_,_,_,_,_,_,_,_,_,_,_,_,_,_,_,_,_,_,_,_,rfl,Nat.zero_le _,hcore,List.nodup_nil,rfl,by simp⟩
 rintro a' W ⟨k,ds,N,v,u6,u7,u8,u13,u14,u15,u16,u17,u18,u19,u20,u21,u22,u23,u24,u25,u26,u27,u28,u29,u30,u31,u32,u33,u34,u35,rfl,hk,hco,hnd,hmg,hNl⟩;have hWs:=hco.size;have hzW:z≤W.heap.size:=by omega
 by_cases hlt:k<vs.length
 ·obtain ⟨b,off,rfl,hb1,hcell⟩:=HC.out (by omega);have c0:=(hco.below.cell (p:=⟨b,off+k,none⟩) (by rw [HZ.out];exact hb1)).trans (hcell k hlt);have hsz:=HS.out vs[k] (List.getElem_mem hlt);have hdrop:=KZ9 (List.drop_eq_getElem_cons hlt);clear hcell;obtain ⟨x,hx⟩:=KZ6 (vs[k]);rw [←hx] at c0 hsz hdrop;clear hx;unfold maxLen at hsz;by_cases hlong:4096<x.length
  ·have hlong':(4096:Int)<(x.length:Int):=by omega
   have hfin:Hid (WX vs=([],3)):=KZ9 (by unfold WX;rw [hmg.out,hdrop.out,Wc _ _ _ hlong]);have p0:=hco.res.c0;have p1:=hco.res.c1;have p2:=hco.res.c2;have f0:=hco.res.f0;have f1:=hco.res.f1;have f2:=hco.res.f2;clear hmg hdrop hlong hsz
   gi_wp2
   have r3:=((hco.res.set0 (.bool false)).set1 (.bool false)).set2 (.slice none 0 0);have hbl:=((hco.below.setCell (p:=⟨z,0,none⟩) (Nat.le_refl _) (.bool false)).setCell (p:=⟨z,1,none⟩) (Nat.le_refl _) (.bool false)).setCell (p:=⟨z,2,none⟩) (Nat.le_refl _) (.slice none 0 0);refine yB ds _ (fun r hr=> ?_) hnd (fun W' hW'=> ?_)
   ·obtain ⟨h1,h2⟩:=hco.marks r hr;exact (Below.heap_setCell _ _ _ _ (by simp;omega)).trans ((Below.heap_setCell _ _ _ _ (by simp;omega)).trans ((Below.heap_setCell _ _ _ _ (by simp;omega)).trans h2))
   have hzd:z∉ds:=fun h=>by have:=(hco.marks z h).1;omega
   have r4:=(hW'.block z r3.lt hzd).trans r3;refine ⟨_,zf rfl _ _ z 98 _ _ rfl r4 Tryz.underlying98 rfl (by kernel_rfl),_,?_,by rw [hfin.out];exact World.ownsRow_nil _ _ _ _,?_⟩
   ·rw [hfin.out];rfl
   rw [←HZ.out];exact hbl.trans (Keeps.below (hW'.mono fun k hk hm=>by have:=(hco.marks k hm).1;omega) (by have:=hbl.size;have:=hco.below.size;omega))
  have hlong':((x.length:Int)≤4096):=by omega
  have hmg2:=KZ9 ((hmg.out.trans (congrArg (fun l=>se l N) hdrop.out)).trans (YM x (vs.drop (k+1)) N hlong));clear hmg hdrop
  gi_wp2
  refine ⟨trivial,?_⟩;refine (callsIn_wide.2 (Y5 (mk x) _)).mono ?_;rintro e w1 ⟨rfl,rfl⟩
  gi_wp2
  have hS5:(W.alloc (.cells #[.string (mk x)] 9)).heap.size=W.heap.size+1:=by simp
  have hB5:Below W.heap.size W (W.alloc (.cells #[.string (mk x)] 9)):=(Below.refl _ W).alloc (Nat.le_refl _) _;have hbox:=Boxed.new W 9 (.string (mk x));generalize W.alloc (.cells #[.string (mk x)] 9)=W5 at *;have hent:=fun (a:Act) ps asg bd=>tf (F:=Fence.wide) (P:=Tryz.prog) rfl W5 a ps asg bd;rw [hS5] at hent;have hxl:(wV x).length≤20259001:=gY x (by omega);have HXL:=KZ9 hxl;have HNL:=KZ9 hNl;clear hxl hNl hlong hsz;refine tC (w₁:=W5.alloc (.deferred (some []))) (L:=W.heap.size+2) (by omega) (by simp;omega) (hent _ _ _ _) (gf:=138) (lb:=#[.pointer (some ⟨W.heap.size,0,none⟩)]) rfl trivial (enters_of Tryz.func138 (by kernel_rfl) rfl)
   (Qk W.heap.size z (mk x) W5 hbox (by rw [zh];omega) (by omega)) ((Below.refl _ W5).alloc (Nat.le_refl _) _) (fun _=>rfl) (by omega) (by omega)
   (MInv w z N ((W.heap.size+1)::ds) (W.heap.size+2)) (fun _ _ _ _=>False) (fun _ _ _ _ _ h hg hr=>h.turn hzz hg hr) (fun _ _ _ _ h hg=>h.lay hzz hg) (fun _ _ _ _ _ _ h _ _=>h) (fun _ _ _ _ _ h _=>h) ?start
   (fun y a' W'=>a'={ tmps:=#[.slice (some ⟨b,off,none⟩) vs.length cap,undef,.pointer (some ⟨z,0,none⟩),.int .i64 0,.pointer (some ⟨z+1,0,none⟩),.pointer (some ⟨z+3,0,none⟩),u6,.string (mk x),.string (mk y),.map (some (z+2)),.slice (some ⟨b,off,none⟩) vs.length cap,.int .i64 (vs.length:Int),.int .i64 (k:Int),.bool true,.pointer (some ⟨b,off+k,none⟩),.string (mk x),.string (mk x),.int .i64 (x.length:Int),.bool (decide (4096<(x.length:Int))),u19,.string (mk x),.func (.func 138) #[] #[.pointer (some ⟨W.heap.size,0,none⟩)],.string (mk y),u23,u24,u25,u26,u27,u28,u29,u30,u31,u32,u33,u34,u35,undef,undef,undef,undef,undef,undef,undef,undef,undef],defers:=[] }) (fun _ _ _ _ _ h _ _=>h) ?assign ?body ?done ?stop
  case start =>
   intro o;have hg:W.grownBy ((W5.alloc (.deferred (some []))).alloc o) none:=yt ((hB5.alloc (by omega) _).alloc (by simp;omega) _);have hd:=World.alloc_heap_new W5 (.deferred (some []));rw [hS5] at hd;have hd2:((W5.alloc (.deferred (some []))).alloc o).heap[W.heap.size+1]? =some (.deferred (some [])):=(Below.heap_alloc _ o _ (by simp;omega)).trans hd;have hsz2:((W5.alloc (.deferred (some []))).alloc o).heap.size=W.heap.size+3:=by simp [hS5]
   refine ⟨v,(hco.kept hzz hg (fun r e=>by cases e)).mark hd2 (by omega),fun q hq=> ?_⟩;have hql:W.heap.size≤q∧q≠W.heap.size+1∧q<W.heap.size+3:=by rcases hq with rfl | rfl<;>omega
   refine ⟨by omega,by omega,fun hm=> ?_,fun e=>by have:=(hco.row.lt q e).2;omega⟩;rcases List.mem_cons.1 hm with e | hm
   ·exact hql.2.1 e
   have:=(Array.getElem?_eq_some_iff.1 (hco.marks q hm).2).1;omega
  case assign =>
   intro pre y G W' K hI hsp hK
   gi_wp2
   exact hK _ _ rfl (Keeps.refl _ _) hI rfl
  case body =>
   rintro pre y G a' Wb ⟨r0,hr0⟩ hI rfl ⟨post,hpost⟩;have hyl:y.length≤4096:=by
    have:=Ul (un (mk x)) y (by rw [←hpost];simp);rw [zj] at this;omega
   have hMl:(xm N pre).length≤20259001*1001:=by
    have h1:=sg pre N;have h2:=HXL.out;rw [zj] at hpost;rw [←hpost] at h2;simp only [List.length_append,List.length_cons,List.length_nil] at h2;have h3:=HNL.out;omega
   clear hpost;obtain ⟨vb,hcb,hkb⟩:=id hI;obtain ⟨ao,co,rfl⟩:=ut hcb.row;have eb:=hcb.box.cell;obtain ⟨M,hM⟩:=KZ6 (xm N pre);rw [←hM] at hcb hMl;have hMy:=KZ9 hMl;by_cases hy:y∈M
   ·have hdec:Hid (decide (y∈M)=true):=KZ9 (KZ7 hy);have hfin:=hI.known (x:=y) (by rw [←hM];exact hy);clear hy hM hMl
    gi_wp2_with (gi_at_lookup;refine vZ rfl _ _ rfl (z+2) M.length M rfl hcb.seen y rfl (by unfold maxLen;omega) true hdec.out ?_)
    exact (show _∧_∧_ from ⟨rfl,Keeps.refl _ _,hfin⟩)
   have hdec:Hid (decide (y∈M)=false):=KZ9 (KZ8 hy);have hnot:Hid (y∉xm N pre):=KZ9 (by rw [←hM];exact hy);have HM:=KZ9 hM;clear hy hM hMl
   gi_wp2_with (first
    | (gi_at_lookup;refine vZ rfl _ _ rfl (z+2) M.length M rfl hcb.seen y rfl (by unfold maxLen;omega) false hdec.out ?_)
    | (gi_at_mapUpdate;refine gP _ rfl _ _ _ rfl (z+2) M.length M rfl hcb.seen (by have:=hMy.out;unfold maxLen;omega) y rfl rfl (by unfold maxLen;omega) ?_;intro w5 hm5 hgm5;have q5:=(hcb.out.grown hgm5 (by simp)).c2;have q5':=((hcb.out.grown hgm5 (by simp)).alloc (.cells #[.string (mk y)] 9)).c2;have ho5:=hcb.row.kept hgm5 (wZ fun k e=>by cases e;exact hcb.not_low.2.2.1);have hs5:z≤w5.heap.size:=by have:=hgm5.size;have:=hcb.size;omega)
    | (gi_at_builtin;refine rW _ rfl (.tmp 30) (.tmp 32) 39 rfl z 9 iS0 (.string ByteArray.empty) 1 16 Tryz.underlying39 iS.1 iS.2.1 iS.2.2.1 iS.2.2.2 rfl (by decide) _ _ _ rfl (ho5.alloc _) ⟨w5.heap.size,0,none⟩ 1 1 [.string (mk y)] rfl rfl (cell_one_new _ _ _) (by intro u hu;simp at hu;subst hu;rfl) (by have:=hMy.out;unfold maxLen;omega) (by have:=hMy.out;omega) (by simp;omega) (by omega) ?_;intro g cap6 w6 hown6 hgrow6 hat6;have hout6:=((hcb.out.grown hgm5 (by simp)).alloc (.cells #[.string (mk y)] 9)).grown hgrow6 (fun e=>hcb.not_low.2.1 e.symm);have q6:=hout6.c2;have f6:=hout6.f2))
   exact MInv.addedM HM.out hI hzz hcb.out hnot.out hm5 hgm5 hown6 hgrow6 hat6
  case done =>
   rintro xs G W' rfl ⟨v',hc',hk'⟩;rw [zj] at hc'
   gi_wp2
   refine ⟨⟨k+1,(W.heap.size+1)::ds,xm N (wV x),v',_,_,_,_,_,_,_,_,_,_,_,_,_,_,_,_,_,_,_,_,_,_,_,_,_,_,rfl,by omega,hc',?_,hmg2,?_⟩,?_⟩
   ·rw [List.nodup_cons];exact ⟨fun hm=>by have:=(Array.getElem?_eq_some_iff.1 (hco.marks _ hm).2).1;omega,hnd⟩
   ·have h1:=sg (wV x) N;have h2:=HXL.out;have h3:=HNL.out;omega
   simp [intOf];omega
  case stop =>
   rintro c pre G W' _ h;exact h.elim
 obtain rfl:k=vs.length:=by omega
 have hfin:Hid (WX vs=(N,0)):=KZ9 (by unfold WX;rw [hmg.out,List.drop_length,V3]);clear hmg;obtain ⟨ao,co,rfl⟩:=ut hco.row;have hstr:Strs W (.slice ao N.length co) N:=Row.owned hco.row;obtain ⟨b1,hb1⟩:=KZ6 (decide (un upB∈N));obtain ⟨b2,hb2⟩:=KZ6 (decide (un blB∈N));have o0:=hco.out;have o1:=o0.set0 (.bool b1);have o2:=o1.set1 (.bool b2);have r0:=hco.res;have r1:=r0.other (p:=z+1) (by omega) 0 (.bool b1);have r2:=r1.other (p:=z+1) (by omega) 1 (.bool b2);have hrow1:=hco.row.kept (xx W (z+1) 0 (.bool b1)) (wZ fun k e=>by cases e;exact hco.not_low.2.1);have hstr1:Strs _ (.slice ao N.length co) N:=Row.owned hrow1;have con1:=tz _ N upB W hstr;have con2:=tz _ N blB _ hstr1;rw [←hb1] at con1;rw [←hb2] at con2;have CON1:=KZ9 con1;have CON2:=KZ9 con2;have HB1:=KZ9 hb1;have HB2:=KZ9 hb2
 have A0:=o0.c0;have A1:=o0.c1;have A2:=o0.c2;have B0:=o0.f0;have B1:=o1.f1;have A20:=o1.c2;have A11:=o1.c1;have A3:=o2.c0;have A4:=o2.c1;have A5:=o2.c2;have P0:=r2.c0;have P1:=r2.c1;have P2:=r2.c2;have Q0:=r2.f0;have Q1:=r2.f1;have Q2:=r2.f2;clear con1 con2 hb1 hb2 hstr hstr1
 gi_wp2
 refine ⟨trivial,?_⟩;refine (callsIn_wide.2 CON1.out).mono ?_;rintro e w' ⟨rfl,rfl⟩
 gi_wp2
 refine ⟨trivial,?_⟩;refine (callsIn_wide.2 CON2.out).mono ?_;rintro e w' ⟨rfl,rfl⟩
 gi_wp2
 have r5:=((r2.set0 (.bool b1)).set1 (.bool b2)).set2 (.slice ao N.length co);have nlow:=hco.not_low;have hrow2:=hrow1.kept (xx _ (z+1) 1 (.bool b2)) (wZ fun k e=>by cases e;exact nlow.2.1);have hrow5:=((hrow2.kept (xx _ z 0 (.bool b1)) (wZ fun k e=>by cases e;exact nlow.1)).kept (xx _ z 1 (.bool b2)) (wZ fun k e=>by cases e;exact nlow.1)).kept (xx _ z 2 (.slice ao N.length co)) (wZ fun k e=>by cases e;exact nlow.1);have hbl:=((((hco.below.setCell (p:=⟨z+1,0,none⟩) (by simp) (.bool b1)).setCell (p:=⟨z+1,1,none⟩) (by simp) (.bool b2)).setCell (p:=⟨z,0,none⟩) (Nat.le_refl _) (.bool b1)).setCell (p:=⟨z,1,none⟩) (Nat.le_refl _) (.bool b2)).setCell (p:=⟨z,2,none⟩) (Nat.le_refl _) (.slice ao N.length co);have nm:=hco.not_mark;refine yB ds _ (fun r hr=> ?_) hnd (fun W' hW'=> ?_)
 ·obtain ⟨h1,h2⟩:=hco.marks r hr;exact (Below.heap_setCell _ _ _ _ (by simp;omega)).trans ((Below.heap_setCell _ _ _ _ (by simp;omega)).trans ((Below.heap_setCell _ _ _ _ (by simp;omega)).trans ((Below.heap_setCell _ _ _ _ (by simp;omega)).trans ((Below.heap_setCell _ _ _ _ (by simp;omega)).trans h2))))
 have hzd:z∉ds:=fun h=>by have:=(hco.marks z h).1;omega
 have r6:=(hW'.block z r5.lt hzd).trans r5;refine ⟨_,zf rfl _ _ z 98 _ _ rfl r6 Tryz.underlying98 rfl (by kernel_rfl),.slice ao N.length co,?_,?_,?_⟩
 ·rw [hfin.out];unfold Qv;rw [←HB1.out,←HB2.out];rfl
 ·rw [hfin.out,←HZ.out];exact Sd hrow5 hW' (fun k e hm=>nm k hm e)
 rw [←HZ.out];exact hbl.trans (Keeps.below (hW'.mono fun k hk hm=>by have:=(hco.marks k hm).1;omega) (by have:=hbl.size;have:=hco.below.size;omega))
end Go.Proofs.YtjbciamhhfcdoaaGreatDoor
namespace Hs
open Go
def bB:Bs:=[98,46,99,111,109]
def rR:Bs:=[104,116,116,112,115,58,47,47,98,46,99,111,109,47]
theorem V1:zJ bB=true:=by decide
theorem SY:sI rR=some (yM zG bB):=by
 unfold sI;rw [if_neg (by decide)];exact tZ zG V1 (by decide) (by decide) (by decide) (by decide)
theorem Vr:yv (yM zG bB)=true:=by
 unfold yv;rw [jj V1];rfl
theorem XV:okT rR:=by unfold okT;decide
theorem TI:xd (yM zG bB)=rR:=rt zG V1 (by decide)
end Hs
namespace Go.Proofs.YtjbciamhhfcdoaaGreatDoor
open Go.RowKit Hs
theorem pT (s n:Bs):ym (yM s n).host:=⟨rfl,(by decide:∀ x∈xj,x<65536),(by decide:(0:Nat)<4294967296)⟩
theorem gy (s n:Bs) (hs:s.length≤20000) (hn:n.length≤20000):tS (yM s n):=⟨hs,by simp [yM],hn,by simp [yM],.inl rfl⟩
theorem PV (w:World):Calls Tryz.prog 46 #[.slice none 0 0] w fun e w'=>∃ a c,e= .returned (.tuple #[.agg #[.bool false,.bool false,.slice a 0 c],.int .i64 0])∧Below w.heap.size w w':=by
 refine (Z3 (.slice none 0 0) [] w ⟨rfl,none,0,rfl,Nat.le_refl _,by simp [maxLen],.inl rfl⟩ (by simp) (by simp)).mono ?_;rintro e w' ⟨u,rfl,ho,hb⟩;obtain ⟨a,c,rfl⟩:=ut ho;exact ⟨a,c,rfl,hb⟩
set_option maxRecDepth 20000
set_option maxHeartbeats 8000000
theorem PY (g cap:Nat) (w:World) (hB:Base6 w) (h0:w.cell? ⟨g,0,none⟩=some (.string (mk rR))) (h1:w.cell? ⟨g,1,none⟩=some (.slice none 0 0)) (hg:g<w.heap.size) :
  Calls Tryz.prog 18 #[.slice (some ⟨g,0,none⟩) 1 cap] w fun e w'=>e= .returned (.tuple #[.agg (zZ ⟨true,true,false,false,[]⟩ (.slice none 0 0)).toArray,.int .i64 0])∧Below w.heap.size w w':=by
 obtain ⟨z,hz⟩:=KZ6 w.heap.size;obtain ⟨W0,hW0⟩:=KZ6 (((w.alloc (.cells #[.bool false,.bool false,.bool false,.bool false,.slice none 0 0] 41)).alloc (.cells #[.bool true,.bool false,.bool false,.bool false,.slice none 0 0] 41)).alloc (.cells #[.string (mk rR),.slice none 0 0] 76));have hbA:Below z w W0:=by rw [hW0,hz];exact (((Below.refl _ w).alloc (Nat.le_refl _) _).alloc (by simp) _).alloc (by simp;omega) _
 have hbA':Below w.heap.size w W0:=hz▸hbA;have b0:BlkL W0 z 41 [.bool false,.bool false,.bool false,.bool false,.slice none 0 0]:=by rw [hW0,hz];exact ((BlkL.new w _ [.bool false,.bool false,.bool false,.bool false,.slice none 0 0]).alloc _).alloc _
 have b1:BlkL W0 (z+1) 41 [.bool true,.bool false,.bool false,.bool false,.slice none 0 0]:=by
  rw [hW0,hz];have:=(BlkL.new (w.alloc (.cells #[.bool false,.bool false,.bool false,.bool false,.slice none 0 0] 41)) 41 [.bool true,.bool false,.bool false,.bool false,.slice none 0 0]).alloc (.cells #[.string (mk rR),.slice none 0 0] 76);simp only [World.size_alloc] at this;exact this
 have b2:BlkL W0 (z+2) 76 [.string (mk rR),.slice none 0 0]:=by
  rw [hW0,hz];have:=BlkL.new ((w.alloc (.cells #[.bool false,.bool false,.bool false,.bool false,.slice none 0 0] 41)).alloc (.cells #[.bool true,.bool false,.bool false,.bool false,.slice none 0 0] 41)) 76 [.string (mk rR),.slice none 0 0];simp only [World.size_alloc] at this;exact this
 have HW0:=KZ9 hW0.symm;have hsz:W0.heap.size=z+3:=by rw [hW0,hz];simp
 have HBA:=KZ9 hbA;have HZ:=KZ9 hz;have hB0:Base6 W0:=hB.below hbA';have hpar:=Yn (mk rR) W0 hB0.1 (by rw [zh];simp [rR]) (by rw [zj];exact XV);rw [zj,SY] at hpar;have HPAR:=KZ9 hpar;have HI0:=KZ9 (zV (u:=yM zG bB) (pT _ _).1);have HSZ0:=KZ9 (show (za zu).toArray.size=(za (yM zG bB)).toArray.size from rfl);have OT:=KZ9 (fun (W1:World) (h1:Below W0.heap.size W0 W1)=>YI (yM zG bB) W1 (hB0.below h1) (pT _ _) (gy _ _ (by simp [zG]) (by simp [bB])) (by rw [TI];exact XV));rw [Vr] at OT;have HSP:=KZ9 (fun W=>tB (mk zG) W);rw [zj,show decide (0<zv zG)=true from rfl] at HSP;have HCN:=KZ9 PV;have HSO:=KZ9 Tryz.slices_Sort_string_none;have HCO:=KZ9 Tryz.slices_Compact_string_empty;clear hW0 hbA hbA' hB hB0 hpar hz;go_enter Tryz.func18,Tryz.ntmps18
 go_wp2_with fail
 refine wp_loop_rounds 2 ?_;rw [rounds_succ];go_wp2_with fail
 all_goals try omega
 rw [HW0.out,←HZ.out];clear HW0;rw [show z+1+1=z+2 from rfl];refine HPAR.out.mono ?_;rintro e w1 ⟨⟨u1,ec,rfl,hcase⟩,hb1⟩;obtain ⟨rfl,hue⟩:ec=0∧some (yM zG bB)=some u1:=by
  rcases hcase with h | ⟨_,_,h⟩
  ·exact h
  cases h
 obtain rfl:yM zG bB=u1:=by injection hue
 clear hcase hue HPAR;have hs1:=hb1.size;have B0:=KZ9 (b0.below (by omega) hb1);have B1:=KZ9 (b1.below (by omega) hb1);have B2:=KZ9 (b2.below (by omega) hb1);have HA1:=KZ9 (HBA.out.trans (hb1.mono (by omega)));have HN:=KZ9 (heap_alloc_new w1 (.cells (za zu).toArray 62));have hY:=(BlkL.new w1 62 (za zu)).setRow (za (yM zG bB));have c0':=(B0.out.alloc (.cells (za zu).toArray 62)).setRow_other (show z≠w1.heap.size by omega) (za (yM zG bB)).toArray;have c1':=(B1.out.alloc (.cells (za zu).toArray 62)).setRow_other (show z+1≠w1.heap.size by omega) (za (yM zG bB)).toArray;have c2':=(B2.out.alloc (.cells (za zu).toArray 62)).setRow_other (show z+2≠w1.heap.size by omega) (za (yM zG bB)).toArray;have hA2:=below_setRow (HA1.out.alloc (by omega) (.cells (za zu).toArray 62)) (show z≤w1.heap.size by omega) (za (yM zG bB)).toArray
 have hA2':=below_setRow (hb1.alloc hs1 (.cells (za zu).toArray 62)) hs1 (za (yM zG bB)).toArray;obtain ⟨W2,hW2⟩:=KZ6 ((w1.alloc (.cells (za zu).toArray 62)).setRow w1.heap.size (za (yM zG bB)).toArray);rw [←hW2] at hY c0' c1' c2' hA2 hA2';have hs2:W2.heap.size=w1.heap.size+1:=by rw [hW2];simp [World.setRow]
 have HW2:Hid ((w1.alloc (.cells #[.string ⟨#[]⟩,.string ⟨#[]⟩,.int .i64 0,.string ⟨#[]⟩,.int .u32 0,.int .u16 0,.int .u16 0,.int .u16 0,.int .u16 0,.int .u16 0,.int .u16 0,.int .u16 0,.int .u16 0,.int .i64 0,.string ⟨#[]⟩] 62)).setRow w1.heap.size (za (yM zG bB)).toArray=W2):=KZ9 hW2.symm;have HY:=KZ9 hY;have C0:=KZ9 c0';have C1:=KZ9 c1';have HA2:=KZ9 hA2;have HA2':=KZ9 hA2';have f1:=c2'.c 1 _ rfl;clear b0 b1 b2 HBA hb1 hW2 B0 B1 B2 HA1 hA2 hA2' hY c0' c1' c2';go_upto_region 9 with (refine wpList_store_row rfl 62 (.tmp 8) (.tmp 31) rfl w1.heap.size (za (yM zG bB)).toArray rfl rfl 62 _ HN.out HI0.out HSZ0.out (ze (yk _)) ?_)
 all_goals try omega
 rw [HW2.out];clear HW2 HN;go_wp2_with fail
 all_goals try omega
 refine (HCN.out _).mono ?_;rintro e w3 ⟨xa,xc,rfl,hb3⟩;have hs3:=hb3.size;have hY3:=HY.out.below (by omega) hb3;have C0b:=C0.out.below (by omega) hb3;have C1b:=C1.out.below (by omega) hb3;have HA3:=KZ9 (HA2.out.trans (hb3.mono (by omega)));have HA3':=KZ9 (HA2'.out.trans (hb3.mono (by omega)));clear hb3 HY C0 C1 HA2 HA2' f1;have e4:((mk zG).toList==([97,98,111,117,116]:Bs))=false:=by rw [toList_mk'];decide
 have y0:=(hY3.alloc (.cells #[.bool false,.bool false,.slice xa 0 xc] 98)).c 0 _ (show (za (yM zG bB))[0]? =some (.string (mk zG)) from rfl);have y1:=(hY3.alloc (.cells #[.bool false,.bool false,.slice xa 0 xc] 98)).c 1 _ (show (za (yM zG bB))[1]? =some (.string (mk [])) from rfl);have y2:=(hY3.alloc (.cells #[.bool false,.bool false,.slice xa 0 xc] 98)).c 2 _ (show (za (yM zG bB))[2]? =some (.int .i64 ((1:Nat):Int)) from rfl);have y3:=(hY3.alloc (.cells #[.bool false,.bool false,.slice xa 0 xc] 98)).c 3 _ (show (za (yM zG bB))[3]? =some (.string (mk bB)) from rfl);have y4:=(hY3.alloc (.cells #[.bool false,.bool false,.slice xa 0 xc] 98)).c 4 _ (show (za (yM zG bB))[4]? =some (.int .u32 ((0:Nat):Int)) from rfl);have y5:=(hY3.alloc (.cells #[.bool false,.bool false,.slice xa 0 xc] 98)).c 5 _ (show (za (yM zG bB))[5]? =some (.int .u16 ((0:Nat):Int)) from rfl)
 have y6:=(hY3.alloc (.cells #[.bool false,.bool false,.slice xa 0 xc] 98)).c 6 _ (show (za (yM zG bB))[6]? =some (.int .u16 ((0:Nat):Int)) from rfl);have y7:=(hY3.alloc (.cells #[.bool false,.bool false,.slice xa 0 xc] 98)).c 7 _ (show (za (yM zG bB))[7]? =some (.int .u16 ((0:Nat):Int)) from rfl);have y8:=(hY3.alloc (.cells #[.bool false,.bool false,.slice xa 0 xc] 98)).c 8 _ (show (za (yM zG bB))[8]? =some (.int .u16 ((0:Nat):Int)) from rfl);have y9:=(hY3.alloc (.cells #[.bool false,.bool false,.slice xa 0 xc] 98)).c 9 _ (show (za (yM zG bB))[9]? =some (.int .u16 ((0:Nat):Int)) from rfl);have y10:=(hY3.alloc (.cells #[.bool false,.bool false,.slice xa 0 xc] 98)).c 10 _ (show (za (yM zG bB))[10]? =some (.int .u16 ((0:Nat):Int)) from rfl)
 have y11:=(hY3.alloc (.cells #[.bool false,.bool false,.slice xa 0 xc] 98)).c 11 _ (show (za (yM zG bB))[11]? =some (.int .u16 ((0:Nat):Int)) from rfl);have y12:=(hY3.alloc (.cells #[.bool false,.bool false,.slice xa 0 xc] 98)).c 12 _ (show (za (yM zG bB))[12]? =some (.int .u16 ((0:Nat):Int)) from rfl);have y13:=(hY3.alloc (.cells #[.bool false,.bool false,.slice xa 0 xc] 98)).c 13 _ (show (za (yM zG bB))[13]? =some (.int .i64 (-1)) from rfl);have y14:=(hY3.alloc (.cells #[.bool false,.bool false,.slice xa 0 xc] 98)).c 14 _ (show (za (yM zG bB))[14]? =some (.string (mk [47])) from rfl);have HY4:=KZ9 (hY3.alloc (.cells #[.bool false,.bool false,.slice xa 0 xc] 98));have C0c:=KZ9 (C0b.alloc (.cells #[.bool false,.bool false,.slice xa 0 xc] 98));have C1c:=KZ9 (C1b.alloc (.cells #[.bool false,.bool false,.slice xa 0 xc] 98))
 have HN4:=KZ9 (BlkL.new w3 98 [.bool false,.bool false,.slice xa 0 xc]);have HA4:=KZ9 (HA3.out.alloc (by omega) (.cells #[.bool false,.bool false,.slice xa 0 xc] 98));have HA4':=KZ9 (HA3'.out.alloc (by omega) (.cells #[.bool false,.bool false,.slice xa 0 xc] 98));have HOT4:=KZ9 (OT.out _ HA4'.out);have hs4:(w3.alloc (.cells #[.bool false,.bool false,.slice xa 0 xc] 98)).heap.size=w3.heap.size+1:=by simp
 clear hY3 C0b C1b OT HA3 HA3';go_wp2_with fail
 all_goals try omega
 refine (HSP.out _).mono ?_;rintro e w4 ⟨rfl,rfl⟩;go_wp2_with fail
 all_goals try omega
 refine HOT4.out.mono ?_;rintro e w5 ⟨rfl,hb5⟩;have hs5:=hb5.size;have N5:=HN4.out.below (by omega) hb5;have HD0:=KZ9 (C0c.out.below (by omega) hb5);have D1:=C1c.out.below (by omega) hb5;have HD1:=KZ9 D1;have HA5:=KZ9 (HA4.out.trans (hb5.mono (by omega)));clear hb5 HOT4 HY4 C0c C1c HN4 HA4 HA4' y0 y1 y2 y3 y4 y5 y6 y7 y8 y9 y10 y11 y12 y13 y14;obtain ⟨k0,k1,k2,k3,k4⟩:=BlkL.cs5 D1;have m0:=D1.f 0;have m1:=D1.f 1;have m2:=D1.f 2;have m3:=D1.f 3;have m4:=D1.f 4;have n0:=N5.c 0 _ rfl;have n1:=N5.c 1 _ rfl;clear D1 N5;go_wp2_with fail
 all_goals try omega
 have hv1:BlkL ((((w5.setCell ⟨z+1,0,none⟩ (.bool true)).setCell ⟨z+1,1,none⟩ (.bool true)).setCell ⟨z+1,2,none⟩ (.bool false)).setCell ⟨z+1,3,none⟩ (.bool false)) (z+1) 41 [.bool true,.bool true,.bool false,.bool false,.slice none 0 0]:=(((HD1.out.set 0 (by simp) (.bool true)).set 1 (by simp) (.bool true)).set 2 (by simp) (.bool false)).set 3 (by simp) (.bool false);have hv0:BlkL ((((w5.setCell ⟨z+1,0,none⟩ (.bool true)).setCell ⟨z+1,1,none⟩ (.bool true)).setCell ⟨z+1,2,none⟩ (.bool false)).setCell ⟨z+1,3,none⟩ (.bool false)) z 41 [.bool false,.bool false,.bool false,.bool false,.slice none 0 0]:=(((HD0.out.other (by omega) _ _).other (by omega) _ _).other (by omega) _ _).other (by omega) _ _
 have hvA:Below z w ((((w5.setCell ⟨z+1,0,none⟩ (.bool true)).setCell ⟨z+1,1,none⟩ (.bool true)).setCell ⟨z+1,2,none⟩ (.bool false)).setCell ⟨z+1,3,none⟩ (.bool false)):=(((HA5.out.trans (zB _ _ _ _ (by omega))).trans (zB _ _ _ _ (by omega))).trans (zB _ _ _ _ (by omega))).trans (zB _ _ _ _ (by omega));have HV0:=KZ9 hv0;have HVA:=KZ9 hvA;clear hv0 hvA HD0 HD1 HA5 k0 k1 k2 k3 k4 m0 m1 m2 m3 m4 n0 n1;generalize (((w5.setCell ⟨z+1,0,none⟩ (.bool true)).setCell ⟨z+1,1,none⟩ (.bool true)).setCell ⟨z+1,2,none⟩ (.bool false)).setCell ⟨z+1,3,none⟩ (.bool false)=V4 at *;obtain ⟨k0,k1,k2,k3,k4⟩:=BlkL.cs5 hv1;have m4:=hv1.f 4;obtain ⟨o0,o1,o2,o3,o4⟩:=BlkL.cs5 HV0.out;have p0:=HV0.out.f 0;have p1:=HV0.out.f 1;have p2:=HV0.out.f 2;have p3:=HV0.out.f 3;have p4:=HV0.out.f 4;have HV1:=KZ9 hv1;clear hv1;rw [rounds_succ];go_wp2_with fail
 all_goals try omega
 refine (HSO.out _ _ _).mono ?_;rintro e w6 ⟨rfl,rfl⟩;go_wp2_with fail
 all_goals try omega
 refine (HCO.out _ _ _).mono ?_;rintro e w6 ⟨rfl,rfl⟩;go_wp2_with fail
 all_goals try omega
 have hr:=(((((HV0.out.other (show z≠z+1 by omega) 4 (.slice none 0 0)).set 0 (by simp) (.bool true)).set 1 (by simp) (.bool true)).set 2 (by simp) (.bool false)).set 3 (by simp) (.bool false)).set 4 (by simp) (.slice none 0 0);have hra:=(((((HVA.out.trans (zB _ (z+1) 4 (.slice none 0 0) (by omega))).trans (zB _ z 0 (.bool true) (Nat.le_refl _))).trans (zB _ z 1 (.bool true) (Nat.le_refl _))).trans (zB _ z 2 (.bool false) (Nat.le_refl _))).trans (zB _ z 3 (.bool false) (Nat.le_refl _))).trans (zB _ z 4 (.slice none 0 0) (Nat.le_refl _));refine bodyPost_ret (zf rfl _ _ z 41 _ _ rfl hr Tryz.underlying41 rfl wS) rfl ?_;exact ⟨rfl,HZ.out▸hra⟩
end Go.Proofs.YtjbciamhhfcdoaaGreatDoor
namespace Hs
open Go
def bA:Bs:=[97,46,99,111,109]
def UE:Bs:=[104,116,116,112,58,47,47,97,46,99,111,109,47]
def Yc:Bs:=[104,116,116,112,115,58,47,47,97,46,99,111,109,47]
theorem qf:zJ bA=true:=by decide
theorem UJ:sI UE=some (yM yQ bA):=by
 unfold sI;rw [if_neg (by decide)];exact tZ yQ qf (by decide) (by decide) (by decide) (by decide)
theorem jx:okT UE:=by unfold okT;decide
theorem XW:okT Yc:=by unfold okT;decide
theorem Xo:xd (yM yQ bA)=UE:=rt yQ qf (by decide)
theorem pu:xd (yM zG bA)=Yc:=rt zG qf (by decide)
theorem Zh:yv (yM yQ bA)=false:=by
 unfold yv;rw [qn qf]
 decide
theorem Wx:yW (yM zG bA)=Yc:=by
 unfold yW;rw [if_pos (jj qf),pu]
theorem Tr:uT 0 [] [] (yM yQ bA).host=cov0:=by decide
theorem Rh:xK (yM yQ bA) 9 false ⟨true,true,false,false,[]⟩ (uT 0 [] [] (yM yQ bA).host)=⟨2,4,Yc⟩:=by
 rw [Tr];unfold xK;rw [if_neg (by decide),Zh,if_neg (by decide),if_neg (by decide),if_neg (by decide),if_pos (by decide),rX,Wx]
theorem Xw:xK (yM yQ bA) 15 false ⟨true,true,false,false,[]⟩ (uT 0 [] [] (yM yQ bA).host)=⟨3,5,[]⟩:=by
 rw [Tr];unfold xK;rw [if_neg (by decide),Zh,if_neg (by decide),if_neg (by decide),if_neg (by decide),if_neg (by decide)]
end Hs
namespace Go.Proofs.YtjbciamhhfcdoaaGreatDoor
open Go.RowKit Hs
def SH:CtxP:=⟨true,true,false,false,[]⟩
theorem PO (w:World) (hB:Base6 w):Calls Tryz.prog 11 #[.agg (wT UE 9 false).toArray,.agg (zZ SH (.slice none 0 0)).toArray,.int .i64 0,.pointer none,.pointer none] w fun e w'=>e= .returned (.tuple #[.agg (zP ⟨2,4,Yc⟩).toArray,.int .i64 0])∧Below w.heap.size w w':=by
 have h:=pP UE 9 false SH (.slice none 0 0) 0 none none [] [] (yM yQ bA) w hB (by decide) jx UJ (pT _ _) (gy _ _ (by decide) (by decide)) (by rw [Xo];exact jx) (by rw [rX];exact pT _ _) (by rw [rX];exact gy _ _ (by decide) (by decide)) (by rw [rX,pu];exact XW) (Row.nil _ _) (qn qf) ⟨.inl ⟨rfl,rfl⟩,.inl ⟨rfl,rfl⟩⟩;rw [if_pos (by decide),if_pos (by decide)] at h;rw [show xK (yM yQ bA) 9 false SH (uT 0 [] [] (yM yQ bA).host)=⟨2,4,Yc⟩ from Rh] at h;exact h
theorem Ut (w:World) (hB:Base6 w):Calls Tryz.prog 11 #[.agg (wT UE 15 false).toArray,.agg (zZ SH (.slice none 0 0)).toArray,.int .i64 0,.pointer none,.pointer none] w fun e w'=>e= .returned (.tuple #[.agg (zP ⟨3,5,[]⟩).toArray,.int .i64 0])∧Below w.heap.size w w':=by
 have h:=pP UE 15 false SH (.slice none 0 0) 0 none none [] [] (yM yQ bA) w hB (by decide) jx UJ (pT _ _) (gy _ _ (by decide) (by decide)) (by rw [Xo];exact jx) (by rw [rX];exact pT _ _) (by rw [rX];exact gy _ _ (by decide) (by decide)) (by rw [rX,pu];exact XW) (Row.nil _ _) (qn qf) ⟨.inl ⟨rfl,rfl⟩,.inl ⟨rfl,rfl⟩⟩;rw [if_pos (by decide),if_pos (by decide)] at h;rw [show xK (yM yQ bA) 15 false SH (uT 0 [] [] (yM yQ bA).host)=⟨3,5,[]⟩ from Xw] at h;exact h
theorem Qn (w:World) (hB:Base6 w):Calls Tryz.prog 11 #[.agg #[.string ⟨#[104,116,116,112,58,47,47,97,46,99,111,109,47]⟩,.int .i64 9,.bool false],.agg #[.bool true,.bool true,.bool false,.bool false,.slice none 0 0],.int .i64 0,.pointer none,.pointer none] w fun e w'=>e= .returned (.tuple #[.agg #[.int .i64 2,.int .i64 4,.string ⟨#[104,116,116,112,115,58,47,47,97,46,99,111,109,47]⟩],.int .i64 0])∧Below w.heap.size w w':=PO w hB
theorem WQ (w:World) (hB:Base6 w):Calls Tryz.prog 11 #[.agg #[.string ⟨#[104,116,116,112,58,47,47,97,46,99,111,109,47]⟩,.int .i64 15,.bool false],.agg #[.bool true,.bool true,.bool false,.bool false,.slice none 0 0],.int .i64 0,.pointer none,.pointer none] w fun e w'=>e= .returned (.tuple #[.agg #[.int .i64 3,.int .i64 5,.string ⟨#[]⟩],.int .i64 0])∧Below w.heap.size w w':=Ut w hB
theorem QJ (g cap:Nat) (w:World) (hB:Base6 w) (h0:w.cell? ⟨g,0,none⟩=some (.string ⟨#[104,116,116,112,115,58,47,47,98,46,99,111,109,47]⟩)) (h1:w.cell? ⟨g,1,none⟩=some (.slice none 0 0)) (hg:g<w.heap.size) :
  Calls Tryz.prog 18 #[.slice (some ⟨g,0,none⟩) 1 cap] w fun e w'=>e= .returned (.tuple #[.agg #[.bool true,.bool true,.bool false,.bool false,.slice none 0 0],.int .i64 0])∧Below w.heap.size w w':=PY g cap w hB h0 h1 hg
set_option maxRecDepth 20000
set_option maxHeartbeats 8000000
theorem qy (w:World) (hB:Base6 w):Calls Tryz.prog 8 #[] w fun e w'=>e= .returned (.bool true)∧Below w.heap.size w w':=by
 have HDS:=KZ9 WQ;have HDI:=KZ9 Qn;have hb0:=(Below.refl _ w).alloc (Nat.le_refl _) (.cells #[.string ⟨#[104,116,116,112,115,58,47,47,98,46,99,111,109,47]⟩,.slice none 0 0] 76);have hN:=BlkL.new w 76 [.string ⟨#[104,116,116,112,115,58,47,47,98,46,99,111,109,47]⟩,.slice none 0 0];have HBU:=KZ9 (QJ w.heap.size 1 _ (hB.below hb0) (hN.c 0 _ rfl) (hN.c 1 _ rfl) (by simp));have HB0:=KZ9 hb0;have HBB:=KZ9 hB;clear hB hb0 hN;go_enter Tryz.func8,Tryz.ntmps8
 go_wp2_with fail
 all_goals try omega
 refine HBU.out.mono ?_;rintro e w1 ⟨rfl,hb1⟩;have hx1:=(BlkL.new w1 41 [.bool true,.bool true,.bool false,.bool false,.slice none 0 0]);have hB1:=HB0.out.trans (hb1.mono HB0.out.size);have hB2:=hB1.alloc hB1.size (.cells #[.bool true,.bool true,.bool false,.bool false,.slice none 0 0] 41);have HA2:=KZ9 hB2;have HX2:=KZ9 hx1;clear hb1 hB1 hB2 HB0 HBU hx1;go_wp2_with fail
 all_goals try omega
 refine (HDS.out _ (HBB.out.below HA2.out)).mono ?_;rintro e w2 ⟨rfl,hb2⟩;have hs2:w1.heap.size+1≤w2.heap.size:=by have:=hb2.size;simpa using this
 have X3:=(HX2.out.below (by simp) hb2).alloc (.cells #[.int .i64 3,.int .i64 5,.string ⟨#[]⟩] 34);obtain ⟨x0,x1,x2,x3,x4⟩:=BlkL.cs5 X3;have hA3:=HA2.out.trans (hb2.mono HA2.out.size);have hA4:=hA3.alloc hA3.size (.cells #[.int .i64 3,.int .i64 5,.string ⟨#[]⟩] 34);have HN4:=KZ9 (BlkL.new w2 34 [.int .i64 3,.int .i64 5,.string ⟨#[]⟩]);have HA4:=KZ9 hA4;clear hb2 hA3 hA4 HX2 HA2 HDS X3;go_wp2_with fail
 all_goals try omega
 refine (HDI.out _ (HBB.out.below HA4.out)).mono ?_;rintro e w3 ⟨rfl,hb3⟩;have hs3:w2.heap.size+1≤w3.heap.size:=by have:=hb3.size;simpa using this
 have N5:=(HN4.out.below (by simp) hb3).alloc (.cells #[.int .i64 2,.int .i64 4,.string ⟨#[104,116,116,112,115,58,47,47,97,46,99,111,109,47]⟩] 34);have n0:=N5.c 0 _ rfl;have M5:=BlkL.new w3 34 [.int .i64 2,.int .i64 4,.string ⟨#[104,116,116,112,115,58,47,47,97,46,99,111,109,47]⟩];have p2:=M5.c 2 _ rfl;have HA5:=KZ9 ((HA4.out.trans (hb3.mono HA4.out.size)).alloc (HA4.out.trans (hb3.mono HA4.out.size)).size (.cells #[.int .i64 2,.int .i64 4,.string ⟨#[104,116,116,112,115,58,47,47,97,46,99,111,109,47]⟩] 34));clear hb3 HDI HN4 HA4 N5 M5 x0 x1 x2 x3 x4;go_wp2
 all_goals try omega
 go_ret;exact ⟨rfl,HA5.out⟩
theorem TQ (b off j:Nat):(⟨b,off,none⟩:Addr).add j=⟨b,off+j,none⟩:=by
 unfold Addr.add;split
 ·rename_i h;rw [h];rfl
 rfl
theorem jo (w:World) (ty:TypeId) (base:Nat) (v:Value) (n:Nat) (xs:List Value) (hown:w.ownsRow base 9 1 v n xs) (xv:Value) (r:List Bs) (hr:Strs w xv r) (h1:n+r.length≤1000000) (hb:base≤w.heap.size) :
  ∃ v' w',(Builtin.append_ #[39,39] ty #[v,xv]).run Tryz.prog w= .ok v' w'∧w'.ownsRow base 9 1 v' (n+r.length) (xs++zy r)∧w.grownBy w' v.ownBlock:=by
 obtain ⟨iS0,iS⟩:=info_parts qY;obtain ⟨ar,c,rfl,hn,hm,hc⟩:=hr.open;rcases Nat.eq_zero_or_pos r.length with h0 | hpos
 ·obtain rfl:r=[]:=List.eq_nil_of_length_eq_zero h0;refine ⟨v,w,?_,by simpa [zy] using hown,⟨rfl,rfl,rfl,Nat.le_refl _,fun _ _ _=>rfl⟩⟩;rcases hown.2 with ⟨rfl,rfl⟩ | ⟨g,cap,cur,rfl,_,_,hnc,_⟩<;>cases ar <;>
   simp [Builtin.append_,run_underlying Tryz.underlying39,sizeOf,typeInfo,iS.1,Builtin.lenOf,Builtin.firstCells,loadCells,loadCellsFrom,storeCells, *]
 obtain ⟨b,off,rfl,hlt,hcell⟩:=hc hpos;have hnews:∀ j u,(zy r)[j]? =some u→w.cell? ((⟨b,off,none⟩:Addr).add j)=some u:=by
  intro j u hj;obtain ⟨h,e⟩:=List.getElem?_eq_some_iff.1 hj;have hjl:j<r.length:=by simpa using h
  rw [TQ,hcell j hjl,←e];simp [zy]
 obtain ⟨v',w',h2,h3,h4,_⟩:=run_append_own (P:=Tryz.prog) w base 39 ty 9 iS0 (.string ByteArray.empty) 1 16 Tryz.underlying39 iS.1 iS.2.1 iS.2.2.1 iS.2.2.2 rfl (by decide) v n xs hown ⟨b,off,none⟩ r.length c (zy r) (by simp) hnews (by
  intro u hu;unfold zy at hu;obtain ⟨x,_,rfl⟩:=List.mem_map.1 hu;rfl) (by unfold maxLen;omega) (by omega) hb
 exact ⟨v',w',h2,h3,h4⟩
end Go.Proofs.YtjbciamhhfcdoaaGreatDoor
