/- What the proof of TopClock uses, part Clk12. -/
import Derived.Test.YtbnnlkdhpifpeaaGreatDoorClk11
set_option linter.unusedSimpArgs false
set_option linter.unusedVariables false
namespace Go.Proofs.YtbnnlkdhpifpeaaGreatDoor
open Go.RowKit Hs
theorem ZF {l:Bs} {v:UrlP} (h:xr l=some v):rG v.host:=by
 unfold xr at h;split at h
 ·cases h
 split at h
 ·cases h
 split at h
 ·unfold wI at h;split at h
  ·cases h;exact qO
  split at h
  ·exact kq h
  cases h
 cases h
set_option maxRecDepth 20000
set_option maxHeartbeats 4000000
theorem cm (s:ByteArray) (w:World) (hB:Base w) (hs:s.size≤100000) (hT:okT (un s)):Calls Tryz.prog 36 #[.string s] w (Wo (ti (un s)) w.heap.size w):=by
 have hlen:(un s).length=s.size:=za s;obtain ⟨W0,hW0⟩:=KZ6 (w.alloc (.cells (zb zJ).toArray 100));have hbA:Below w.heap.size w W0:=by rw [hW0];exact (Below.refl _ w).alloc (Nat.le_refl _) _
 have hr0:BlkL W0 w.heap.size 100 (zb zJ):=by rw [hW0];exact BlkL.new w _ _
 have HW0:Hid (w.alloc (.cells #[.string ⟨#[]⟩,.string ⟨#[]⟩,.int .i64 0,.string ⟨#[]⟩,.int .u32 0,.int .u16 0,.int .u16 0,.int .u16 0,.int .u16 0,.int .u16 0,.int .u16 0,.int .u16 0,.int .u16 0,.int .i64 0,.string ⟨#[]⟩] 100)=W0):=KZ9 hW0.symm;have hsz:W0.heap.size=w.heap.size+1:=by rw [hW0];simp
 have HP:=KZ9 (Wx s W0 (hB.below hbA) hs hT);have HBA:=KZ9 hbA;have HR0:=KZ9 hr0;clear hW0 hbA hr0;by_cases hbig:2048<s.size
 ·have hfin:Hid (ti (un s)=none):=KZ9 (if_pos (by omega));have g1:decide ((2048:Int)<(s.size:Int))=true:=KZ7 (by omega);go_enter Tryz.func36,Tryz.ntmps36
  go_upto_region 1 with fail
  rw [HW0.out];clear HW0 HP;go_wp2_with (first
   | refine wpList_store_row rfl 100 (.tmp 2) (.tmp 7) rfl w.heap.size (zb zJ).toArray rfl rfl 100 _ HR0.out yp rfl (zh (yZ zJ)) ?_)
  all_goals try omega
  refine bodyPost_ret (zf rfl _ _ w.heap.size 100 _ _ rfl (HR0.out.setRow (zb zJ)) Tryz.underlying100 rfl yp) rfl ?_;exact ⟨⟨zJ,3,rfl,.inr ⟨by decide,rfl,hfin.out⟩⟩,below_setRow HBA.out (Nat.le_refl _) _⟩
 have hfin:Hid (ti (un s)=xr (un s)):=KZ9 (if_neg (by omega));have g1:decide ((2048:Int)<(s.size:Int))=false:=KZ8 (by omega);go_enter Tryz.func36,Tryz.ntmps36
 go_upto_region 1 with fail
 rw [HW0.out];clear HW0;go_wp2_with fail
 all_goals try omega
 refine HP.out.mono ?_;rintro e w7 ⟨⟨v,c,rfl,hres⟩,hb7⟩;have hw:rG v.host:=by
  rcases hres with ⟨_,h2⟩ | ⟨_,h2,_⟩
  ·exact ZF h2
  rw [h2];exact qO
 have HI:=KZ9 (yg hw.1);have HSZ:=KZ9 (show (zb zJ).toArray.size=(zb v).toArray.size by rw [List.size_toArray,List.size_toArray,xN hw.1];rfl);have HR8:=KZ9 (HR0.out.below (by omega) hb7);have HA8:=KZ9 (HBA.out.trans (hb7.mono (by omega)));have HRES:=KZ9 hres;clear hb7 hres hw HP HR0 HBA;go_wp2_with (first
  | refine wpList_store_row rfl 100 (.tmp 2) (.tmp 10) rfl w.heap.size (zb v).toArray rfl rfl 100 _ HR8.out HI.out HSZ.out (zh (yZ v)) ?_)
 all_goals try omega
 refine bodyPost_ret (zf rfl _ _ w.heap.size 100 _ _ rfl (HR8.out.setRow (zb v)) Tryz.underlying100 rfl HI.out) rfl ?_;refine ⟨⟨v,c,rfl,?_⟩,below_setRow HA8.out (Nat.le_refl _) _⟩;rw [hfin.out];exact HRES.out
def qW (u:UrlP):Prop:=u.scheme.length≤20000∧u.user.length≤20000∧u.host.name.length≤20000∧u.rest.length≤20000∧(u.port= -1∨∃ n:Nat,u.port=(n:Int)∧n≤65535)
def uR (u:UrlP):Bs:=if u.user=[] then [] else u.user++[64]
def di (u:UrlP):Bs:=if u.port= -1 then [] else 58::Lib.itoa u.port
theorem pL {u:UrlP} (h:zS u.scheme<0):xx u=u.scheme++58::u.rest:=if_pos h
theorem jM {u:UrlP} (h:¬ zS u.scheme<0):xx u=u.scheme++([58,47,47]++(uR u++(xK u.host++(di u++u.rest)))):=if_neg h
theorem Z8 (n:Nat):Lib.itoa (n:Int)=Lib.decDigits n:=by unfold Lib.itoa;rw [if_neg (by omega)];simp
theorem Y0 (u:UrlP):(zb u)[0]? =some (.string (mk u.scheme))∧(zb u)[1]? =some (.string (mk u.user)):=⟨rfl,rfl⟩
theorem sR (u:UrlP) (h8:u.host.v6.length=8):(zb u)[13]? =some (.int .i64 u.port)∧(zb u)[14]? =some (.string (mk u.rest))∧∀ j v,(zj u.host)[j]? =some v→(zb u)[2+j]? =some v:=by
 have e6:zb u=([.string (mk u.scheme),.string (mk u.user)]++zj u.host)++[.int .i64 u.port,.string (mk u.rest)]:=by simp [zb]
 refine ⟨?_,?_,fun j v hj=> ?_⟩
 ·rw [e6,List.getElem?_append_right (by simp [wd h8])];simp [wd h8]
 ·rw [e6,List.getElem?_append_right (by simp [wd h8])];simp [wd h8]
 have hjl:=(List.getElem?_eq_some_iff.1 hj).1;have e7:zb u=[.string (mk u.scheme),.string (mk u.user)]++(zj u.host++[.int .i64 u.port,.string (mk u.rest)]):=rfl;rw [e7,List.getElem?_append_right (by simp),List.getElem?_append_left (by simp;omega)]
 simpa using hj
theorem dK {h:HostP} (hw:xR h) (hn:h.name.length≤20000):(xK h).length≤20000:=by
 obtain ⟨k,n,v,x⟩:=h;by_cases hk:yo ⟨k,n,v,x⟩=true
 ·rcases sE hk with rfl | rfl | rfl
  ·rw [Vd hk];exact hn
  ·rw [Vc hk];have:=Yo v 4;rw [kT] at this;simp at this;omega
  exact absurd rfl hw.2.2.2
 rw [Ye (by simpa using hk)];simp
theorem Tk (u:UrlP) (w:World) (hB:Base6 w) (hw:xR u.host) (hb:qW u):Calls Tryz.prog 224 #[.agg (zb u).toArray] w fun e w'=>e= .returned (.string (mk (xx u)))∧Below w.heap.size w w':=by
 obtain ⟨W0,hW0⟩:=KZ6 (w.alloc (.cells (zb u).toArray 100));have hbA:Below w.heap.size w W0:=by rw [hW0];exact (Below.refl _ w).alloc (Nat.le_refl _) _
 have hb0:BlkL W0 w.heap.size 100 (zb u):=by rw [hW0];exact BlkL.new w _ _
 have HW0:Hid (w.alloc (.cells (zb u).toArray 100)=W0):=KZ9 hW0.symm;have hsz:W0.heap.size=w.heap.size+1:=by rw [hW0];simp
 have B0:=hB.below hbA;have HF:=KZ9 (Yj u.host W0 B0 hw (by have:=hb.2.2.1;omega));have hhl:=dK hw hb.2.2.1;obtain ⟨hb1,hb2,hb3,hb4,hb5⟩:=hb;have g:=Y0 u;have g2:=sR u hw.1;have c0:=hb0.c 0 _ g.1;have c1:=hb0.c 1 _ g.2;have c13:=hb0.c 13 _ g2.1;have c14:=hb0.c 14 _ g2.2.1;have HRG:=KZ9 (hb0.range 2 (zj u.host) g2.2.2);have HIH:=KZ9 (show (Tryz.prog.info? 98).map (·.size)=some (zj u.host).length by rw [yl,wd hw.1]);have HBA:=KZ9 hbA;have HB0:=KZ9 hb0;have HBB:=KZ9 hB;have hs1:(mk u.scheme).size≤20000:=by rw [zi];exact hb1
 have hs2:(mk u.user).size≤20000:=by rw [zi];exact hb2
 have hs4:(mk u.rest).size≤20000:=by rw [zi];exact hb4
 have hs5:(mk (xK u.host)).size≤20000:=by rw [zi];exact hhl
 have hsp:=fun W=>sS (mk u.scheme) W;simp only [zk] at hsp;have hpc:=uu u.scheme;clear hW0 hbA hb0 hB g g2;by_cases hp:zS u.scheme<0
 ·have hfin:=KZ9 (pL hp);have hdec:decide (0<zS u.scheme)=false:=KZ8 (by omega);simp only [hdec] at hsp;have HSP:=KZ9 hsp;clear hsp hdec hpc hp;go_enter Tryz.func224,Tryz.ntmps224
  go_upto_region 1 with fail
  rw [HW0.out];clear HW0;go_wp2_with fail
  refine (HSP.out _).mono ?_;rintro e w5 ⟨rfl,rfl⟩;go_wp2
  all_goals try omega
  go_ret;refine ⟨?_,HBA.out⟩;rw [hfin.out];have:mk (u.scheme++58::u.rest)=(mk u.scheme++⟨#[58]⟩)++mk u.rest:=by
   rw [show u.scheme++58::u.rest=(u.scheme++[58])++u.rest by simp,yU,yU];rfl
  rw [this];rfl
 have hfin:=KZ9 (jM hp);have hdec:decide (0<zS u.scheme)=true:=KZ7 (by omega);simp only [hdec] at hsp;have HSP:=KZ9 hsp;clear hsp hdec hpc hp;have hem:((mk u.user).toList==([]:Bs))=decide (u.user=[]):=by rw [toList_mk'];cases u.user<;>rfl
 obtain ⟨ue,hue⟩:=KZ6 (decide (u.user=[]));rw [←hue] at hem;have HUE:=KZ9 hue;clear hue;go_enter Tryz.func224,Tryz.ntmps224
 go_upto_region 1 with fail
 rw [HW0.out];clear HW0;go_wp2_with fail
 refine (HSP.out _).mono ?_;rintro e w5 ⟨rfl,rfl⟩;go_upto_if 19 with fail
 all_goals try omega
 go_cut [3] (fun s3 wx=>s3= .string (mk (u.scheme++([58,47,47]++uR u)))∧wx=W0)
 case first =>
  cases ue
  ·have hu:uR u=u.user++[64]:=if_neg (of_decide_eq_false HUE.out.symm);have HU:=KZ9 hu;clear hu;go_wp2
   all_goals try omega
   go_meet;refine ⟨?_,rfl⟩;rw [HU.out,show u.scheme++([58,47,47]++(u.user++[64]))=(u.scheme++[58,47,47])++(u.user++[64]) by simp,yU,yU,yU];rfl
  have hu:uR u=[]:=if_pos (of_decide_eq_true HUE.out.symm);have HU:=KZ9 hu;clear hu;go_wp2
  all_goals try omega
  go_meet;refine ⟨?_,rfl⟩;rw [HU.out,List.append_nil,yU];rfl
 case rest =>
 obtain ⟨rfl,rfl⟩:=hcut;have hul:(mk (u.scheme++([58,47,47]++uR u))).size≤50000:=by
  rw [zi];unfold uR;split<;>simp<;>omega
 obtain ⟨pre,hpre⟩:=KZ6 (u.scheme++([58,47,47]++uR u));rw [←hpre] at hul ⊢;have HPRE:=KZ9 hpre;clear hpre hem HSP;go_wp2_with (first
  | refine wpList_load_mid rfl 98 (.tmp 26) rfl w.heap.size 2 rfl (zj u.host) _ HRG.out Tryz.underlying98 rfl HIH.out ?_)
 all_goals try omega
 refine HF.out.mono ?_;rintro e w6 ⟨rfl,hb6⟩;have HB6:=KZ9 (HB0.out.below (by omega) hb6);have HA6:=KZ9 (HBA.out.trans (hb6.mono (by omega)));have g2:=sR u hw.1;have d13:=HB6.out.c 13 _ g2.1;have d14:=HB6.out.c 14 _ g2.2.1;have hit:=fun n h=>sy n w6 (HBB.out.1.below HA6.out) h;have HIT:=KZ9 hit;have hz1:(mk pre++mk (xK u.host)).size≤70000:=by rw [ByteArray.size_append];omega
 clear hb6 HF g2 c0 c1 c13 c14 hit;rcases hb5 with hm1 | ⟨n,hn,hn2⟩
 ·have hpt:di u=[]:=if_pos hm1;have HPT:=KZ9 hpt;have g5:(u.port != -1)=false:=by simpa using hm1
  clear hm1 hpt;go_wp2
  all_goals try omega
  go_ret;refine ⟨?_,HA6.out⟩;rw [hfin.out,HPT.out,List.nil_append,show u.scheme++([58,47,47]++(uR u++(xK u.host++u.rest)))=((u.scheme++([58,47,47]++uR u))++xK u.host)++u.rest by simp,←HPRE.out,yU,yU];rfl
 have hpt:di u=58::Lib.decDigits n:=by unfold di;rw [if_neg (by omega),hn,Z8]
 have HPT:=KZ9 hpt;have g5:(u.port != -1)=true:=by simp;omega
 have hdl:(mk (Lib.decDigits n)).size≤100:=by rw [zi];have:=yR n (by omega);omega
 rw [hn] at d13;have g6:((n:Int) != -1)=true:=by simp
 have hdl2:(Lib.decDigits n).length≤100:=by have:=yR n (by omega);omega
 have hz3:((⟨#[58]⟩:ByteArray)++mk (Lib.decDigits n)).size≤200:=by
  rw [ByteArray.size_append];have:(⟨#[58]⟩:ByteArray).size=1:=rfl;omega
 have hz2:(mk pre++mk (xK u.host)++((⟨#[58]⟩:ByteArray)++mk (Lib.decDigits n))).size≤71000:=by
  rw [ByteArray.size_append,ByteArray.size_append (a:=(⟨#[58]⟩:ByteArray))];have:(⟨#[58]⟩:ByteArray).size=1:=rfl;omega
 clear hpt hn g5;go_wp2_with fail
 all_goals try omega
 refine (HIT.out n (by omega)).mono ?_;rintro e w7 ⟨rfl,hb7⟩;have e14:=(HB6.out.below (by have:=HB6.out.lt;omega) hb7).c 14 _ (sR u hw.1).2.1;have HA7:=KZ9 (HA6.out.trans (hb7.mono HA6.out.size));clear hb7;go_wp2
 all_goals try omega
 go_ret;refine ⟨?_,HA7.out⟩;rw [hfin.out,HPT.out,show u.scheme++([58,47,47]++(uR u++(xK u.host++(58::Lib.decDigits n++u.rest))))=(((u.scheme++([58,47,47]++uR u))++xK u.host)++([58]++Lib.decDigits n))++u.rest by simp,←HPRE.out,yU,yU,yU,yU];rfl
theorem VN {u:UrlP} (hw:xR u.host) (hb:qW u):(xx u).length≤90000:=by
 obtain ⟨h1,h2,h3,h4,h5⟩:=hb;have hh:=dK hw h3;by_cases hp:zS u.scheme<0
 ·rw [pL hp];simp;omega
 rw [jM hp];have hu:(uR u).length≤20001:=by unfold uR;split<;>simp<;>omega
 have hpt:(di u).length≤20:=by
  unfold di;rcases h5 with h | ⟨n,hn,hn2⟩
  ·rw [if_pos h];simp
  rw [if_neg (by omega),hn,Z8];have:=yR n (by omega);simp;omega
 simp;omega
theorem PG {l:Bs} {v:UrlP} (h:xr l=some v):rG v.host:=ZF h
set_option maxHeartbeats 8000000
theorem cf (u:UrlP) (w:World) (hB:Base6 w) (hw:xR u.host) (hb:qW u) (hT:okT (xx u)):Calls Tryz.prog 162 #[.agg (zb u).toArray] w fun e w'=>e= .returned (.bool (yY u))∧Below w.heap.size w w':=by
 obtain ⟨W0,hW0⟩:=KZ6 (w.alloc (.cells (zb u).toArray 100));have hbA:Below w.heap.size w W0:=by rw [hW0];exact (Below.refl _ w).alloc (Nat.le_refl _) _
 have hb0:BlkL W0 w.heap.size 100 (zb u):=by rw [hW0];exact BlkL.new w _ _
 have HW0:Hid (w.alloc (.cells (zb u).toArray 100)=W0):=KZ9 hW0.symm;have hsz:W0.heap.size=w.heap.size+1:=by rw [hW0];simp
 have B0:=hB.below hbA;have HTX:=KZ9 (Tk u W0 B0 hw hb);have htl:=VN hw hb;have hpar:=fun W hb=>Wx (mk (xx u)) W hb (by rw [zi];omega) (by rw [zk];exact hT);simp only [zk] at hpar;have HPAR:=KZ9 hpar;have HI0:=KZ9 (yg hw.1);have HB0:=KZ9 hb0;have HBA:=KZ9 hbA;have HBB:=KZ9 hB;have hdef:yY u=decide (xr (xx u)=some u):=rfl;obtain ⟨o,ho⟩:=KZ6 (xr (xx u));rw [←ho] at hdef;simp only [←ho] at HPAR;obtain ⟨tx,htx⟩:=KZ6 (xx u);rw [←htx] at HTX;simp only [←htx] at HPAR;have HDEF:=KZ9 hdef;have HO:=KZ9 ho;clear hW0 hbA hb0 hB hpar hdef ho htx htl hT;go_enter Tryz.func162,Tryz.ntmps162
 go_upto_region 1 with fail
 rw [HW0.out];clear HW0;go_wp2_with (refine wpList_load_row rfl 100 (.tmp 1) rfl w.heap.size rfl 100 _ _ _ HB0.out Tryz.underlying100 rfl HI0.out ?_)
 refine HTX.out.mono ?_;rintro e w1 ⟨rfl,hb1⟩;have hs1:=hb1.size;have HB1:=KZ9 (HB0.out.below (by omega) hb1);have HA1:=KZ9 (HBA.out.trans (hb1.mono (by omega)));clear hb1 HTX HB0 HBA;go_wp2_with fail
 refine (HPAR.out _ (HBB.out.1.below HA1.out)).mono ?_;rintro e w2 ⟨⟨v,c,rfl,hres⟩,hb2⟩;have hs2:=hb2.size;have hv8:v.host.v6.length=8:=by
  rcases hres with ⟨_,h2⟩ | ⟨_,h2,_⟩
  ·exact (PG (HO.out.symm.trans h2)).1
  rw [h2];rfl
 have HI:=KZ9 (yg hv8);have HSZ:=KZ9 (show (zb zJ).toArray.size=(zb v).toArray.size by rw [List.size_toArray,List.size_toArray,xN hv8];rfl);have HN2:=KZ9 (heap_alloc_new w2 (.cells (zb zJ).toArray 100));have hY4:=(BlkL.new w2 100 (zb zJ)).setRow (zb v);have hb4:=((HB1.out.below (by omega) hb2).alloc (.cells (zb zJ).toArray 100)).setRow_other (show w.heap.size≠w2.heap.size by omega) (zb v).toArray;have hA4:=below_setRow ((HA1.out.trans (hb2.mono (by omega))).alloc (by omega) (.cells (zb zJ).toArray 100)) (show w.heap.size≤w2.heap.size by omega) (zb v).toArray;obtain ⟨W4,hW4⟩:=KZ6 ((w2.alloc (.cells (zb zJ).toArray 100)).setRow w2.heap.size (zb v).toArray);rw [←hW4] at hY4 hb4 hA4
 have HW4:Hid ((w2.alloc (.cells #[.string ⟨#[]⟩,.string ⟨#[]⟩,.int .i64 0,.string ⟨#[]⟩,.int .u32 0,.int .u16 0,.int .u16 0,.int .u16 0,.int .u16 0,.int .u16 0,.int .u16 0,.int .u16 0,.int .u16 0,.int .i64 0,.string ⟨#[]⟩] 100)).setRow w2.heap.size (zb v).toArray=W4):=KZ9 hW4.symm;have HA4:=KZ9 hA4;have HB4:=KZ9 hb4;have HY4:=KZ9 hY4;have HRES:=KZ9 hres;have hqq:=QQ u v hw.1 hv8;have HQ:=KZ9 hqq;clear hb2 HPAR HB1 HA1 hW4 hY4 hb4 hA4 hres hqq;go_upto_region 2 with (refine wpList_store_row rfl 100 (.tmp 3) (.tmp 9) rfl w2.heap.size (zb v).toArray rfl rfl 100 _ HN2.out HI.out HSZ.out (zh (yZ v)) ?_)
 all_goals try omega
 rw [HW4.out];clear HW4 HN2 HI HSZ HI0 hs1 hs2 hsz;rcases HRES.out with ⟨rfl,hok⟩ | ⟨hc,hv0,hno⟩
 ·have hfin:yY u=decide (u=v):=by
   rw [HDEF.out,hok,decide_eq_decide];exact ⟨fun h=>(Option.some.inj h).symm,fun h=>by rw [h]⟩
  have HFIN:=KZ9 hfin;clear hfin hok HDEF HRES HBB hb;obtain ⟨sc,us,⟨kd,nm,va,v6⟩,pt,rs⟩:=u;obtain ⟨scq,usq,⟨kdq,nmq,vaq,v6q⟩,ptq,rsq⟩:=v;obtain ⟨a,b,c,d,e,f,g,i,rfl⟩:=Z5 hw.1;obtain ⟨aq,bq,cq,dq,eq,fq,gq,iq,rfl⟩:=Z5 hv8
  have hq:∀ W,(Op.equalIn 10000 100 (.agg #[.string (mk sc),.string (mk us),.int .i64 (kd:Int),.string (mk nm),.int .u32 (va:Int),.int .u16 (a:Int),.int .u16 (b:Int),.int .u16 (c:Int),.int .u16 (d:Int),.int .u16 (e:Int),.int .u16 (f:Int),.int .u16 (g:Int),.int .u16 (i:Int),.int .i64 pt,.string (mk rs)]) (.agg #[.string (mk scq),.string (mk usq),.int .i64 (kdq:Int),.string (mk nmq),.int .u32 (vaq:Int),.int .u16 (aq:Int),.int .u16 (bq:Int),.int .u16 (cq:Int),.int .u16 (dq:Int),.int .u16 (eq:Int),.int .u16 (fq:Int),.int .u16 (gq:Int),.int .u16 (iq:Int),.int .i64 ptq,.string (mk rsq)])).run Tryz.prog W= .ok (decide ((⟨sc,us,⟨kd,nm,va,[a,b,c,d,e,f,g,i]⟩,pt,rs⟩:UrlP)=⟨scq,usq,⟨kdq,nmq,vaq,[aq,bq,cq,dq,eq,fq,gq,iq]⟩,ptq,rsq⟩)) W:=HQ.out
  obtain ⟨qv,hqv⟩:=KZ6 (decide ((⟨sc,us,⟨kd,nm,va,[a,b,c,d,e,f,g,i]⟩,pt,rs⟩:UrlP)=⟨scq,usq,⟨kdq,nmq,vaq,[aq,bq,cq,dq,eq,fq,gq,iq]⟩,ptq,rsq⟩));rw [←hqv] at hq HFIN;clear hqv HQ hw hv8;obtain ⟨c0,c1,c2,c3,c4,c5,c6,c7,c8,c9,c10,c11,c12,c13,c14⟩:=BlkL.cs15 HB4.out;obtain ⟨z0,z1,z2,z3,z4,z5,z6,z7,z8,z9,z10,z11,z12,z13,z14⟩:=BlkL.cs15 HY4.out;go_wp2
  all_goals try omega
  go_ret;rw [HFIN.out];exact ⟨rfl,HA4.out⟩
 have hfin:yY u=false:=by rw [HDEF.out,hno];rfl
 have HFIN:=KZ9 hfin;have g1:(c==0)=false:=by simpa using hc
 clear hfin hno HDEF HRES hc hv0;go_wp2
 all_goals try omega
 go_ret;rw [HFIN.out];exact ⟨rfl,HA4.out⟩
end Go.Proofs.YtbnnlkdhpifpeaaGreatDoor
namespace Hs
open Go
theorem bU {u:UrlP} (h:zS u.scheme≠80):zT u=u:=if_neg h
theorem dZ {u:UrlP} (h:zS u.scheme=80):zT u=⟨xf u.scheme,u.user,u.host,if u.port=zS (xf u.scheme) then -1 else u.port,u.rest⟩:=if_pos h
theorem Yn {u:UrlP} (h:yY u=true):yN u=xx u:=if_pos h
theorem XX {u:UrlP} (h:yY u=false):yN u=[]:=if_neg (by rw [h];simp)
end Hs
namespace Go.Proofs.YtbnnlkdhpifpeaaGreatDoor
open Go.RowKit Go.Maps Hs
set_option maxRecDepth 20000
set_option maxHeartbeats 4000000
theorem bW (u:UrlP) (w:World) (hB:Base6 w) (hw:xR u.host) (hb:qW u) (hT:okT (xx u)):Calls Tryz.prog 239 #[.agg (zb u).toArray] w fun e w'=>e= .returned (.string (mk (yN u)))∧Below w.heap.size w w':=by
 obtain ⟨W0,hW0⟩:=KZ6 (w.alloc (.cells (zb u).toArray 100));have hbA:Below w.heap.size w W0:=by rw [hW0];exact (Below.refl _ w).alloc (Nat.le_refl _) _
 have hb0:BlkL W0 w.heap.size 100 (zb u):=by rw [hW0];exact BlkL.new w _ _
 have HW0:Hid (w.alloc (.cells (zb u).toArray 100)=W0):=KZ9 hW0.symm;have hsz:W0.heap.size=w.heap.size+1:=by rw [hW0];simp
 have hv:=cf u W0 (hB.below hbA) hw hb hT;have hf1:=@Yn u;have hf2:=@XX u;obtain ⟨ok,hok⟩:=KZ6 (yY u);rw [←hok] at hv hf1 hf2;have HV:=KZ9 hv;have HF1:=KZ9 hf1;have HF2:=KZ9 hf2;have HTX:=KZ9 (fun W hb'=>Tk u W hb' hw hb);have HI0:=KZ9 (yg hw.1);have HB0:=KZ9 hb0;have HBA:=KZ9 hbA;have HBB:=KZ9 hB;clear hW0 hbA hb0 hB hv hf1 hf2 hok;go_enter Tryz.func239,Tryz.ntmps239
 go_upto_region 1 with fail
 rw [HW0.out];clear HW0;go_wp2_with (refine wpList_load_row rfl 100 (.tmp 1) rfl w.heap.size rfl 100 _ _ _ HB0.out Tryz.underlying100 rfl HI0.out ?_)
 refine HV.out.mono ?_;rintro e w1 ⟨rfl,hb1⟩;have HB1:=KZ9 (HB0.out.below (by omega) hb1);have HA1:=KZ9 (HBA.out.trans (hb1.mono (by omega)));clear hb1 HV HB0 HBA;cases ok
 ·have hfin:=KZ9 (HF2.out rfl);go_wp2;go_ret;rw [hfin.out];exact ⟨rfl,HA1.out⟩
 have hfin:=KZ9 (HF1.out rfl);go_wp2_with (refine wpList_load_row rfl 100 (.tmp 1) rfl w.heap.size rfl 100 _ _ _ HB1.out Tryz.underlying100 rfl HI0.out ?_)
 refine (HTX.out _ (HBB.out.below HA1.out)).mono ?_;rintro e w2 ⟨rfl,hb2⟩;go_wp2;go_ret;rw [hfin.out];exact ⟨rfl,HA1.out.trans (hb2.mono (by have:=HA1.out.size;omega))⟩
theorem jJ (u:UrlP) (w:World):Calls Tryz.prog 238 #[.agg (zb u).toArray] w fun e w'=>e= .returned (.bool (decide (zS u.scheme=80)))∧Below w.heap.size w w':=by
 obtain ⟨W0,hW0⟩:=KZ6 (w.alloc (.cells (zb u).toArray 100));have hbA:Below w.heap.size w W0:=by rw [hW0];exact (Below.refl _ w).alloc (Nat.le_refl _) _
 have hb0:BlkL W0 w.heap.size 100 (zb u):=by rw [hW0];exact BlkL.new w _ _
 have HW0:Hid (w.alloc (.cells (zb u).toArray 100)=W0):=KZ9 hW0.symm;have c0:=hb0.c 0 _ rfl;have hd:=sT (mk u.scheme) W0;rw [zk] at hd;obtain ⟨p,hp⟩:=KZ6 (zS u.scheme);rw [←hp] at hd ⊢;have HD:=KZ9 hd;have HBA:=KZ9 hbA;have hpb:(p==80)=decide (p=80):=by by_cases h:p=80<;>simp [h]
 have HPB:=KZ9 hpb;clear hW0 hbA hb0 hp hd hpb;go_enter Tryz.func238,Tryz.ntmps238
 go_upto_region 1 with fail
 rw [HW0.out];clear HW0;go_wp2_with fail
 refine HD.out.mono ?_;rintro e w1 ⟨rfl,rfl⟩;go_wp2;go_ret;rw [←HPB.out];exact ⟨rfl,HBA.out⟩
def qr (v:Value):Option (DataW Unit × List MemPlace):=match v with
 | .string s=>some (.lit (.string (un s)),[])
 | _=>none
theorem Zc {v:Value} {b:Bs} {ps:List MemPlace} (h:qr v=some (.lit (.string b),ps)):v= .string (mk b):=by
 unfold qr at h;split at h
 ·simp only [Option.some.injEq,Prod.mk.injEq,DataW.lit.injEq,Lit.string.injEq] at h;rw [←h.1,x8]
 cases h
def mapU1:DataW Unit:=(DataW.map []).put (.string zE) (.lit (.string zP))
def mapU2:DataW Unit:=mapU1.put (.string bWs) (.lit (.string th))
theorem mapU1_tidy:Tidy mapU1:=Tidy.put tidy_empty (bD _) _
theorem RV {s:Bs} (h:s=zE∨s=bWs):mapU2.atKey (.string s) (.lit (.string []))= .lit (.string (xf s)):=by
 unfold mapU2;rcases h with rfl | rfl
 ·rw [atKey_put_other (by simp [zE,bWs])];unfold mapU1;rw [atKey_put_same tidy_empty.isMap (bD _)];rfl
 rw [atKey_put_same mapU1_tidy.isMap (bD _)];rfl
theorem U5 (w:World):(zeroValue 9).run Tryz.prog w= .ok (.string ⟨#[]⟩) w:=by kernel_rfl
theorem qX {w:World} {ops:Array Oper} {rest:List Oper} {o:Oper} {a:Act} {Q:Exit→Act→World→Prop} (hg:o.guard=none) (m x:Operand) (hop:o.op=Op.lookup 351 m x false)
  (b n:Nat) (hm:a.eval m= .map (some b)) (hown:w.ownsMap Tryz.prog 9 qr b n mapU2) (s:Bs) (hx:a.eval x= .string (mk s)) (hs:s=zE∨s=bWs)
  (hK:wpList Tryz.prog ops Q rest (a.put o.dst (.string (mk (xf s)))) w):wpList Tryz.prog ops Q (o::rest) a w:=by
 have hsl:s.length≤maxLen:=by rcases hs with rfl | rfl<;>simp [zE,bWs,maxLen]
 have hkey:keyOf Tryz.prog 9 (.string (mk s))=some (.string s):=by rw [WideMaps.keyOf_string_mk Tryz.underlying9 (by rw [zi];exact hsl)];exact congrArg some (congrArg Lit.string (zk s))
 refine wpList_plain hg fun K' hK'=> ?_;obtain ⟨v,ps,hrun,hv⟩:=hown.lookup cA Tryz.underlying351 (U5 w) (zd:= .lit (.string [])) (zp:=[]) rfl hkey;rw [RV hs] at hv;obtain rfl:=Zc hv;unfold Oper.wp;simp [execOp,hop,hm,hx,hrun,Result.andThen];exact hK' _ _ hK
theorem Sh (s:Bs) (hs:s.length≤maxLen):keyOf Tryz.prog 9 (.string (mk s))=some (.string s):=by rw [WideMaps.keyOf_string_mk Tryz.underlying9 (by rw [zi];exact hs)];exact congrArg some (congrArg Lit.string (zk s))
theorem Si:keyOf Tryz.prog 9 (.string ⟨#[104,116,116,112]⟩)=some (.string zE):=Sh zE (by simp [zE,maxLen])
theorem Q4:keyOf Tryz.prog 9 (.string ⟨#[119,115]⟩)=some (.string bWs):=Sh bWs (by simp [bWs,maxLen])
theorem uo {P:Program} (w:World) {ops:Array Oper} {rest:List Oper} {o:Oper} {a:Act} {Q:Exit→Act→World→Prop}
  (hg:o.guard=none) (m x v:Operand) (t:TypeId) (hop:o.op=Op.insert t m x v)
  (k e:TypeId) (K:Keyed P k) (ht:P.underlying t=some (.map k e)) (R:Value→Option (DataW Unit × List MemPlace)) (b n:Nat) (D:DataW Unit)
  (hm:a.eval m= .map (some b)) (hown:w.ownsMap P k R b n D) (hn:n<maxLen) (key val:Value) (kl:Lit) (hx:a.eval x=key) (hv:a.eval v=val) (hkey:keyOf P k key=some kl)
  (d:DataW Unit) (ps:List MemPlace) (hval:R val=some (d,ps))
  (hK:∀ w',w'.ownsMap P k R b (n+1) (D.put kl d)→w.grownBy w' (some b)→wpList P ops Q rest (a.put o.dst undef) w') :
  wpList P ops Q (o::rest) a w:=by
 refine wpList_plain hg fun K' hK'=> ?_;obtain ⟨w',hrun,r1,r2⟩:=hown.update K ht hn hkey hval;unfold Oper.wp;simp [execOp,hop,hm,hx,hv,hrun,Result.andThen];exact hK' _ _ (hK w' r1 r2)
theorem VI (u:UrlP) (w:World) (hw:xR u.host):Calls Tryz.prog 240 #[.agg (zb u).toArray] w fun e w'=>e= .returned (.agg (zb (zT u)).toArray)∧Below w.heap.size w w':=by
 obtain ⟨W0,hW0⟩:=KZ6 ((w.alloc (.cells (zb u).toArray 100)).alloc (.cells (zb zJ).toArray 100));have hbA:Below w.heap.size w W0:=by rw [hW0];exact ((Below.refl _ w).alloc (Nat.le_refl _) _).alloc (by simp) _
 have hb0:BlkL W0 w.heap.size 100 (zb u):=by rw [hW0];exact (BlkL.new w _ _).alloc _
 have hr0:BlkL W0 (w.heap.size+1) 100 (zb zJ):=by
  rw [hW0];have:=BlkL.new (w.alloc (.cells (zb u).toArray 100)) 100 (zb zJ)
  simpa using this
 have HW0:Hid ((w.alloc (.cells (zb u).toArray 100)).alloc (.cells #[.string ⟨#[]⟩,.string ⟨#[]⟩,.int .i64 0,.string ⟨#[]⟩,.int .u32 0,.int .u16 0,.int .u16 0,.int .u16 0,.int .u16 0,.int .u16 0,.int .u16 0,.int .u16 0,.int .u16 0,.int .i64 0,.string ⟨#[]⟩] 100)=W0):=KZ9 hW0.symm;have hsz:W0.heap.size=w.heap.size+2:=by rw [hW0];simp
 have HI0:=KZ9 (yg hw.1);have HSZ0:=KZ9 (show (zb zJ).toArray.size=(zb u).toArray.size by rw [List.size_toArray,List.size_toArray,xN hw.1];rfl);have HIN:=KZ9 (jJ u W0);have HBA:=KZ9 hbA;have HB0:=KZ9 hb0;have HR0:=KZ9 hr0;have hmm:=@run_makeMap Tryz.prog;clear hW0 hbA hb0 hr0;have hn1:=@bU u;have hn2:=@dZ u;by_cases h80:zS u.scheme=80
 ·have hup:=hn2 h80;have hin:=HIN.out;rw [KZ7 h80] at hin;have HIN2:=KZ9 hin;have hsch:u.scheme=zE∨u.scheme=bWs:=by
   have:=uu u.scheme;rcases this with ⟨_,h⟩ | ⟨h,_⟩ | ⟨h,_⟩
   ·exact h
   ·omega
   omega
  have HSCH:=KZ9 hsch;have HUP:=KZ9 hup;clear hin HIN hn1 hn2 h80 hup hsch;go_enter Tryz.func240,Tryz.ntmps240
  go_upto_region 1 with fail
  rw [HW0.out];clear HW0;go_wp2_with (refine wpList_load_row rfl 100 (.tmp 1) rfl w.heap.size rfl 100 _ _ _ HB0.out Tryz.underlying100 rfl HI0.out ?_)
  refine HIN2.out.mono ?_;rintro e w1 ⟨rfl,hb1⟩;have hs1:=hb1.size;have HB1:=KZ9 (HB0.out.below (by omega) hb1);have HR1:=KZ9 (HR0.out.below (by omega) hb1);have HA1:=KZ9 (HBA.out.trans (hb1.mono (by omega)));clear hb1 HIN2 HB0 HR0 HBA;go_upto_region 4 with (first
   | (refine uo _ rfl _ _ _ 351 rfl 9 9 cA Tryz.underlying351 qr w1.heap.size 0 (.map []) rfl (World.ownsMap_made w1 _ _ _) (by decide) _ _ (.string zE) rfl rfl Si (.lit (.string zP)) [] rfl ?_;intro w2 hown2 hgrow2)
   | (refine uo _ rfl _ _ _ 351 rfl 9 9 cA Tryz.underlying351 qr w1.heap.size 1 mapU1 rfl hown2 (by decide) _ _ (.string bWs) rfl rfl Q4 (.lit (.string th)) [] rfl ?_;intro w3 hown3 hgrow3;have c3:=(((HB1.out.alloc (.map #[] 0)).grown hgrow2 (by simp;omega)).grown hgrow3 (by simp;omega)).c 0 _ (Y0 u).1;have f3:=(((HB1.out.alloc (.map #[] 0)).grown hgrow2 (by simp;omega)).grown hgrow3 (by simp;omega)).f 0)
   | (refine qX rfl _ _ rfl w1.heap.size 2 rfl hown3 u.scheme rfl HSCH.out ?_))
  all_goals try omega
  have hb3:=((HB1.out.alloc (.map #[] 0)).grown hgrow2 (by simp;omega)).grown hgrow3 (by simp;omega);have hr3:=((HR1.out.alloc (.map #[] 0)).grown hgrow2 (by simp;omega)).grown hgrow3 (by simp;omega);have hsa:w1.heap.size+1≤w2.heap.size:=by have:=hgrow2.size;simpa using this
  have hA3:=((HA1.out.alloc (by omega) (.map #[] 0)).grown hgrow2 (by simp;omega) (fun k hk=>by cases hk;omega)).grown hgrow3 (by omega) (fun k hk=>by cases hk;omega);have hb5:=hb3.set 0 (by rw [xN hw.1];omega) (.string (mk (xf u.scheme)));have hr5:=hr3.other (p:=w.heap.size) (by omega) 0 (.string (mk (xf u.scheme)));have hA5:=hA3.trans (ze w3 w.heap.size 0 (.string (mk (xf u.scheme))) (Nat.le_refl _));have e5:(zb u).set 0 (.string (mk (xf u.scheme)))=zb { u with scheme:=xf u.scheme }:=rfl;rw [e5] at hb5;have hs5:(w3.setCell ⟨w.heap.size,0,none⟩ (.string (mk (xf u.scheme)))).heap.size=w3.heap.size:=by simp
  have hs3:w.heap.size+2≤w3.heap.size:=by have:=hgrow3.size;omega
  generalize w3.setCell ⟨w.heap.size,0,none⟩ (.string (mk (xf u.scheme)))=W5 at *;obtain ⟨us,hus⟩:=KZ6 (xf u.scheme);have hup2:=HUP.out;rw [←hus] at hup2;simp only [←hus] at hb5 ⊢;have hd:=fun W=>sT (mk us) W;simp only [zk] at hd;obtain ⟨D,hD⟩:=KZ6 (zS us);simp only [←hD] at hd hup2;have HD:=KZ9 hd;have HUP2:=KZ9 hup2;have d0:=hb5.c 0 _ rfl;have g2:=sR { u with scheme:=us } hw.1;have d13:=hb5.c 13 _ g2.1;have f13:=hb5.f 13;simp only at d13;have HB5:=KZ9 hb5;have HR5:=KZ9 hr5;have HA5:=KZ9 hA5;clear hb3 hr3 hA3 hb5 hr5 hA5 hd hD hus hup2 HUP hgrow2 hgrow3 hown2 hown3 c3 f3 e5 hs5 hsa HB1 HR1 HA1 hmm g2 HSCH;refine wp_region_quiet_lit (by kernel_rfl) (by kernel_rfl) ?_;repeat (go_big_quiet_step (fail))
  go_big_quiet_want
  go_big_quiet_op
  apply Exists.intro;refine ⟨fun _=> ?_,?_⟩
  ·exact Calls.quiet_of_same ((HD.out _).mono (fun _ _ h=>⟨h.1,h.2.symm⟩))
  go_big_quiet_on
  repeat (go_big_quiet_step (fail))
  refine wpQuiet_nil ?_;intro _ hw';obtain ⟨nq,hw''⟩:=hw';subst hw'';have hb6:=HB5.out.drewN nq;have hr6:=HR5.out.drewN nq;have hA6:=below_drewN HA5.out nq;generalize W5.drewN nq=W6 at *;have f13:=hb6.f 13;have d13:=hb6.c 13 _ (sR { u with scheme:=us } hw.1).1;by_cases hpd:u.port=D
  ·have g5:(u.port==D)=true:=by simpa using hpd
   have hup3:=HUP2.out;rw [if_pos hpd] at hup3;have hb7:=hb6.set 13 (by rw [xN (u:={ u with scheme:=us }) hw.1];omega) (.int .i64 (-1));have e7:(zb { u with scheme:=us }).set 13 (.int .i64 (-1))=zb ⟨us,u.user,u.host,-1,u.rest⟩:=by
    have h11:=wd hw.1;have e6:zb { u with scheme:=us }=([.string (mk us),.string (mk u.user)]++zj u.host)++[.int .i64 u.port,.string (mk u.rest)]:=by simp [zb]
    rw [e6,List.set_append_right _ _ (by simp [h11])];simp [h11,zb]
   rw [e7] at hb7;have HB7:=KZ9 hb7;have HR7:=KZ9 (hr6.other (p:=w.heap.size) (by omega) 13 (.int .i64 (-1)));have HA7:=KZ9 (hA6.trans (ze W6 w.heap.size 13 (.int .i64 (-1)) (Nat.le_refl _)));have HI7:=KZ9 (yg (u:=⟨us,u.user,u.host,-1,u.rest⟩) hw.1);have HS7:=KZ9 (show (zb zJ).toArray.size=(zb ⟨us,u.user,u.host,-1,u.rest⟩).toArray.size by rw [List.size_toArray,List.size_toArray,xN (u:=⟨us,u.user,u.host,-1,u.rest⟩) hw.1];rfl);have HUP3:=KZ9 hup3;clear hup3 hb7 e7 hpd HUP2 hb6 hr6 hA6;go_wp2_with (first
    | refine wpList_load_row rfl 100 (.tmp 1) rfl w.heap.size rfl 100 _ _ _ HB7.out Tryz.underlying100 rfl HI7.out ?_
    | refine wpList_store_row rfl 100 (.tmp 2) (.tmp 20) rfl (w.heap.size+1) (zb ⟨us,u.user,u.host,-1,u.rest⟩).toArray rfl rfl 100 _ HR7.out HI7.out HS7.out (zh (yZ _)) ?_)
   all_goals try omega
   refine bodyPost_ret (results_cell_row rfl _ _ (w.heap.size+1) 100 _ _ _ rfl (HR7.out.setRow (zb ⟨us,u.user,u.host,-1,u.rest⟩)) Tryz.underlying100 rfl HI7.out) rfl ?_;rw [HUP3.out];exact ⟨rfl,below_setRow HA7.out (by omega) _⟩
  have g5:(u.port==D)=false:=by simpa using hpd
  have hup3:=HUP2.out;rw [if_neg hpd] at hup3;have HB7:Hid (BlkL W6 w.heap.size 100 (zb ⟨us,u.user,u.host,u.port,u.rest⟩)):=KZ9 hb6;have HR7:=KZ9 hr6;have HA7:=KZ9 hA6;have HI7:=KZ9 (yg (u:=⟨us,u.user,u.host,u.port,u.rest⟩) hw.1);have HS7:=KZ9 (show (zb zJ).toArray.size=(zb ⟨us,u.user,u.host,u.port,u.rest⟩).toArray.size by rw [List.size_toArray,List.size_toArray,xN (u:=⟨us,u.user,u.host,u.port,u.rest⟩) hw.1];rfl);have HUP3:=KZ9 hup3;clear hup3 hpd HUP2 hb6 hr6 hA6;go_wp2_with (first
   | refine wpList_load_row rfl 100 (.tmp 1) rfl w.heap.size rfl 100 _ _ _ HB7.out Tryz.underlying100 rfl HI7.out ?_
   | refine wpList_store_row rfl 100 (.tmp 2) (.tmp 20) rfl (w.heap.size+1) (zb ⟨us,u.user,u.host,u.port,u.rest⟩).toArray rfl rfl 100 _ HR7.out HI7.out HS7.out (zh (yZ _)) ?_)
  all_goals try omega
  refine bodyPost_ret (results_cell_row rfl _ _ (w.heap.size+1) 100 _ _ _ rfl (HR7.out.setRow (zb ⟨us,u.user,u.host,u.port,u.rest⟩)) Tryz.underlying100 rfl HI7.out) rfl ?_;rw [HUP3.out];exact ⟨rfl,below_setRow HA7.out (by omega) _⟩
 have hup:=hn1 h80;have hin:=HIN.out;rw [KZ8 h80] at hin;have HIN2:=KZ9 hin;have HUP:=KZ9 hup;clear hin HIN hn1 hn2 h80 hup hmm;go_enter Tryz.func240,Tryz.ntmps240
 go_upto_region 1 with fail
 rw [HW0.out];clear HW0;go_wp2_with (refine wpList_load_row rfl 100 (.tmp 1) rfl w.heap.size rfl 100 _ _ _ HB0.out Tryz.underlying100 rfl HI0.out ?_)
 refine HIN2.out.mono ?_;rintro e w1 ⟨rfl,hb1⟩;have HB1:=KZ9 (HB0.out.below (by omega) hb1);have HR1:=KZ9 (HR0.out.below (by omega) hb1);have HA1:=KZ9 (HBA.out.trans (hb1.mono (by omega)));clear hb1 HIN2 HB0 HR0 HBA;go_wp2_with (first
  | refine wpList_load_row rfl 100 (.tmp 1) rfl w.heap.size rfl 100 _ _ _ HB1.out Tryz.underlying100 rfl HI0.out ?_
  | refine wpList_store_row rfl 100 (.tmp 2) (.tmp 6) rfl (w.heap.size+1) (zb u).toArray rfl rfl 100 _ HR1.out HI0.out HSZ0.out (zh (yZ u)) ?_)
 all_goals try omega
 refine bodyPost_ret (results_cell_row rfl _ _ (w.heap.size+1) 100 _ _ _ rfl (HR1.out.setRow (zb u)) Tryz.underlying100 rfl HI0.out) rfl ?_;rw [HUP.out];exact ⟨rfl,below_setRow HA1.out (by omega) _⟩
end Go.Proofs.YtbnnlkdhpifpeaaGreatDoor
namespace Hs
open Go
theorem ud (a b:Bs):(a==b)=decide (a=b):=by by_cases h:a=b<;>simp [h]
theorem Sb {h:HostP} (hv:yo h=false):sw h=false:=by unfold sw;rw [hv];rfl
theorem RZ {n:Bs} {v:Nat} {x:List Nat} (hv:yo ⟨1,n,v,x⟩=true):sw ⟨1,n,v,x⟩=jz SW n:=by unfold sw;rw [hv];rfl
theorem RY {n:Bs} {v:Nat} {x:List Nat} (hv:yo ⟨2,n,v,x⟩=true):sw ⟨2,n,v,x⟩=decide (v / 16777216=127):=by unfold sw;rw [hv];rfl
theorem RX {n:Bs} {v:Nat} {x:List Nat} (hv:yo ⟨3,n,v,x⟩=true):sw ⟨3,n,v,x⟩=decide (x=[0,0,0,0,0,0,0,1]):=by unfold sw;rw [hv];rfl
theorem VJ {u:UrlP} (h:yY u=false):xS u=false:=by unfold xS;rw [h];rfl
theorem rH {u:UrlP} (h:yY u=true) (hs:u.scheme=zP∨u.scheme=th∨u.scheme=YS):xS u=true:=by unfold xS;rw [h,if_pos hs];rfl
theorem cr {u:UrlP} (h:yY u=true) (hs:u.scheme=gi):xS u=decide (u.rest=gh∨u.rest=qV):=by
 unfold xS;rw [h,if_neg (by rw [hs];decide),if_pos hs];rfl
theorem bX {u:UrlP} (h:yY u=true) (h1:¬ (u.scheme=zP∨u.scheme=th∨u.scheme=YS)) (h2:u.scheme≠gi):xS u=(decide (0<zS u.scheme)&&sw u.host):=by
 unfold xS;rw [h,if_neg h1,if_neg h2];rfl
end Hs
namespace Go.Proofs.YtbnnlkdhpifpeaaGreatDoor
open Go.RowKit Hs
set_option maxRecDepth 20000
set_option maxHeartbeats 4000000
theorem XE (h:HostP) (w:World) (hB:Base w) (hw:xR h) (hn:h.name.length≤100000):Calls Tryz.prog 163 #[.agg (zj h).toArray] w fun e w'=>e= .returned (.bool (sw h))∧Below w.heap.size w w':=by
 obtain ⟨W0,hW0⟩:=KZ6 (w.alloc (.cells (zj h).toArray 98));have hbA:Below w.heap.size w W0:=by rw [hW0];exact (Below.refl _ w).alloc (Nat.le_refl _) _
 have hb0:BlkL W0 w.heap.size 98 (zj h):=by rw [hW0];exact BlkL.new w _ _
 have HW0:Hid (w.alloc (.cells (zj h).toArray 98)=W0):=KZ9 hW0.symm;have hsz:W0.heap.size=w.heap.size+1:=by rw [hW0];simp
 have HV:=KZ9 (jx h W0 (hB.below hbA) hw hn);have HI:=KZ9 (uf hw.1);have HB0:=KZ9 hb0;have HBB:=KZ9 hB;clear hW0 hB;go_enter Tryz.func163,Tryz.ntmps163
 go_upto_region 1 with fail
 rw [HW0.out];clear HW0;go_wp2_with (refine wpList_load_row rfl 98 (.tmp 1) rfl w.heap.size rfl 98 _ _ _ HB0.out Tryz.underlying98 rfl HI.out ?_)
 refine HV.out.mono ?_;rintro e w1 ⟨rfl,hb1⟩;have HALL:=KZ9 (hbA.trans (hb1.mono (by omega)));have hb2:=hb0.below (by omega) hb1;clear hb1 HB0 hb0 HV hbA;obtain ⟨ok,hok⟩:=KZ6 (yo h);rw [←hok];cases ok
 ·have hfin:=KZ9 (Sb hok.symm);clear hok;go_wp2;go_ret;rw [hfin.out];exact ⟨rfl,HALL.out⟩
 obtain ⟨kind,name,v4,v6⟩:=h;simp only at hn;have c0:=hb2.c 0 _ (qg _).1;have c1:=hb2.c 1 _ (qg _).2.1;have c2:=hb2.c 2 _ (qg _).2.2.1;simp only at c0 c1 c2;rcases sE hok.symm with rfl | rfl | rfl
 ·have hfin:=KZ9 (RZ hok.symm);have hcv:=Su ⟨#[108,111,99,97,108,104,111,115,116]⟩ (mk name) w1 (HBB.out.below HALL.out) (by decide) (by rw [zi];omega);rw [zk] at hcv;have HC:=KZ9 hcv;clear hok hb2 hcv;go_wp2_with fail
  refine HC.out.mono ?_;rintro e w2 ⟨rfl,hb3⟩;go_wp2;go_ret;rw [hfin.out];exact ⟨rfl,HALL.out.trans (hb3.mono (by have:=HALL.out.size;omega))⟩
 ·have hfin:=KZ9 (RY hok.symm);have hv4:=hw.2.2.1;simp only at hv4;have e1:(v4:Int) / 16777216=((v4 / 16777216:Nat):Int):=by omega
  obtain ⟨b,hb⟩:=KZ6 (decide (v4 / 16777216=127));rw [←hb] at hfin;have e2:((v4:Int) / 16777216==127)=b:=by
   rw [hb,e1];by_cases h:v4 / 16777216=127
   ·rw [h];rfl
   rw [KZ8 h];simp;omega
  clear hok hb2 hb e1 hv4;go_wp2
  all_goals try omega
  go_ret;rw [hfin.out];exact ⟨rfl,HALL.out⟩
 have hfin:=KZ9 (RX hok.symm);have HR:=KZ9 (hb2.range 3 (yd v6) (fun j v hj=>by rw [(qg _).2.2.2 j];exact hj));have HIA:=KZ9 (show (Tryz.prog.info? 96).map (·.size)=some (yd v6).length by rw [kN,rA,hw.1]);have hq:∀ W,(Op.equalIn 10000 96 (.agg (yd v6).toArray) (.agg #[.int .u16 0,.int .u16 0,.int .u16 0,.int .u16 0,.int .u16 0,.int .u16 0,.int .u16 0,.int .u16 1])).run Tryz.prog W= .ok (decide (v6=[0,0,0,0,0,0,0,1])) W:=Vx v6 [0,0,0,0,0,0,0,1] hw.1 rfl;obtain ⟨b,hb⟩:=KZ6 (decide (v6=[0,0,0,0,0,0,0,1]));rw [←hb] at hfin hq;clear hok hb2 hb;go_wp2_with (refine wpList_load_mid rfl 96 (.tmp 16) rfl w.heap.size 3 rfl (yd v6) _ HR.out Tryz.underlying96 rfl HIA.out ?_)
 all_goals try omega
 go_ret;rw [hfin.out];exact ⟨rfl,HALL.out⟩
theorem WQ (u:UrlP) (w:World) (hB:Base6 w) (hw:xR u.host) (hb:qW u) (hT:okT (xx u)):Calls Tryz.prog 100 #[.agg (zb u).toArray] w fun e w'=>e= .returned (.bool (xS u))∧Below w.heap.size w w':=by
 obtain ⟨W0,hW0⟩:=KZ6 (w.alloc (.cells (zb u).toArray 100));have hbA:Below w.heap.size w W0:=by rw [hW0];exact (Below.refl _ w).alloc (Nat.le_refl _) _
 have hb0:BlkL W0 w.heap.size 100 (zb u):=by rw [hW0];exact BlkL.new w _ _
 have HW0:Hid (w.alloc (.cells (zb u).toArray 100)=W0):=KZ9 hW0.symm;have hsz:W0.heap.size=w.heap.size+1:=by rw [hW0];simp
 have HV:=KZ9 (cf u W0 (hB.below hbA) hw hb hT);have HI0:=KZ9 (yg hw.1);have HB0:=KZ9 hb0;have HBA:=KZ9 hbA;have HBB:=KZ9 hB;have hn:=hb.2.2.1;clear hW0 hbA hb0 hB hT hb;go_enter Tryz.func100,Tryz.ntmps100
 go_upto_region 1 with fail
 rw [HW0.out];clear HW0;go_wp2_with (refine wpList_load_row rfl 100 (.tmp 1) rfl w.heap.size rfl 100 _ _ _ HB0.out Tryz.underlying100 rfl HI0.out ?_)
 refine HV.out.mono ?_;rintro e w1 ⟨rfl,hb1⟩;have hb2:=HB0.out.below (by omega) hb1;have HA1:=KZ9 (HBA.out.trans (hb1.mono (by omega)));clear hb1 HV HB0 HBA;obtain ⟨ok,hok⟩:=KZ6 (yY u);rw [←hok];cases ok
 ·have hfin:=KZ9 (VJ hok.symm);clear hok;go_wp2;go_ret;rw [hfin.out];exact ⟨rfl,HA1.out⟩
 have c0:=hb2.c 0 _ (Y0 u).1;have e1:((mk u.scheme).toList==([104,116,116,112,115]:Bs))=decide (u.scheme=zP):=by rw [toList_mk'];exact ud _ _
 have e2:((mk u.scheme).toList==([119,115,115]:Bs))=decide (u.scheme=th):=by rw [toList_mk'];exact ud _ _
 have e3:((mk u.scheme).toList==([102,105,108,101]:Bs))=decide (u.scheme=YS):=by rw [toList_mk'];exact ud _ _
 have e4:((mk u.scheme).toList==([97,98,111,117,116]:Bs))=decide (u.scheme=gi):=by rw [toList_mk'];exact ud _ _
 by_cases h1:u.scheme=zP
 ·have hfin:=KZ9 (rH hok.symm (.inl h1));rw [KZ7 h1] at e1;clear hok h1 e2 e3 e4;go_wp2;go_ret;rw [hfin.out];exact ⟨rfl,HA1.out⟩
 rw [KZ8 h1] at e1;by_cases h2:u.scheme=th
 ·have hfin:=KZ9 (rH hok.symm (.inr (.inl h2)));rw [KZ7 h2] at e2;clear hok h1 h2 e3 e4;go_wp2;go_ret;rw [hfin.out];exact ⟨rfl,HA1.out⟩
 rw [KZ8 h2] at e2;by_cases h3:u.scheme=YS
 ·have hfin:=KZ9 (rH hok.symm (.inr (.inr h3)));rw [KZ7 h3] at e3;clear hok h1 h2 h3 e4;go_wp2;go_ret;rw [hfin.out];exact ⟨rfl,HA1.out⟩
 rw [KZ8 h3] at e3;by_cases h4:u.scheme=gi
 ·have hfin:=KZ9 (cr hok.symm h4);rw [KZ7 h4] at e4;have c14:=hb2.c 14 _ (sR u hw.1).2.1;have q1:((mk u.rest).toList==([98,108,97,110,107]:Bs))=decide (u.rest=gh):=by rw [toList_mk'];exact ud _ _
  have q2:((mk u.rest).toList==([115,114,99,100,111,99]:Bs))=decide (u.rest=qV):=by rw [toList_mk'];exact ud _ _
  obtain ⟨r1,hr1⟩:=KZ6 (decide (u.rest=gh));obtain ⟨r2,hr2⟩:=KZ6 (decide (u.rest=qV));have hor:decide (u.rest=gh∨u.rest=qV)=(r1||r2):=by rw [hr1,hr2,Bool.decide_or]
  rw [hor] at hfin;rw [←hr1] at q1;rw [←hr2] at q2;clear hok h1 h2 h3 h4 hr1 hr2 hor;cases r1
  all_goals
   go_wp2
   all_goals try omega
   go_ret;rw [hfin.out];exact ⟨by first | rfl | simp,HA1.out⟩
 have hfin:=KZ9 (bX hok.symm (by rintro (h | h | h)<;>contradiction) h4);rw [KZ8 h4] at e4;have hsp:=fun W=>sS (mk u.scheme) W;simp only [zk] at hsp;have HLB:=KZ9 (XE u.host w1 (HBB.out.1.below HA1.out) hw (by omega));obtain ⟨sp,hs⟩:=KZ6 (decide (0<zS u.scheme));rw [←hs] at hfin;simp only [←hs] at hsp;have HSP:=KZ9 hsp;clear hok h1 h2 h3 h4 hs hsp;go_wp2_with fail
 all_goals try omega
 refine (HSP.out _).mono ?_;rintro e w2 ⟨rfl,rfl⟩;cases sp
 ·go_wp2
  all_goals try omega
  go_ret;rw [hfin.out];exact ⟨rfl,HA1.out⟩
 obtain ⟨sc,us,⟨kd,nm,va,v6⟩,pt,rs⟩:=u;obtain ⟨a,b,c,d,e,f,g,i,rfl⟩:=Z5 hw.1;have c2:=hb2.c 2 _ rfl;have c3:=hb2.c 3 _ rfl;have c4:=hb2.c 4 _ rfl;have c5:=hb2.c 5 _ rfl;have c6:=hb2.c 6 _ rfl;have c7:=hb2.c 7 _ rfl;have c8:=hb2.c 8 _ rfl;have c9:=hb2.c 9 _ rfl;have c10:=hb2.c 10 _ rfl;have c11:=hb2.c 11 _ rfl;have c12:=hb2.c 12 _ rfl;go_wp2_with fail
 all_goals try omega
 refine HLB.out.mono ?_;rintro e w2 ⟨rfl,hb3⟩;go_wp2
 all_goals try omega
 go_ret;rw [hfin.out];exact ⟨by simp,HA1.out.trans (hb3.mono (by have:=HA1.out.size;omega))⟩
theorem ql (d:Int) (w:World):Calls Tryz.prog 168 #[.int .i64 d] w fun e w'=>e= .returned (.bool (uG d))∧w=w':=by
 go_enter Tryz.func168,Tryz.ntmps168
 go_wp2
 all_goals
  go_ret;refine ⟨yH ?_,rfl⟩;first | (refine gb ?_;omega) | (refine qn ?_;omega) | (refine Wj ?_;omega) | (refine qo ?_;omega) | (refine qm ?_;omega)
theorem gI (d:Int) (b:Bool) (w:World):Calls Tryz.prog 242 #[.int .i64 d,.bool b] w fun e w'=>e= .returned (.int .i64 (je d b))∧w=w':=by
 cases hv:uG d
 ·have hr:=KZ9 (of_decide_eq_false hv);cases b
  all_goals
   go_enter Tryz.func242,Tryz.ntmps242
   go_wp2_with (go_at_call 168;refine (ql _ _).mono ?_;rintro e w' ⟨rfl,rfl⟩)
   all_goals
    go_ret;refine ⟨xz ?_,rfl⟩;have hr':=hr.out
    (try simp only [beq_iff_eq,beq_eq_false_iff_ne,ne_eq] at *)
    first | (refine dT _ _ ?_;omega) | (refine YL _ _ ?_;omega)
 have hr:=KZ9 (of_decide_eq_true hv);cases b
 all_goals
  go_enter Tryz.func242,Tryz.ntmps242
  go_wp2_with (go_at_call 168;refine (ql _ _).mono ?_;rintro e w' ⟨rfl,rfl⟩)
  all_goals
   go_ret;refine ⟨xz ?_,rfl⟩;have hr':=hr.out
   (try simp only [beq_iff_eq,beq_eq_false_iff_ne,ne_eq] at *)
   first | (refine dT _ _ ?_;omega) | (refine YL _ _ ?_;omega)
end Go.Proofs.YtbnnlkdhpifpeaaGreatDoor
namespace Hs
open Go
end Hs
namespace Go.Proofs.YtbnnlkdhpifpeaaGreatDoor
open Go.RowKit Hs
def yF (c:CtxP) (hv:Value):List Value:=[.bool c.secure,.bool c.prohibits,.bool c.upgrade,.bool c.blockAll,hv]
def yy (d:DecP):List Value:=[.int .i64 (d.action:Int),.int .i64 (d.reason:Int),.string (mk d.url)]
theorem yi:(Tryz.prog.info? 38).map (·.size)=some 3:=by kernel_rfl
theorem Va:(Tryz.prog.info? 120).map (·.size)=some 5:=by kernel_rfl
theorem bK (p:DecP):∀ v∈yy p,v.oneCell'=true:=by
 intro v hv;simp [yy] at hv;rcases hv with rfl | rfl | rfl<;>rfl
end Go.Proofs.YtbnnlkdhpifpeaaGreatDoor
namespace Hs
open Go Go.RowKit
section
variable {P : Program} {C : World → Prop}
def vu (n N:Nat):Array Bool:=((List.range N).map fun j=>decide (j<n)).toArray
def tb (l:List Oper) (n:Nat):Bool:=(List.range n).all fun i=>match l[i]? with
 | none=>true
 | some o=>(o.after.all fun e=> !Region.binds .any e||decide (e.on<i))&&(match o.guard with
  | none=>true
  | some (j,_)=>decide (j<n))
def Y3 (l:List Oper) (n:Nat):Bool :=
 Region.lexB .any (l.take n).toArray&&(decide (n<l.length)&&(Region.sinkB .any l.toArray n&&(Region.chainB .any l.toArray n&&(Region.seqB .any l.toArray (l.length - n) n (vu n l.length)&&tb l n))))
theorem bI {l:List Oper} {n i:Nat} (hi:i<n):(l.take n).toArray[i]? =l.toArray[i]? :=by simp [hi]
theorem uB {l:List Oper} {n i:Nat} {o:Oper} (h:tb l n=true) (hi:i<n) (ho:l[i]? =some o):(∀ e∈o.after,Region.binds .any e=true→e.on<i)∧∀ j b,o.guard=some (j,b)→j<n:=by
 have h1:=List.all_eq_true.1 h i (List.mem_range.2 hi);rw [ho] at h1;simp only [Bool.and_eq_true] at h1;refine ⟨fun e he hb=> ?_,fun j b hg=> ?_⟩
 ·have h2:=Array.all_eq_true_iff_forall_mem.1 h1.1 e he;simp only [hb,Bool.not_true,Bool.false_or,decide_eq_true_eq] at h2;exact h2
 have h2:=h1.2;rw [hg] at h2;exact of_decide_eq_true h2
theorem dy {md:Region.Mode} {ops:Array Oper} {Q:Exit→Act→World→Prop}:∀ (f:Nat) (listed:Array Bool) (a:Act) (w:World),wpAny P md ops Q f listed a w→wpAny P md ops Q (f+1) listed a w
 | 0,_,_,_,h=>⟨fun _=>h.2,fun i hi=>by rw [h.1] at hi;cases hi⟩
 | f+1,_,_,_,h=>⟨h.1,fun i hi=>wpOp_mono (fun a w h=>dy f _ a w h) (h.2 i hi)⟩
theorem kD {md:Region.Mode} {ops:Array Oper} {Q:Exit→Act→World→Prop} {listed:Array Bool} {a:Act} {w:World} {g:Nat} (h:wpAny P md ops Q g listed a w):∀ f,wpAny P md ops Q (f+g) listed a w
 | 0=>by rw [Nat.zero_add];exact h
 | f+1=>by rw [show f+1+g=f+g+1 by omega];exact dy _ _ _ _ (kD h f)
theorem TN {l:List Oper} {n i:Nat} {K:Act→Prop} {a:Act} (hg:tb l n=true) (hi:i<n) (h:qOp P (l.take n).toArray C i K a):qOp P l.toArray C i K a:=by
 unfold qOp at h ⊢;rw [bI hi] at h;cases ho:l.toArray[i]? with
 | none=>rw [ho] at h;exact h
 | some o =>
  rw [ho] at h;have hb:=(uB hg hi (by simpa using ho)).2;have hw:Region.wanted o (yielded (l.take n).toArray a.tmps)=Region.wanted o (yielded l.toArray a.tmps):=by
   unfold Region.wanted;cases hgd:o.guard with
   | none=>rfl
   | some p =>
    obtain ⟨j,b⟩:=p;have hj:=hb j b hgd;simp only;unfold yielded;rw [bI hj]
  simp only [hw] at h;exact h
def Sync (n:Nat) (H L:Array Bool):Prop:=H.size=n∧∀ j,j<n→∀ d,H.getD j d=L.getD j d
theorem Sync.set {n i:Nat} {H L:Array Bool} (h:Sync n H L) (hN:n≤L.size) (hi:i<n):Sync n (H.setIfInBounds i true) (L.setIfInBounds i true):=by
 refine ⟨by simp [h.1],fun j hj d=> ?_⟩;by_cases e:i=j
 ·subst e;have h1:i<H.size:=by rw [h.1];exact hi
  have h2:i<L.size:=by omega
  simp [h1,h2]
 rw [getD_set_ne d e,getD_set_ne d e];exact h.2 j hj d
theorem j9 {l:List Oper} {n i:Nat} {H L:Array Bool} (hg:tb l n=true) (h:Sync n H L) (hi:i<n):i∈Region.ready .any (l.take n).toArray H↔i∈Region.ready .any l.toArray L:=by
 rw [mem_ready,mem_ready,bI hi,h.2 i hi true];constructor
 ·rintro ⟨h0,o,ho,hall⟩;exact ⟨h0,o,ho,fun e he hb=>by rw [←h.2 _ (Nat.lt_trans ((uB hg hi (by simpa using ho)).1 e he hb) hi) false];exact hall e he hb⟩
 rintro ⟨h0,o,ho,hall⟩;exact ⟨h0,o,ho,fun e he hb=>by rw [h.2 _ (Nat.lt_trans ((uB hg hi (by simpa using ho)).1 e he hb) hi) false];exact hall e he hb⟩
theorem j8 {l:List Oper} {n:Nat} {L:Array Bool} (hg:tb l n=true) (hn:n<l.length) (hL:L.size=l.length):∀ i,i<n→L.getD i true=false→∃ j,j<n∧j∈Region.ready .any l.toArray L:=by
 intro i
 induction i using Nat.strongRecOn with
 | _ i ih =>
  intro hi hun;obtain ⟨o,ho⟩:∃ o,l[i]? =some o:=⟨_,List.getElem?_eq_getElem (by omega)⟩;by_cases hr:i∈Region.ready .any l.toArray L
  ·exact ⟨i,hi,hr⟩
  rw [mem_ready] at hr;have:∃ e∈o.after,Region.binds .any e=true∧L.getD e.on false≠true:=by
   refine Classical.byContradiction fun hno=>hr ⟨hun,o,by simpa using ho,fun e he hb=> ?_⟩;exact Classical.byContradiction fun hx=>hno ⟨e,he,hb,hx⟩
  obtain ⟨e,he,hb,hx⟩:=this;have hlt:=(uB hg hi ho).1 e he hb;exact ih e.on hlt (by omega) (getD_in (by omega) (by simpa using hx))
theorem Ql {n N:Nat} {L:Array Bool} (hL:L.size=N) (h1:∀ j,j<n→L.getD j true≠false) (h2:∀ t,n≤t→t<N→L.getD t true=false):L=vu n N:=by
 apply Array.ext
 ·simp [vu,hL]
 intro i hi hi2;have e:L.getD i true=L[i]:=by simp [hi]
 by_cases hin:i<n
 ·have:=h1 i hin;rw [e] at this;simp [vu,hin]
  simpa using this
 have:=h2 i (by omega) (by omega);rw [e] at this;simp [vu,hin];exact this
theorem YX {l:List Oper} {n:Nat} {Q:Act→Prop} {Q':Exit→Act→World→Prop} (hg:tb l n=true) (hn:n<l.length) (hs:Region.sinkB .any l.toArray n=true) (hc:Region.chainB .any l.toArray n=true)
  (hT:∀ a w,C w→Q a→wpAny P .any l.toArray Q' (l.length - n) (vu n l.length) a w):∀ (f:Nat) (H L:Array Bool) (a:Act) (w:World),C w→Sync n H L→HeadInv .any l.toArray n L→wpAnyQ P .any (l.take n).toArray C Q f H a→wpAny P .any l.toArray Q' (f+(l.length - n)) L a w:=by
 have hN:l.toArray.size=l.length:=by simp
 have hdone:∀ {L:Array Bool},HeadInv .any l.toArray n L→(¬ ∃ i,i<n∧L.getD i true=false)→L=vu n l.length:=fun inv h =>
  Ql (inv.size.trans hN) (fun j hj e=>h ⟨j,hj,e⟩) (fun t ht ht2=>inv.tail t ht (by rw [hN];exact ht2))
 intro f
 induction f with
 | zero =>
  intro H L a w hC hsy inv h;have hno:¬ ∃ i,i<n∧L.getD i true=false:=by
   rintro ⟨i,hi,hun⟩;obtain ⟨j,hj,hr⟩:=j8 hg hn (inv.size.trans hN) i hi hun;have:=(j9 hg hsy hj).2 hr;rw [h.1] at this;cases this
  rw [hdone inv hno,Nat.zero_add];exact hT a w hC h.2
 | succ f ih =>
  intro H L a w hC hsy inv h;by_cases hno:∃ i,i<n∧L.getD i true=false
  ·obtain ⟨i0,hi0,hun0⟩:=hno;obtain ⟨j,hj,hr⟩:=j8 hg hn (inv.size.trans hN) i0 hi0 hun0;rw [show f+1+(l.length - n)=f+(l.length - n)+1 by omega];refine ⟨(fun h0=>by rw [h0] at hr;cases hr),fun i hi=> ?_⟩;have hin:i<n:=by
    rcases Nat.lt_or_ge i n with h' | h'
    ·exact h'
    exact absurd hi (tail_waits hs hc (by rw [hN];exact hn) inv _ i0 rfl hi0 hun0 i h')
   exact wpOp_of_qOp hC (fun a' w' hC' h'=>ih _ _ a' w' hC' (hsy.set (by rw [inv.size,hN];omega) hin) (inv.set hi hin) h') (TN hg hin (h.2 i ((j9 hg hsy hin).2 hi)))
  have hr0:Region.ready .any (l.take n).toArray H=[]:=by
   refine List.eq_nil_iff_forall_not_mem.2 fun i hi=> ?_;have hin:i<n:=by
    obtain ⟨_,o,ho,_⟩:=mem_ready.1 hi;have:=(Array.getElem?_eq_some_iff.1 ho).1;simp at this;omega
   have h0:=(mem_ready.1 hi).1;rw [hsy.2 i hin true] at h0;exact hno ⟨i,hin,h0⟩
  have:=kD (hT a w hC (h.1 hr0)) (f+1);rw [hdone inv hno];exact this
theorem jC {id:Nat} {Q:Exit→Act→World→Prop} {a:Act} {w:World} {l:List Oper} (n:Nat) (hm:P.follows .mixedOrders=true) (hB:Y3 l n=true) (hC:C { w with drawn:=w.drawn+1 })
  (h:wpQuiet P (l.take n).toArray C (fun a'=>∀ w',C w'→wpList P l.toArray Q (l.drop n) a' w') (l.take n) a):(Code.region id l.toArray true).wp P Q a w:=by
 simp only [Y3,Bool.and_eq_true,decide_eq_true_eq] at hB;obtain ⟨hlex,hn,hs,hc,hseq,hg⟩:=hB;have hN:l.toArray.size=l.length:=by simp
 have hn2:(l.take n).length=n:=by simp;omega
 simp only [Region.lexB,Bool.and_eq_true] at hlex;have hq:=wpAnyQ_lex (P:=P) (C:=C) (md:= .any) hlex.1 (l.take n) 0 (Array.replicate (l.take n).toArray.size false) a (by simp) (by simpa using hlex.2) h;refine wp_region_any hm ?_;have hsz:(l.take n).toArray.size=n:=by rw [List.size_toArray,hn2]
 have key:=YX (P:=P) (C:=C) (Q':=Q) hg hn hs hc (fun a' w' hC' hQ=>by
  have:=wpAny_of_seq (P:=P) (md:= .any) (Q':=Q) (l.drop n) n (vu n l.length) a' w' (fun j=>by simp [List.getElem?_drop]) (by rw [List.length_drop];exact hseq) (hQ w' hC');rw [List.length_drop] at this;exact this) _ (Array.replicate (l.take n).toArray.size false) (Array.replicate l.toArray.size false) a _ hC
  ⟨by rw [Array.size_replicate,hsz],fun j hj d=>by
   have h1:j<(l.take n).toArray.size:=by rw [hsz];exact hj
   have h2:j<l.toArray.size:=by rw [hN];omega
   simp at h1 h2;simp [h1,h2]⟩
  ⟨by simp,fun j oj _ hl=>(by rw [getD_replicate_false] at hl;cases hl),fun t _ ht=>getD_in (by simpa using ht) (getD_replicate_false _ _)⟩ hq
 rw [hn2,show n+(l.length - n)=l.toArray.size by rw [hN];omega] at key;exact key
end
theorem sf {P:Program} {id:Nat} {Q:Exit→Act→World→Prop} {a:Act} {w:World} (n:Nat) (W:World) {l:List Oper} (hm:P.follows .mixedOrders=true) (hB:Y3 l n=true) (h0:Below W.heap.size W w)
  (h:wpQuiet P (l.take n).toArray (fun w'=>∃ x:xi W,w'=x.1) (fun a'=>∀ w',(∃ x:xi W,w'=x.1)→wpList P l.toArray Q (l.drop n) a' w') (l.take n) a):(Code.region id l.toArray true).wp P Q a w :=
 jC n hm hB ⟨⟨_,h0.drew⟩,rfl⟩ h
end Hs
namespace Go.Proofs.YtbnnlkdhpifpeaaGreatDoor
open Go.RowKit Hs
def uJ (l:Bs) (d:Int) (img:Bool):List Value:=[.string (mk l),.int .i64 d,.bool img]
end Go.Proofs.YtbnnlkdhpifpeaaGreatDoor
namespace Hs
open Go
def bB:Bs:=[98,46,99,111,109]
theorem cX {a b:Bs} (ha:okT a) (hb:okT b):okT (a++b):=fun x hx=>(List.mem_append.1 hx).elim (ha x) (hb x)
theorem RQ {l:Bs} (h:zG l=true):okT l:=fun b hb e=>by
 have:=uz h b hb;unfold wP at this;subst e
 revert this
 decide
theorem cW {n s:Bs} (h:zG n=true) (hs:okT s):okT (s++58::([47,47]++(n++[47]))) :=
 cX hs (cX (a:=[58,47,47]) (by unfold okT;decide) (cX (RQ h) (by unfold okT;decide)))
theorem ra {n s:Bs} (h:zG n=true) (hs:okT s) (hp:0<zS s):okT (xx (zK s n)):=by
 rw [sW s h hp,List.append_nil];exact cW h hs
end Hs
namespace Go.Proofs.YtbnnlkdhpifpeaaGreatDoor
open Go.RowKit Hs
theorem qk (s n:Bs):xR (zK s n).host:=⟨rfl,(by decide:∀ x∈vG,x<65536),(by decide:(0:Nat)<4294967296),(by decide:(1:Nat)≠3)⟩
theorem kZ (s n:Bs) (hs:s.length≤20000) (hn:n.length≤20000):qW (zK s n):=⟨hs,by simp [zK],hn,by simp [zK],.inl rfl⟩
end Go.Proofs.YtbnnlkdhpifpeaaGreatDoor
namespace HsR
open Go Go.RowKit
structure Keeps (G:Nat→Prop) (A B:World):Prop where
 os:B.os=A.os
 tape:B.tape=A.tape
 output:B.output=A.output
 size:A.heap.size≤B.heap.size
 block:∀ k,k<A.heap.size→G k→B.heap[k]? =A.heap[k]?
theorem Keeps.refl (G:Nat→Prop) (A:World):Keeps G A A:=⟨rfl,rfl,rfl,Nat.le_refl _,fun _ _ _=>rfl⟩
theorem Keeps.trans {G:Nat→Prop} {A B C:World} (h:Keeps G A B) (k:Keeps G B C):Keeps G A C :=
 ⟨k.os.trans h.os,k.tape.trans h.tape,k.output.trans h.output,Nat.le_trans h.size k.size,fun i hi hg=>(k.block i (Nat.lt_of_lt_of_le hi h.size) hg).trans (h.block i hi hg)⟩
theorem Keeps.mono {G G':Nat→Prop} {A B:World} (h:Keeps G A B) (hg:∀ k,G' k→G k):Keeps G' A B :=
 ⟨h.os,h.tape,h.output,h.size,fun k hk hg'=>h.block k hk (hg k hg')⟩
theorem Keeps.of_below {G:Nat→Prop} {A B:World} (h:Below A.heap.size A B):Keeps G A B:=⟨h.os,h.tape,h.output,h.size,fun k hk _=>h.block k hk⟩
theorem Keeps.of_grown {G:Nat→Prop} {A B:World} {row:Option Nat} (h:A.grownBy B row) (hr:∀ r,row=some r→¬ G r):Keeps G A B :=
 ⟨h.os,h.tape,h.output,h.size,fun k hk hg=>h.block k hk (fun e=>hr k e.symm hg)⟩
theorem Keeps.alloc (G:Nat→Prop) (A:World) (o:Obj):Keeps G A (A.alloc o):= .of_below ((Below.refl _ A).alloc (Nat.le_refl _) o)
theorem Keeps.setCell {G:Nat→Prop} (A:World) (b j:Nat) (hb:¬ G b) (v:Value):Keeps G A (A.setCell ⟨b,j,none⟩ v):=by
 have h:=(Below.refl 0 A).setCell (p:=⟨b,j,none⟩) (Nat.zero_le _) v;exact ⟨h.os,h.tape,h.output,h.size,fun k hk hg=>Below.heap_setCell A ⟨b,j,none⟩ v k (fun e=>hb (by have e2:k=b:=e;rw [←e2];exact hg))⟩
theorem Keeps.cell {G:Nat→Prop} {A B:World} (h:Keeps G A B) {b j:Nat} (hb:b<A.heap.size) (hg:G b):B.cell? ⟨b,j,none⟩=A.cell? ⟨b,j,none⟩:=World.cell?_of_block (h.block b hb hg)
theorem Keeps.frozen {G:Nat→Prop} {A B:World} (h:Keeps G A B) {b j:Nat} (hb:b<A.heap.size) (hg:G b):B.frozen? ⟨b,j,none⟩=A.frozen? ⟨b,j,none⟩:=World.frozen?_of_block (h.block b hb hg)
theorem Keeps.below {n:Nat} {A B:World} (h:Keeps (· <n) A B) (hn:n≤A.heap.size):Below n A B:=⟨h.os,h.tape,h.output,h.size,fun k hk=>h.block k (by omega) hk⟩
theorem grown_of_below {A B:World} (h:Below A.heap.size A B):A.grownBy B none:=⟨h.os,h.tape,h.output,h.size,fun k hk _=>h.block k hk⟩
theorem grown_setCell (A:World) (b j:Nat) (v:Value):A.grownBy (A.setCell ⟨b,j,none⟩ v) (some b):=by
 have h:=(Below.refl 0 A).setCell (p:=⟨b,j,none⟩) (Nat.zero_le _) v;exact ⟨h.os,h.tape,h.output,h.size,fun k hk hr=>Below.heap_setCell A ⟨b,j,none⟩ v k (fun e=>hr (by rw [e]))⟩
structure AbidesG {β:Type} (J:β→(Nat→Prop)→World→Prop):Prop where
 turn:∀ s G A B row,J s G A→A.grownBy B row→(∀ r,row=some r→G r)→J s G B
 lay:∀ s G A B,J s G A→A.grownBy B none→J s (fun k=>G k∨(A.heap.size≤k∧k<B.heap.size)) B
def Seq {α:Type} (F:Fence) (n:Nat) (P:Program) (g:Nat) (lb:Array Value) (encs:α→Array Value) (own:Nat→Prop) (n₀:Nat) (S Sp:List α→Prop) (w:World):Prop :=
 ∀ (l:Nat) (J Jx:List α→(Nat→Prop)→World→Prop) (W:World),Below w.heap.size w W→AbidesG J→AbidesG Jx →
  (∀ pre x G W1,J pre G W1→Sp (pre++[x])→YieldAt F (n - 1) P l (encs x) W1 fun e W' =>
   (e= .returned (.bool true)∧J (pre++[x]) G W'∧Keeps (fun k=>G k∨k<n₀) W1 W')∨(e= .returned (.bool false)∧Jx (pre++[x]) G W')) →
  J [] own W →
  CallsIn F n P g (#[.func (.yield l) #[] #[]]++lb) W fun e W'=>(∃ v,e= .returned v)∧((∃ xs G,S xs∧J xs G W')∨(∃ pre G,Sp pre∧Jx pre G W'))
def postR {α:Type} (L n₀:Nat) (I:List α→(Nat→Prop)→World→Prop) (Ix:Code→List α→(Nat→Prop)→World→Prop) (xs:List α) (G:Nat→Prop) (W:World):Exit→Act→World→Prop
 | .normal,_,W'=>W'.heap[L]? =W.heap[L]? ∧Keeps (fun k=>G k∨k<n₀) W W'∧I xs G W'
 | .ret,_,W'=>W'.heap[L]? =W.heap[L]? ∧Ix .ret xs G W'
 | .exit id,_,W'=>W'.heap[L]? =W.heap[L]? ∧Ix (.exit id) xs G W'
 | .goto t,_,W'=>W'.heap[L]? =W.heap[L]? ∧Ix (.goto t) xs G W'
 | .panic _,_,_=>False
 | .outgrown,_,_=>False
variable {F : Fence} {n : Nat} {P : Program}
theorem range_law {α:Type} {g:Operand} {ps:Array Tmp} {assign body:Code} {Q:Exit→Act→World→Prop} {a:Act} {w w₁:World} {L dfr:Nat} {mark:List Deferred}
  (h1:1≤n) (hL:L=w₁.heap.size)
  (hent:∀ fn,(Instr.enterLoop fn a.tmps ps assign body F.round).run P w= .ok (L,mark) (w₁.alloc (.loop { state:= .ready,pending:=none,fn,tmps:=a.tmps,params:=ps,assign,body,defers:=dfr })))
  {gf:Nat} {lb:Array Value} (hg:a.eval g= .func (.func gf) #[] lb) (hFg:F.fn gf) (eg:∀ args w,(callFunc gf args).run P w= .ok (.enter gf args) w)
  {encs:α→Array Value} {own:Nat→Prop} {n₀:Nat} {S Sp:List α→Prop} {w0:World} (hseq:Seq F (n - 1) P gf lb encs own n₀ S Sp w0)
  (hb0:Below w0.heap.size w0 w₁) (hps:∀ x,(encs x).size=ps.size) (hn₀:n₀≤L) (hown:¬ own L)
  (I:List α→(Nat→Prop)→World→Prop) (Ix:Code→List α→(Nat→Prop)→World→Prop)
  (hIt:∀ s G A B row,I s G A→A.grownBy B row→(∀ r,row=some r→G r∨r=L)→I s G B)
  (hIl:∀ s G A B,I s G A→A.grownBy B none→I s (fun k=>G k∨(A.heap.size≤k∧k<B.heap.size)) B)
  (hXt:∀ c s G A B row,Ix c s G A→A.grownBy B row→(∀ r,row=some r→G r∨r=L)→Ix c s G B)
  (hXl:∀ c s G A B,Ix c s G A→A.grownBy B none→Ix c s (fun k=>G k∨(A.heap.size≤k∧k<B.heap.size)) B)
  (h0:∀ o,I [] own (w₁.alloc o)) (Ax:α→Act→World→Prop)
  (hAx:∀ x a' A B row,Ax x a' A→A.grownBy B row→(∀ r,row=some r→r=L)→Ax x a' B)
  (hassign:∀ (pre:List α) (x:α) (G:Nat→Prop) (W:World) (K:Act→World→Prop),I pre G W→Sp (pre++[x]) →
   (∀ a' W',W'.heap[L]? =W.heap[L]? →Keeps (fun k=>G k∨k<n₀) W W'→I pre G W'→Ax x a' W'→K a' W') →
   assign.wpIn (F.inRound L) (n - 1 - 1) P (Exit.then K (fun _ _ _=>False)) { tmps:=(ps.zip (encs x)).foldl (fun t (p,v)=>t.setIfInBounds p v) a.tmps,defers:=[] } W)
  (hbody:∀ (pre:List α) (x:α) (G:Nat→Prop) (a':Act) (W:World),(∃ r,W.heap[L]? =some (.loop r))→I pre G W→Ax x a' W→Sp (pre++[x]) →
   body.wpIn (F.inRound L) (n - 1 - 1) P (postR L n₀ I Ix (pre++[x]) G W) a' W)
  (hdone:∀ (xs:List α) (G:Nat→Prop) (W:World),S xs→I xs G W→Q .normal { a with defers:=mark++a.defers } W)
  (hstop:∀ (c:Code) (pre:List α) (G:Nat→Prop) (W:World),Sp pre→Ix c pre G W→c.wpIn F n P Q { a with defers:=mark++a.defers } W) :
  (Code.rangeFunc g ps assign body).wpIn F n P Q a w:=by
 subst hL;refine wpIn_rangeFunc fun fn hfn=> ?_;obtain ⟨rec,hrec⟩:∃ rec:LoopState→Option Code→Loop,rec=fun st pe=>{ state:=st,pending:=pe,fn,tmps:=a.tmps,params:=ps,assign,body,defers:=dfr }:=⟨_,rfl⟩;have hent':=hent fn;rw [show Obj.loop { state:= .ready,pending:=none,fn,tmps:=a.tmps,params:=ps,assign,body,defers:=dfr }=Obj.loop (rec .ready none) from by rw [hrec]] at hent';have hL1:=World.alloc_heap_new w₁ (.loop (rec .ready none));have hI1:=h0 (.loop (rec .ready none));have hb1:Below w0.heap.size w0 (w₁.alloc (.loop (rec .ready none))):=hb0.trans (((Below.refl _ w₁).alloc (Nat.le_refl _) _).mono hb0.size);generalize w₁.alloc (.loop (rec .ready none))=W1 at *;generalize w₁.heap.size=L at *;refine ⟨L,mark,W1,{ target:= .fn (.func gf) lb,args:=#[.func (.yield L) #[] #[]] },W1,gf,#[.func (.yield L) #[] #[]]++lb,W1,hent',?_,?_,?_,fun _=>h1,?_⟩
 ·simp only [resolve,hg];simp [go_sem]
 ·intro f' hf';simp [Target.leads] at hf';subst hf';exact hFg
 ·simp [invoke,go_sem,eg]
 have keepL:∀ {G:Nat→Prop} {A B:World} {row:Option Nat} {o:Obj},A.heap[L]? =some o→¬ G L→A.grownBy B row→(∀ r,row=some r→G r)→B.heap[L]? =some o :=
  fun hl hG hg' hr=>(hg'.block L (Array.getElem?_eq_some_iff.1 hl).1 (fun e=>hG (hr L e.symm))).trans hl
 have layL:∀ {G:Nat→Prop} {A B:World} {o:Obj},A.heap[L]? =some o→¬ G L→¬ (G L∨(A.heap.size≤L∧L<B.heap.size)) :=
  fun hl hG h=>h.elim hG fun h=>by have:=(Array.getElem?_eq_some_iff.1 hl).1;omega
 have put:∀ (W:World) (o:Obj),W.grownBy (W.putObj L o) (some L):=fun W o=>grownBy_putObj' W L o;refine (hseq L (fun pre G W=>I pre G W∧¬ G L∧W.heap[L]? =some (.loop (rec .ready none)))
  (fun pre G W=>∃ c,Ix c pre G W∧¬ G L∧W.heap[L]? =some (.loop (rec .done (some c)))) W1 hb1
  ⟨fun s G A B row hs hg' hr=>⟨hIt s G A B row hs.1 hg' (fun r e=> .inl (hr r e)),hs.2.1,keepL hs.2.2 hs.2.1 hg' hr⟩,
   fun s G A B hs hg'=>⟨hIl s G A B hs.1 hg',layL hs.2.2 hs.2.1,keepL (G:=G) hs.2.2 hs.2.1 hg' (fun r e=>by cases e)⟩⟩
  ⟨fun s G A B row ⟨c,hs,hG,hl⟩ hg' hr=>⟨c,hXt c s G A B row hs hg' (fun r e=> .inl (hr r e)),hG,keepL hl hG hg' hr⟩,
   fun s G A B ⟨c,hs,hG,hl⟩ hg'=>⟨c,hXl c s G A B hs hg',layL hl hG,keepL (G:=G) hl hG hg' (fun r e=>by cases e)⟩⟩
  ?_ ⟨hI1,hown,hL1⟩).mono ?_
 ·rintro pre x G W ⟨hi,hG,hl⟩ hlen;have hy:=run_yield (P:=P) (args:=encs x) hl (by rw [hrec];exact hps x);rw [hrec] at hy;refine ⟨fn,_,assign,body,hy,roundIn_of_wpIn hfn (hassign pre x G W _ hi hlen ?_)⟩;clear hy;intro a' Wa hla hka hia hax;have hl0:=hla.trans hl;refine ⟨_,run_beginRound hl0 (by rw [hrec]),?_⟩;have hlt:=(Array.getElem?_eq_some_iff.1 hl0).1;have hbusy:(Wa.putObj L (.loop { rec .ready none with state:= .busy })).heap[L]? =some (.loop { rec .ready none with state:= .busy }):=World.putObj_heap_same hlt;have hkb:Keeps (fun k=>G k∨k<n₀) W (Wa.putObj L (.loop { rec .ready none with state:= .busy })) :=
   hka.trans (.of_grown (put _ _) (fun r e=>by cases e;exact fun h=>h.elim hG (by omega)))
  refine wpIn_mono (hbody pre x G a' _ ⟨_,hbusy⟩ (hIt _ _ _ _ _ hia (put _ _) (fun r e=>by cases e;exact .inr rfl)) (hAx _ _ _ _ _ hax (put _ _) (fun r e=>by cases e;rfl)) hlen) ?_;have fin:∀ (jump:Option Code) (W3:World),W3.heap[L]? =(Wa.putObj L (.loop { rec .ready none with state:= .busy })).heap[L]? →
    (Instr.endRound L jump).run P W3= .ok (.bool jump.isNone) (W3.putObj L (.loop (rec (if jump.isNone then .ready else .done) jump))) ∧
    (W3.putObj L (.loop (rec (if jump.isNone then .ready else .done) jump))).heap[L]? =some (.loop (rec (if jump.isNone then .ready else .done) jump)):=fun jump W3 h3=>by
   have hl3:=h3.trans hbusy;have:=run_endRound (P:=P) jump hl3;rw [hrec] at this ⊢;exact ⟨this,World.putObj_heap_same (Array.getElem?_eq_some_iff.1 hl3).1⟩
  rintro e a3 W3 hp;cases e with
  | normal =>
   obtain ⟨h3,hk3,hi3⟩:=hp;obtain ⟨hr,hl4⟩:=fin none W3 h3;exact ⟨_,_,hr,.inl ⟨rfl,⟨hIt _ _ _ _ _ hi3 (put _ _) (fun r e=>by cases e;exact .inr rfl),hG,hl4⟩,
    (hkb.trans hk3).trans (.of_grown (put _ _) (fun r e=>by cases e;exact fun h=>h.elim hG (by omega)))⟩⟩
  | ret =>
   obtain ⟨hr,hl4⟩:=fin (some .ret) W3 hp.1;exact ⟨_,_,hr,.inr ⟨rfl,.ret,hXt _ _ _ _ _ _ hp.2 (put _ _) (fun r e=>by cases e;exact .inr rfl),hG,hl4⟩⟩
  | exit id =>
   obtain ⟨hr,hl4⟩:=fin (some (.exit id)) W3 hp.1;exact ⟨_,_,hr,.inr ⟨rfl,.exit id,hXt _ _ _ _ _ _ hp.2 (put _ _) (fun r e=>by cases e;exact .inr rfl),hG,hl4⟩⟩
  | goto t =>
   obtain ⟨hr,hl4⟩:=fin (some (.goto t)) W3 hp.1;exact ⟨_,_,hr,.inr ⟨rfl,.goto t,hXt _ _ _ _ _ _ hp.2 (put _ _) (fun r e=>by cases e;exact .inr rfl),hG,hl4⟩⟩
  | panic ch=>exact hp.elim
  | outgrown=>exact hp.elim
 rintro e W2 ⟨⟨v,rfl⟩,(⟨xs,G,hS,hi,hG,hl⟩ | ⟨pre,G,hSp,c,hi,hG,hl⟩)⟩
 ·exact ⟨none,_,by have:=run_endLoop (P:=P) hl (by rw [hrec];simp);rw [hrec] at this;exact this,hdone xs G _ hS (hIt _ _ _ _ _ hi (put _ _) (fun r e=>by cases e;exact .inr rfl))⟩
 exact ⟨some c,_,by have:=run_endLoop (P:=P) hl (by rw [hrec];simp);rw [hrec] at this;exact this,hstop c pre G _ hSp (hXt _ _ _ _ _ _ hi (put _ _) (fun r e=>by cases e;exact .inr rfl))⟩
theorem enter_outer (hro:F.round=none) (w:World) (a:Act) (ps:Array Tmp) (assign body:Code):∀ fn,(Instr.enterLoop fn a.tmps ps assign body F.round).run P w= .ok (w.heap.size+1,[{ target:= .collected w.heap.size,args:=#[] }]) ((w.alloc (.deferred (some []))).alloc (.loop { state:= .ready,pending:=none,fn,tmps:=a.tmps,params:=ps,assign,body,defers:=w.heap.size })):=fun fn=>by
 rw [hro];exact run_enterLoop_outer _ _ _ _ _
end HsR
namespace Hs
def x9 (b:UInt8):Bool:=decide (b.toNat=9∨(32≤b.toNat∧b.toNat≠127))
def yB (p:UInt8→Bool):Bs→Nat
 | []=>0
 | b::r=>if p b then yB p r+1 else 0
def zm (l:Bs) (i:Nat):Nat:=i+yB wh (l.drop i)
def tj (l:Bs):Bool:= !l.isEmpty&&l.all wh
theorem pq (p:UInt8→Bool):∀ l:Bs,yB p l≤l.length
 | []=>by simp [yB]
 | b::r=>by
  have:=pq p r;unfold yB;split<;>simp only [List.length_cons]<;>omega
theorem sV (l:Bs) (i:Nat):i≤zm l i:=by unfold zm;omega
theorem sU (l:Bs) (i:Nat) (h:i≤l.length):zm l i≤l.length:=by
 have:=pq wh (l.drop i);rw [List.length_drop] at this;unfold zm;omega
theorem Y2 (l:Bs) (i:Nat) (h:l.length≤i):zm l i=i:=by
 unfold zm;rw [List.drop_eq_nil_of_le h];rfl
theorem Y1 (l:Bs) (i:Nat) (h:i<l.length) (ht:wh l[i]=true):zm l i=zm l (i+1):=by
 unfold zm;rw [List.drop_eq_getElem_cons h,yB,if_pos ht];omega
theorem VL (l:Bs) (i:Nat) (h:i<l.length) (ht:wh l[i]=false):zm l i=i:=by
 unfold zm;rw [List.drop_eq_getElem_cons h,yB,if_neg (by simp [ht])];omega
theorem pQ (p:UInt8→Bool):∀ (l:Bs) (h:yB p l<l.length),p (l[yB p l])=false
 | [],h=>by simp [yB] at h
 | b::r,h=>by
  by_cases hb:p b=true
  ·have e:yB p (b::r)=yB p r+1:=by rw [yB,if_pos hb]
   simp only [e,List.getElem_cons_succ];exact pQ p r (by rw [e] at h;simpa using h)
  have e:yB p (b::r)=0:=by rw [yB,if_neg hb]
  simp only [e,List.getElem_cons_zero]
  simpa using hb
structure QRes where
 v:Bs
 n:Nat
 e:Int
def xg:Bs→Bool→Bs→Nat→QRes
 | [],_,_,_=>⟨[],0,5⟩
 | b::r,esc,acc,pos =>
  if x9 b=false then ⟨[],0,4⟩
  else if esc then xg r false (acc++[b]) (pos+1)
  else if b.toNat=92 then xg r true acc (pos+1)
  else if b.toNat=34 then ⟨acc,pos+1,0⟩
  else xg r false (acc++[b]) (pos+1)
def yj (l:Bs) (i:Int):QRes :=
 if i<0∨(l.length:Int)<i then ⟨[],0,2⟩
 else if h:i.toNat<l.length then (if (l[i.toNat]'h).toNat=34 then xg (l.drop (i.toNat+1)) false [] (i.toNat+1) else ⟨[],0,4⟩)
 else ⟨[],0,4⟩
theorem VW (b:UInt8) (r:Bs) (esc:Bool) (acc:Bs) (pos:Nat) (h:x9 b=false):xg (b::r) esc acc pos=⟨[],0,4⟩:=by rw [xg,if_pos h]
theorem VU (b:UInt8) (r:Bs) (acc:Bs) (pos:Nat) (h:x9 b=true):xg (b::r) true acc pos=xg r false (acc++[b]) (pos+1):=by rw [xg,if_neg (by simp [h]),if_pos rfl]
theorem Xg (b:UInt8) (r:Bs) (acc:Bs) (pos:Nat) (hb:b.toNat=92):xg (b::r) false acc pos=xg r true acc (pos+1):=by
 have h:x9 b=true:=KZ7 (by omega);rw [xg,if_neg (by simp [h]),if_neg (by decide),if_pos hb]
theorem VV (b:UInt8) (r:Bs) (acc:Bs) (pos:Nat) (hb:b.toNat=34):xg (b::r) false acc pos=⟨acc,pos+1,0⟩:=by
 have h:x9 b=true:=KZ7 (by omega);rw [xg,if_neg (by simp [h]),if_neg (by decide),if_neg (by omega),if_pos hb]
theorem Xf (b:UInt8) (r:Bs) (acc:Bs) (pos:Nat) (h:x9 b=true) (h1:b.toNat≠92) (h2:b.toNat≠34):xg (b::r) false acc pos=xg r false (acc++[b]) (pos+1):=by
 rw [xg,if_neg (by simp [h]),if_neg (by decide),if_neg h1,if_neg h2]
theorem qA (l:Bs) (i:Nat) (h:i<l.length) (hq:l[i].toNat=34):yj l i=xg (l.drop (i+1)) false [] (i+1):=by
 unfold yj;rw [if_neg (by omega)];simp only [Int.toNat_natCast];rw [dif_pos h,if_pos hq]
theorem kw (l:Bs) (i:Nat) (hi:i≤l.length) (hq:∀ h:i<l.length,l[i].toNat≠34):yj l i=⟨[],0,4⟩:=by
 unfold yj;rw [if_neg (by omega)];simp only [Int.toNat_natCast];by_cases h:i<l.length
 ·rw [dif_pos h,if_neg (hq h)]
 rw [dif_neg h]
end Hs
namespace Hs
open Go
abbrev Fld:=Bs × Bs
theorem cY (l:Bs) (c:UInt8) (j:Nat) (hj:j<l.length):Lib.occAt l [c] j=(c==l[j]):=by
 unfold Lib.occAt;rw [List.drop_eq_getElem_cons hj];simp [List.isPrefixOf]
theorem YI (a r:Bs) (c:UInt8) (h:c∉a):Lib.cut (a++c::r) [c]=(a,r,true):=by
 have hi:Lib.index (a++c::r) [c]=(a.length:Int):=by
  refine Lib.index_first (by simp) ?_ ?_
  ·rw [cY _ _ _ (by simp)];simp
  intro j hj;rw [cY _ _ _ (by simp;omega),List.getElem_append_left hj];have hne:c≠a[j]:=fun e=>h (e▸List.getElem_mem hj);simp [hne]
 unfold Lib.cut;rw [hi,if_pos (by omega)];simp
theorem X7 (l:Bs) (c:UInt8) (h:c∉l):Lib.cut l [c]=(l,[],false):=by
 have hi:Lib.index l [c]= -1:=by
  rcases Lib.index_spec l [c] with ⟨h1,_⟩ | ⟨i,h1,h2,h3,_⟩
  ·exact h1
  exfalso;by_cases hil:i<l.length
  ·rw [cY _ _ _ hil] at h3;simp at h3;exact h (h3▸List.getElem_mem hil)
  unfold Lib.occAt at h3;rw [List.drop_eq_nil_of_le (by omega)] at h3;simp at h3
 unfold Lib.cut;rw [hi,if_neg (by omega)]
theorem qP (c:UInt8):∀ l:Bs,c∈l→∃ a r,l=a++c::r∧c∉a
 | [],h=>by cases h
 | x::l,h=>by
  by_cases hx:x=c
  ·exact ⟨[],l,by simp [hx],by simp⟩
  have h':c∈l:=by
   rcases List.mem_cons.1 h with e | e
   ·exact absurd e.symm hx
   exact e
  obtain ⟨a,r,e,hn⟩:=qP c l h';exact ⟨x::a,r,by simp [e],by simp [hn];exact fun e=>hx e.symm⟩
theorem Zf (l:Bs) (c:UInt8):(∃ a r,l=a++c::r∧c∉a)∨c∉l:=by
 by_cases h:c∈l
 ·exact .inl (qP c l h)
 exact .inr h
def yx (l:Bs):Bs:=if l.getLast? =some 13 then l.dropLast else l
theorem gn (l:Bs):Lib.trimSuffix l [13]=yx l:=by
 unfold Lib.trimSuffix Lib.hasSuffix yx;by_cases h:l.getLast? =some 13
 ·obtain ⟨t,rfl⟩:=List.getLast?_eq_some_iff.1 h;have:([13]:Bs).isSuffixOf (t++[13])=true:=by rw [List.isSuffixOf_iff_suffix];exact List.suffix_append _ _
  simp [this]
 rw [if_neg h,if_neg];intro hs;rw [List.isSuffixOf_iff_suffix] at hs;obtain ⟨t,rfl⟩:=hs;exact h (by simp)
theorem sz (l:Bs):(yx l).length≤l.length:=by
 unfold yx;split<;>simp
def xJ:Bs→Bs→List (Bs × Bool)
 | cur,[]=>if cur.isEmpty then [] else [(yx cur,false)]
 | cur,b::r=>if b=10 then (if (yx cur).isEmpty then [] else (yx cur,true)::xJ [] r) else xJ (cur++[b]) r
def yL (l:Bs):List (Bs × Bool):=xJ [] l
theorem ry:∀ (r cur:Bs),(10:UInt8)∉r→xJ cur r=if (cur++r).isEmpty then [] else [(yx (cur++r),false)]
 | [],cur,_=>by simp [xJ]
 | b::r,cur,h=>by
  have hb:¬ b=10:=fun e=>h (by simp [e]);have hr:(10:UInt8)∉r:=fun e=>h (by simp [e]);rw [xJ,if_neg hb,ry r _ hr];simp
theorem tL:∀ (a r cur:Bs),(10:UInt8)∉a→xJ cur (a++10::r)=if (yx (cur++a)).isEmpty then [] else (yx (cur++a),true)::yL r
 | [],r,cur,_=>by simp [xJ,yL]
 | b::a,r,cur,h=>by
  have hb:¬ b=10:=fun e=>h (by simp [e]);have hr:(10:UInt8)∉a:=fun e=>h (by simp [e]);rw [List.cons_append,xJ,if_neg hb,tL a r _ hr];simp
theorem kJ:yL []=[]:=rfl
theorem Z0 (l:Bs) (h:(10:UInt8)∉l) (h0:l≠[]):yL l=[(yx l,false)]:=by
 unfold yL;rw [ry l [] h,List.nil_append,if_neg (by simp [h0])]
theorem XL (a r:Bs) (h:(10:UInt8)∉a) (h0:yx a=[]):yL (a++10::r)=[]:=by
 unfold yL;rw [tL a r [] h,List.nil_append,if_pos (by simp [h0])]
theorem ZZ (a r:Bs) (h:(10:UInt8)∉a) (h0:yx a≠[]):yL (a++10::r)=(yx a,true)::yL r:=by
 unfold yL;rw [tL a r [] h,List.nil_append,if_neg (by simp [h0])];rfl
theorem tK:∀ (r cur:Bs) (x:Bs × Bool),x∈xJ cur r→x.1.length≤cur.length+r.length
 | [],cur,x,h=>by
  unfold xJ at h;split at h
  ·cases h
  rw [List.mem_singleton] at h;subst h;have:=sz cur;simp;omega
 | b::r,cur,x,h=>by
  unfold xJ at h;split at h
  ·split at h
   ·cases h
   rcases List.mem_cons.1 h with rfl | h
   ·have:=sz cur;simp;omega
   have:=tK r [] x h;simp at this ⊢;omega
  have:=tK r _ x h;simp at this ⊢;omega
theorem XK (l:Bs) (x:Bs × Bool) (h:x∈yL l):x.1.length≤l.length:=by
 have:=tK l [] x h
 simpa using this
def qh (t:Bs):Option Fld :=
 if 0<zm t 0∧t[zm t 0]? =some 58∧(t.drop (zm t 0+1)).all x9=true then some (zt (t.take (zm t 0)),sh (t.drop (zm t 0+1))) else none
theorem bZ (l:Bs):zm l 0=yB wh l:=by unfold zm;simp
theorem pP (p:UInt8→Bool):∀ (a:Bs) (c:UInt8) (r:Bs),a.all p=true→p c=false→yB p (a++c::r)=a.length
 | [],c,r,_,hc=>by simp [yB,hc]
 | b::a,c,r,ha,hc=>by
  simp only [List.all_cons,Bool.and_eq_true] at ha;rw [List.cons_append,yB,if_pos ha.1,pP p a c r ha.2 hc];rfl
theorem Pm:wh 58=false:=by decide
theorem qs (p:UInt8→Bool):∀ (a r:Bs),a.all p=false→yB p (a++r)<a.length
 | [],r,h=>by simp at h
 | b::a,r,h=>by
  by_cases hb:p b=true
  ·rw [List.cons_append,yB,if_pos hb];have:=qs p a r (by simpa [hb] using h);simp only [List.length_cons];omega
  rw [List.cons_append,yB,if_neg hb];simp
theorem bJ (n v:Bs) (h:(58:UInt8)∉n):qh (n++58::v)=if tj n=true∧v.all x9=true then some (zt n,sh v) else none:=by
 unfold qh tj;rw [bZ];by_cases hn:n.all wh=true
 ·rw [pP wh n 58 v hn Pm];have h1:(n++58::v)[n.length]? =some 58:=by simp
  have h2:(n++58::v).drop (n.length+1)=v:=by simp
  have h3:(n++58::v).take n.length=n:=by simp
  rw [h1,h2,h3,hn];cases n<;>simp
 have hn':n.all wh=false:=by simpa using hn
 have hlt:=qs wh n (58::v) hn';have h1:(n++58::v)[yB wh (n++58::v)]? ≠some 58:=by
  rw [List.getElem?_append_left hlt];intro e;exact h (List.mem_of_getElem? e)
 rw [if_neg (fun hh=>h1 hh.2.1),hn'];simp
theorem Yp (t:Bs) (h:(58:UInt8)∉t):qh t=none:=by
 unfold qh;rw [if_neg];exact fun hh=>h (List.mem_of_getElem? hh.2.1)
def wJ:List (Bs × Bool)→List Fld→List Fld × Int
 | [],acc=>(acc,0)
 | (t,ok)::r,acc=>if ok=false then ([],5) else if acc.length=100 then ([],3) else match qh t with
  | none=>([],4)
  | some f=>wJ r (acc++[f])
theorem j6 (t:Bs) (r:List (Bs × Bool)) (acc:List Fld):wJ ((t,false)::r) acc=([],5):=by simp [wJ]
theorem j7 (t:Bs) (r:List (Bs × Bool)) (acc:List Fld) (h:acc.length=100):wJ ((t,true)::r) acc=([],3):=by simp [wJ,h]
theorem sj (t:Bs) (r:List (Bs × Bool)) (acc:List Fld) (h:acc.length≠100) (hf:qh t=none):wJ ((t,true)::r) acc=([],4):=by simp [wJ,h,hf]
theorem Xi (t:Bs) (r:List (Bs × Bool)) (acc:List Fld) (f:Fld) (h:acc.length≠100) (hf:qh t=some f):wJ ((t,true)::r) acc=wJ r (acc++[f]):=by simp [wJ,h,hf]
def rR (l:Bs):List Fld × Int:=if 16384<l.length then ([],3) else wJ (yL l) []
theorem cO (l:Bs) (h:¬ 16384<l.length):rR l=wJ (yL l) []:=if_neg h
def xm (l:List Fld) (n:Bs):List Bs:=(l.filter fun f=>zt f.1==zt n).map (·.2)
theorem rx (a b:List Fld) (n:Bs):xm (a++b) n=xm a n++xm b n:=by simp [xm]
def sH (l:List Fld) (n:Bs):Bs × Bool:=match xm l n with | []=>([],false) | v::_=>(v,true)
end Hs
namespace Go.Proofs.YtbnnlkdhpifpeaaGreatDoor
open Go.RowKit Go.Shelf Hs HsR
attribute [local go_sem] Oper.semAt_some
def MaxOk (w:World):Prop:=∃ m,w.cell? ⟨0,0,none⟩=some (.int .i64 m)
theorem MaxOk.below {w w':World} {n:Nat} (h:MaxOk w) (hb:Below n w w') (hn:0<n):MaxOk w' :=
 h.elim fun m hm=>⟨m,(hb.cell (p:=⟨0,0,none⟩) hn).trans hm⟩
theorem MaxOk.lt {w:World} (h:MaxOk w):0<w.heap.size:=h.elim fun m hm=>World.block_lt_of_cell? w _ hm
theorem Vs (s:ByteArray) (a r:Bs) (c:UInt8) (w:World) (hm:MaxOk w) (hs:s.size≤100000000) (h:un s=a++c::r) (hc:c∉a) :
  Calls Tryz.prog 77 #[.string s,.string ⟨#[c]⟩] w fun e w'=>e= .returned (.tuple #[.string (mk a),.string (mk r),.bool true])∧Below w.heap.size w w':=by
 obtain ⟨m,hm⟩:=hm;refine (Tryz.strings_Cut s ⟨#[c]⟩ m w (by omega) hm).mono ?_;rintro e w' ⟨rfl,n,rfl⟩;have e1:s.data.toList=a++c::r:=h;refine ⟨?_,below_drewN (Below.refl _ w) n⟩;rw [e1];show Ending.returned (.tuple #[.string ⟨(Lib.cut (a++c::r) [c]).1.toArray⟩,.string ⟨(Lib.cut (a++c::r) [c]).2.1.toArray⟩,.bool (Lib.cut (a++c::r) [c]).2.2])=_;rw [YI a r c hc];rfl
theorem SJ (s:ByteArray) (c:UInt8) (w:World) (hm:MaxOk w) (hs:s.size≤100000000) (hc:c∉un s) :
  Calls Tryz.prog 77 #[.string s,.string ⟨#[c]⟩] w fun e w'=>e= .returned (.tuple #[.string s,.string ⟨#[]⟩,.bool false])∧Below w.heap.size w w':=by
 obtain ⟨m,hm⟩:=hm;refine (Tryz.strings_Cut s ⟨#[c]⟩ m w (by omega) hm).mono ?_;rintro e w' ⟨rfl,n,rfl⟩;refine ⟨?_,below_drewN (Below.refl _ w) n⟩;show Ending.returned (.tuple #[.string ⟨(Lib.cut (un s) [c]).1.toArray⟩,.string ⟨(Lib.cut (un s) [c]).2.1.toArray⟩,.bool (Lib.cut (un s) [c]).2.2])=_;rw [X7 (un s) c hc];show Ending.returned (.tuple #[.string (mk (un s)),_,_])=_;rw [x8]
theorem cu (l:Bs) (w:World) (hs:l.length≤100000000):Calls Tryz.prog 143 #[.string (mk l),.string ⟨#[13]⟩] w fun e w'=>e= .returned (.string (mk (yx l)))∧w=w':=by
 refine (Tryz.strings_TrimSuffix (mk l) ⟨#[13]⟩ w (by rw [zi];omega)).mono ?_;rintro e w' ⟨rfl,rfl⟩;refine ⟨?_,rfl⟩;show Ending.returned (.string ⟨(Lib.trimSuffix (un (mk l)) [13]).toArray⟩)=_;rw [zk,gn];rfl
set_option maxHeartbeats 1000000
theorem Qi (s:ByteArray) (w:World):Calls Tryz.prog 76 #[.string s] w fun e w'=>e= .returned (.func (.func 142) #[] #[.pointer (some ⟨w.heap.size,0,none⟩)])∧w'=w.alloc (.cells #[.string s] 9):=by
 go_enter Tryz.func76,Tryz.ntmps76
 go_wp2;go_ret;exact ⟨rfl,rfl⟩
abbrev Sd (x:Bs × Bool):Array Value:=#[.string (mk x.1),.bool x.2]
def k9 (c:Nat) (w:World):Nat:=match w.cell? ⟨c,0,none⟩ with | some v=>uH v | none=>0
theorem sK {c:Nat} {w:World} {t:TypeId} {s:ByteArray} (h:Boxed w c t (.string s)):k9 c w=s.size:=by unfold k9;rw [h.cell];rfl
set_option maxRecDepth 100000
set_option maxHeartbeats 2000000
theorem Ux (n c n₀:Nat) (s:ByteArray) (w:World) (hn:1≤n) (hb:Boxed w c 9 (.string s)) (hs:s.size≤1000000) (hm:MaxOk w) (hg:0<n₀) (hn₀:n₀≤w.heap.size) (hcn:n₀≤c) :
  HsR.Seq Fence.wide n Tryz.prog 142 #[.pointer (some ⟨c,0,none⟩)] Sd (fun k=>k=c) n₀ (fun xs=>xs=yL (un s)) (fun pre=>pre <+: yL (un s)) w:=fun l J Jx W hW hJ hJx hY h0=>by
 have hsp:=World.size_alloc;refine callsIn_of_wp Tryz.func142 rfl trivial ?_ rfl;simp only [Tryz.ntmps142,List.size_toArray,List.length_cons,List.length_nil,Nat.reduceAdd,Nat.reduceSub,Array.replicate_succ,Array.replicate_zero,List.push_toArray,List.append_toArray,List.nil_append,List.cons_append]
 gi_wp2
 gi_loopw [] (fun wr=>∃ (pre:List (Bs × Bool)) (t:ByteArray) (G:Nat→Prop),Hid (pre++yL (un t)=yL (un s))∧t.size≤s.size∧Boxed wr c 9 (.string t)∧J pre G wr∧G c∧MaxOk wr∧n₀≤wr.heap.size) (fun wr=>k9 c wr)
 case atStart =>
  exact ⟨[],s,_,rfl,Nat.le_refl _,(hW.block c hb.lt).trans hb,h0,rfl,hm.below (n:=w.heap.size) hW hm.lt,by have:=hW.size;omega⟩
 case round =>
  obtain ⟨pre,t,G,hpre,hts,hbt,hJs,hG,hmx,hnx⟩:=hrel;have hct:=hbt.cell;have hmeas:=sK hbt;by_cases h0:un t=[]
  ·have he:t.toList.isEmpty=true:=by rw [zy,h0];rfl
   have hfin:Hid (pre=yL (un s)):=by rw [←hpre.out,h0,kJ,List.append_nil];rfl
   clear hpre h0
   gi_wp2
   go_end0
   exact ⟨⟨_,rfl⟩,.inl ⟨pre,G,hfin.out,hJs⟩⟩
  have he:t.toList.isEmpty=false:=by rw [zy];simpa using h0
  rcases Zf (un t) 10 with ⟨a,r,e,hna⟩ | hno
  ·have hcut:=fun W hW=>Vs t a r 10 W hW (by omega) e hna;have hal:a.length≤1000000:=by have:=congrArg List.length e;simp at this;omega
   have hrl:r.length<t.size:=by have:=congrArg List.length e;simp at this;omega
   by_cases hz:yx a=[]
   ·have hz':(mk (yx a)).toList.isEmpty=true:=by rw [zy,zk,hz];rfl
    have hfin:Hid (pre=yL (un s)):=by rw [←hpre.out,e,XL a r hna hz,List.append_nil];rfl
    have HC:=KZ9 hcut;clear hcut hpre h0 e hz
    gi_wp2
    refine ⟨trivial,?_⟩;refine (callsIn_wide.2 (HC.out _ hmx)).mono ?_;rintro e w1 ⟨rfl,hb1⟩
    gi_wp2
    refine ⟨trivial,?_⟩;refine (callsIn_wide.2 (cu a _ (by omega))).mono ?_;rintro e w' ⟨rfl,rfl⟩
    gi_wp2
    refine ⟨fun _ h=>(by cases h),?_⟩
    gi_wp2
    refine bodyPost_ret (results_none rfl _ _ _) rfl ?_;exact ⟨⟨_,rfl⟩,.inl ⟨pre,G,hfin.out,hJ.turn _ _ _ _ _ hJs (HsR.grown_of_below hb1) (fun r e=>by cases e)⟩⟩
   have hz':(mk (yx a)).toList.isEmpty=false:=by rw [zy,zk];simpa using hz
   have hnext:Hid ((pre++[(yx a,true)])++yL r=yL (un s)):=by rw [←hpre.out,e,ZZ a r hna hz];simp [Hid]
   have HC:=KZ9 hcut;clear hcut hpre h0 e hz
   gi_wp2
   refine ⟨trivial,?_⟩;refine (callsIn_wide.2 (HC.out _ hmx)).mono ?_;rintro e w1 ⟨rfl,hb1⟩;have hJ1:=hJ.turn _ _ _ _ _ hJs (HsR.grown_of_below hb1) (fun r e=>by cases e);obtain ⟨fn,tmps,assign,body,hy,hR⟩:=hY pre (yx a,true) G w1 hJ1 ⟨_,hnext.out⟩
   gi_wp2
   refine ⟨trivial,?_⟩;refine (callsIn_wide.2 (cu a _ (by omega))).mono ?_;rintro e w' ⟨rfl,rfl⟩
   gi_wp2
   refine hR.mono ?_;rintro e W3 (⟨rfl,hJ3,hk3⟩ | ⟨rfl,hJx3⟩)
   ·have hb1':=hbt.kept (HsR.grown_of_below hb1) (by simp);have hb3:Boxed W3 c 9 (.string t):=(hk3.block c hb1'.lt (.inl hG)).trans hb1';have hc3:=hb3.cell;have hf3:=hb3.frozen
    gi_wp2
    go_roundw
    case rel=>exact ⟨_,mk r,G,by rw [zk];exact hnext,by rw [zi];omega,hb3.set _,hJ.turn _ _ _ _ _ hJ3 (HsR.grown_setCell _ c 0 _) (fun r e=>by cases e;exact hG),hG,((hmx.below hb1 hmx.lt).below (n:=n₀) (HsR.Keeps.below (hk3.mono fun k hk=> .inr hk) (by have:=hb1.size;omega)) hg).below (n:=n₀) ((Below.refl _ _).setCell (p:=⟨c,0,none⟩) hcn _) hg,by have:=hb1.size;have:=hk3.size;simp;omega⟩
    case measure=>rw [sK (hb3.set _),hmeas,zi];exact hrl
   gi_wp2
   refine bodyPost_ret (results_none rfl _ _ _) rfl ?_;exact ⟨⟨_,rfl⟩,.inr ⟨_,G,⟨_,hnext.out⟩,hJx3⟩⟩
  have hcut:=fun W hW=>SJ t 10 W hW (by omega) hno;have htl:(un t).length≤1000000:=by rw [za];omega
  have hnext:Hid (pre++[(yx (un t),false)]=yL (un s)):=by rw [←hpre.out,Z0 _ hno h0];rfl
  have HC:=KZ9 hcut;have htr:=fun W=>cu (un t) W (by omega);rw [x8] at htr;have HT:=KZ9 htr;have HNE:=KZ9 h0;clear hcut hpre h0 htr hno
  gi_wp2
  refine ⟨trivial,?_⟩;refine (callsIn_wide.2 (HC.out _ hmx)).mono ?_;rintro e w1 ⟨rfl,hb1⟩;have hJ1:=hJ.turn _ _ _ _ _ hJs (HsR.grown_of_below hb1) (fun r e=>by cases e);obtain ⟨fn,tmps,assign,body,hy,hR⟩:=hY pre (yx (un t),false) G w1 hJ1 ⟨[],by rw [List.append_nil];exact hnext.out⟩
  gi_wp2
  refine ⟨trivial,?_⟩;refine (callsIn_wide.2 (HT.out _)).mono ?_;rintro e w' ⟨rfl,rfl⟩
  gi_wp2
  refine hR.mono ?_;rintro e W3 (⟨rfl,hJ3,hk3⟩ | ⟨rfl,hJx3⟩)
  ·have hb1':=hbt.kept (HsR.grown_of_below hb1) (by simp);have hb3:Boxed W3 c 9 (.string t):=(hk3.block c hb1'.lt (.inl hG)).trans hb1';have hc3:=hb3.cell;have hf3:=hb3.frozen
   gi_wp2
   go_roundw
   case rel=>exact ⟨_,mk [],G,by rw [zk,kJ,List.append_nil];exact hnext,by rw [zi];simp,hb3.set _,hJ.turn _ _ _ _ _ hJ3 (HsR.grown_setCell _ c 0 _) (fun r e=>by cases e;exact hG),hG,((hmx.below hb1 hmx.lt).below (n:=n₀) (HsR.Keeps.below (hk3.mono fun k hk=> .inr hk) (by have:=hb1.size;omega)) hg).below (n:=n₀) ((Below.refl _ _).setCell (p:=⟨c,0,none⟩) hcn _) hg,by have:=hb1.size;have:=hk3.size;simp;omega⟩
   case measure=>rw [show (⟨#[]⟩:ByteArray)=mk [] from rfl,sK (hb3.set (.string (mk []))),hmeas,zi];have:=List.length_pos_iff.2 (show un t≠[] from HNE.out);rw [za] at this;exact this
  gi_wp2
  refine bodyPost_ret (results_none rfl _ _ _) rfl ?_;exact ⟨⟨_,rfl⟩,.inr ⟨_,G,⟨[],by rw [List.append_nil];exact hnext.out⟩,hJx3⟩⟩
end Go.Proofs.YtbnnlkdhpifpeaaGreatDoor
namespace Hs
open Go Go.RowKit
def Blk2 (w:World) (g:Nat) (T:TypeId) (a b:Value):Prop:=w.heap[g]? =some (.cells #[a,b] T (0,0))
section
variable {w w' : World} {g : Nat} {T : TypeId} {a b : Value}
theorem Blk2.lt (h:Blk2 w g T a b):g<w.heap.size:=(Array.getElem?_eq_some_iff.1 h).1
theorem Blk2.c0 (h:Blk2 w g T a b):w.cell? ⟨g,0,none⟩=some a:=by unfold Blk2 at h;simp [World.cell?,h]
theorem Blk2.c1 (h:Blk2 w g T a b):w.cell? ⟨g,1,none⟩=some b:=by unfold Blk2 at h;simp [World.cell?,h]
theorem Blk2.f0 (h:Blk2 w g T a b):w.frozen? ⟨g,0,none⟩=false:=by unfold Blk2 at h;simp [World.frozen?,h]
theorem Blk2.f1 (h:Blk2 w g T a b):w.frozen? ⟨g,1,none⟩=false:=by unfold Blk2 at h;simp [World.frozen?,h]
theorem Blk2.below (h:Blk2 w g T a b) (hb:Below w.heap.size w w'):Blk2 w' g T a b:=(hb.block g h.lt).trans h
theorem Blk2.alloc (h:Blk2 w g T a b) (o:Obj):Blk2 (w.alloc o) g T a b:=(Below.heap_alloc w o g h.lt).trans h
theorem Blk2.new (w:World) (T:TypeId) (a b:Value):Blk2 (w.alloc (.cells #[a,b] T)) w.heap.size T a b:=heap_alloc_new w _
theorem Blk2.other (h:Blk2 w g T a b) {p:Nat} (hp:g≠p) (j:Nat) (v:Value):Blk2 (w.setCell ⟨p,j,none⟩ v) g T a b:=(Below.heap_setCell w ⟨p,j,none⟩ v g hp).trans h
theorem Blk2.grown {row:Option Nat} (h:Blk2 w g T a b) (hg:w.grownBy w' row) (hn:some g≠row):Blk2 w' g T a b:=(hg.block g h.lt hn).trans h
theorem Blk2.drewN (h:Blk2 w g T a b) (n:Nat):Blk2 (w.drewN n) g T a b:=h
theorem Blk2.set0 (h:Blk2 w g T a b) (v:Value):Blk2 (w.setCell ⟨g,0,none⟩ v) g T v b:=by
 have hlt:=h.lt;have h':w.heap[g]= .cells #[a,b] T (0,0):=by simpa [Blk2,Array.getElem?_eq_getElem hlt] using h
 show (w.heap.modify g _)[g]? =_;rw [Array.getElem?_eq_getElem (by simpa using hlt),Array.getElem_modify_self,h'];rfl
theorem Blk2.set1 (h:Blk2 w g T a b) (v:Value):Blk2 (w.setCell ⟨g,1,none⟩ v) g T a v:=by
 have hlt:=h.lt;have h':w.heap[g]= .cells #[a,b] T (0,0):=by simpa [Blk2,Array.getElem?_eq_getElem hlt] using h
 show (w.heap.modify g _)[g]? =_;rw [Array.getElem?_eq_getElem (by simpa using hlt),Array.getElem_modify_self,h'];rfl
end
end Hs
namespace Go.Proofs.YtbnnlkdhpifpeaaGreatDoor
open Go.RowKit Hs
theorem R4:(Tryz.prog.info? 168).map (fun i=>(i.zero,i.size,i.bytes))=some (some (.agg #[.string ⟨#[]⟩,.string ⟨#[]⟩]),2,32):=by kernel_rfl
def wm (l:List Fld):List Value:=l.flatMap fun d=>[.string (mk d.1),.string (mk d.2)]
theorem Yq (l:List Fld) (d:Fld):wm l++[.string (mk d.1),.string (mk d.2)]=wm (l++[d]):=by simp [wm]
theorem kW:∀ (l:List Fld) (k:Nat) (h:k<l.length),(wm l)[k*2]? =some (.string (mk l[k].1))∧(wm l)[k*2+1]? =some (.string (mk l[k].2))
 | [],k,h=>by simp at h
 | d::l,0,h=>by simp [wm]
 | d::l,k+1,h=>by
  have:=kW l k (by simpa using h);have e:wm (d::l)= .string (mk d.1):: .string (mk d.2)::wm l:=by simp [wm]
  rw [e];have e1:(k+1)*2=k*2+2:=by omega
  rw [e1]
  simpa using this
def Flds (w:World) (v:Value) (l:List Fld):Prop:=Row w v 2 l.length (wm l)
theorem Flds.below {w w':World} {v:Value} {l:List Fld} (h:Flds w v l) (hb:Below w.heap.size w w'):Flds w' v l:=Row.below h hb
theorem Flds.owned {w:World} {base:Nat} {v:Value} {l:List Fld} (h:w.ownsRow base 168 2 v l.length (wm l)):Flds w v l:=Row.owned h
theorem Flds.open {w:World} {v:Value} {l:List Fld} (h:Flds w v l):∃ a cap,v= .slice a l.length cap∧l.length≤cap∧cap≤maxLen ∧
  ∀ (hn:0<l.length),∃ b off,a=some ⟨b,off,none⟩∧b<w.heap.size∧∀ j (hj:j<l.length),w.cell? ⟨b,off+j*2,none⟩=some (.string (mk l[j].1))∧w.cell? ⟨b,off+j*2+1,none⟩=some (.string (mk l[j].2)):=by
 obtain ⟨hl,a,cap,rfl,hn,hm,h⟩:=h;refine ⟨a,cap,rfl,hn,hm,fun h0=> ?_⟩;rcases h with h | ⟨b,off,ha,hlt,hc⟩
 ·omega
 refine ⟨b,off,ha,hlt,fun j hj=> ?_⟩;obtain ⟨g0,g1⟩:=kW l j hj;exact ⟨hc _ _ g0,by have:=hc _ _ g1;rwa [←Nat.add_assoc] at this⟩
theorem Qg (s:ByteArray) (w:World) (hs:s.size≤100000000):Calls Tryz.prog 78 #[.string s] w fun e w'=>e= .returned (.bool (tj (un s)))∧w=w':=by
 obtain ⟨emp,hemp⟩:∃ b,b=(un s).isEmpty:=⟨_,rfl⟩;have h1:s.toList.isEmpty=emp:=by rw [zy,hemp]
 have HE:=KZ9 hemp;clear hemp;go_enter Tryz.func78,Tryz.ntmps78
 go_wp2;go_loop [6] (fun i=>∃ k:Nat,i= .int .i64 k∧k≤s.size∧Hid ((un s).all wh=((un s).drop k).all wh)) (fun i=>s.size - (intOf i).toNat)
 case atStart=>exact ⟨0,rfl,by omega,rfl⟩
 case round =>
  obtain ⟨k,rfl,hk,ha⟩:=hrel;by_cases hlt:k<s.size
  ·cases hb:wh (s[k]'hlt)
   ·have hno:Hid (false=tj (un s)):=by
     show false=_;unfold tj;rw [ha.out,zB (un s) wh k (by rw [za];omega) false hb];simp
    go_wp2_with (go_at_call 145;refine (vl _ _ rfl _).mono ?_;rintro e w' ⟨rfl,rfl⟩)
    go_ret;exact ⟨yH hno.out,rfl⟩
   have hyes:Hid ((un s).all wh=((un s).drop (k+1)).all wh):=by
    have e:=ha.out;rw [zB (un s) wh k (by rw [za];omega) true hb] at e;exact e
   go_wp2_with (go_at_call 145;refine (vl _ _ rfl _).mono ?_;rintro e w' ⟨rfl,rfl⟩)
   go_round
   case rel=>exact ⟨k+1,by go_num,by omega,hyes⟩
   case measure=>simp [intOf];omega
  obtain rfl:k=s.size:=by omega
  have hfin:Hid ((!emp)=tj (un s)):=by
   show _=_;unfold tj;rw [ha.out,List.drop_eq_nil_of_le (by rw [za];exact Nat.le_refl _),HE.out];simp
  clear ha;go_wp2;go_ret;exact ⟨yH (by rw [←hfin.out];try rfl),rfl⟩
theorem Qf (s:ByteArray) (w:World) (hs:s.size≤100000000):Calls Tryz.prog 79 #[.string s] w fun e w'=>e= .returned (.bool ((un s).all x9))∧w=w':=by
 go_enter Tryz.func79,Tryz.ntmps79
 go_wp2;go_loop [7] (fun i=>∃ k:Nat,i= .int .i64 k∧k≤s.size∧Hid ((un s).all x9=((un s).drop k).all x9)) (fun i=>s.size - (intOf i).toNat)
 case atStart=>exact ⟨0,rfl,by omega,rfl⟩
 case round =>
  obtain ⟨k,rfl,hk,ha⟩:=hrel;by_cases hlt:k<s.size
  ·cases hb:x9 (s[k]'hlt)
   ·have hno:Hid (false=(un s).all x9):=by
     rw [ha.out,zB (un s) x9 k (by rw [za];omega) false hb];rfl
    have hb':=of_decide_eq_false hb;clear hb ha;go_wp2
    all_goals try omega
    all_goals
     go_ret;exact ⟨yH hno.out,rfl⟩
   have hyes:Hid ((un s).all x9=((un s).drop (k+1)).all x9):=by
    have e:=ha.out;rw [zB (un s) x9 k (by rw [za];omega) true hb] at e;exact e
   have hb':=of_decide_eq_true hb;clear hb ha;go_wp2
   all_goals try omega
   all_goals
    go_round
    case rel=>exact ⟨k+1,by go_num,by omega,hyes⟩
    case measure=>simp [intOf];omega
  obtain rfl:k=s.size:=by omega
  have hfin:Hid (true=(un s).all x9):=by
   rw [ha.out,List.drop_eq_nil_of_le (by rw [za];exact Nat.le_refl _)];rfl
  clear ha;go_wp2;go_ret;exact ⟨yH hfin.out,rfl⟩
end Go.Proofs.YtbnnlkdhpifpeaaGreatDoor
