/- What the proof of TopDecisionTable uses, part Dec10. -/
import Derived.Test.YtjbciamhhfcdoaaGreatDoorDec09
set_option linter.unusedSimpArgs false
set_option linter.unusedVariables false
namespace Hs
open Go
theorem Uv (c:UInt8) (l:Bs):(pW c l=(l,[],false)∧Lib.indexByte l c<0)∨(∃ k:Nat,Lib.indexByte l c=k∧k<l.length∧pW c l=(l.take k,l.drop (k+1),true)):=by
 unfold pW;by_cases h:Lib.indexByte l c<0
 ·left;rw [if_pos h];exact ⟨rfl,h⟩
 right;have:=uk c l;refine ⟨(Lib.indexByte l c).toNat,by omega,by omega,?_⟩;rw [if_neg h]
theorem kG {l:Bs} (h:l.any xB=true):yG l=none:=if_pos h
theorem Sc {l:Bs} (h:l.any xB=false) (hi:Lib.indexByte l 58<0):yG l=none:=by
 unfold yG;rw [if_neg (by rw [h];simp),if_pos hi]
theorem VT {l:Bs} {k:Nat} (h:l.any xB=false) (hi:Lib.indexByte l 58=k):yG l=if xq (l.take k)=true then xX (zt (l.take k)) (l.drop (k+1)) else none:=by
 unfold yG;rw [if_neg (by rw [h];simp),hi,if_neg (by omega)];simp
theorem authL_le (r:Bs):xU r≤r.length:=by
 unfold xU;split
 ·exact Nat.le_refl _
 have:=indexAny_lt [47,63,35] r;omega
where indexAny_lt (cs:Bs):∀ l:Bs,Lib.indexAny l cs<l.length
 | []=>by simp [Lib.indexAny]
 | b::r=>by
  have ih:=indexAny_lt cs r;rw [Lib.indexAny];split
  ·simp
  split<;>simp<;>omega
theorem jY {s rest:Bs} (h:zv s<0):xX s rest=some ⟨s,[],zk,-1,rest⟩:=if_pos h
theorem p9 {s rest:Bs} (h:¬ zv s<0) (h2:rest.take 2≠[47,47]):xX s rest=none:=by
 unfold xX;rw [if_neg h,if_neg h2]
theorem jX {s rest:Bs} (h:¬ zv s<0) (h2:rest.take 2=[47,47]):xX s rest=xr ⟨s,[],zk,-1,vj ((rest.drop 2).drop (xU (rest.drop 2)))⟩ ((rest.drop 2).take (xU (rest.drop 2))):=by
 unfold xX;rw [if_neg h,if_pos h2]
theorem Vg (l:Bs) (k:Nat) (h:k<l.length):(l.drop k).any xB=(xB l[k]||(l.drop (k+1)).any xB):=by rw [List.drop_eq_getElem_cons h,List.any_cons]
end Hs
namespace Go.Proofs.YtjbciamhhfcdoaaGreatDoor
open Go.RowKit Hs
theorem ky {u v:UrlP} {a:Bs} (h:xr u a=some v):ym v.host:=by
 unfold xr at h;split at h
 ·cases h
 unfold vl at h;split at h
 ·cases h
 split at h
 ·cases h
 rename_i hv;split at h
 ·cases h
 cases h;exact YV hv
set_option maxRecDepth 20000
set_option maxHeartbeats 8000000
theorem UN (s:ByteArray) (w:World) (hB:Base w) (hs:s.size≤100000) (hT:okT (un s)):Calls Tryz.prog 70 #[.string s] w (uS (yG (un s)) w.heap.size w):=by
 have hlen:(un s).length=s.size:=zb s;obtain ⟨W0,hW0⟩:=KZ6 (w.alloc (.cells (za zu).toArray 62));have hbA:Below w.heap.size w W0:=by rw [hW0];exact (Below.refl _ w).alloc (Nat.le_refl _) _
 have hr0:BlkL W0 w.heap.size 62 (za zu):=by rw [hW0];exact BlkL.new w _ _
 have HW0:Hid (w.alloc (.cells #[.string ⟨#[]⟩,.string ⟨#[]⟩,.int .i64 0,.string ⟨#[]⟩,.int .u32 0,.int .u16 0,.int .u16 0,.int .u16 0,.int .u16 0,.int .u16 0,.int .u16 0,.int .u16 0,.int .u16 0,.int .i64 0,.string ⟨#[]⟩] 62)=W0):=KZ9 hW0.symm;have hsz:W0.heap.size=w.heap.size+1:=by rw [hW0];simp
 have HBB:=KZ9 hB;have HBA:=KZ9 hbA;have HR0:=KZ9 hr0;have HT:=KZ9 hT;have HCUT:=KZ9 (Wk s 58 W0 (hB.below hbA) (by omega));obtain ⟨l,hl⟩:=KZ6 (un s);rw [←hl] at hlen HCUT HT ⊢;have HL:=KZ9 hl;have HLEN:=KZ9 hlen;obtain ⟨n,hn⟩:=KZ6 s.size;have hsI:(s.size:Int)=(n:Int):=by rw [hn]
 have HN:=KZ9 hn;rw [←hn] at hs;clear hW0 hbA hr0 hB hl hlen hT hn;go_enter Tryz.func70,Tryz.ntmps70
 go_upto_region 1 with fail
 rw [HW0.out];clear HW0;go_wp2;go_loop [13] (fun iv=>∃ k:Nat,iv= .int .i64 k∧k≤n∧Hid (l.any xB=(l.drop k).any xB)) (fun iv=>n - (intOf iv).toNat)
 case atStart=>exact ⟨0,rfl,by omega,KZ9 (by rw [List.drop_zero])⟩
 case round =>
  obtain ⟨k,rfl,hk,hany⟩:=hrel;by_cases hlt:k<n
  ·have hks:k<s.size:=by rw [←HN.out];exact hlt
   have hkl:k<l.length:=by rw [HLEN.out];exact hks
   have hx:l[k]=s[k]:=by
    have:=HL.out;subst this;exact zL s k hks
   have hst:=Vg l k hkl;rw [hx] at hst;have hdb:xB s[k]=decide ((s[k]).toNat≤32∨(s[k]).toNat=127):=rfl;rw [hdb] at hst;have hb256:=(s[k]).toNat_lt;obtain ⟨x,hx2⟩:=KZ6 ((s[k]).toNat);have cs:(s[k].toNat:Int)=(x:Int):=by rw [hx2]
   rw [←hx2] at hst hb256;have HST:=KZ9 (hany.out.trans hst);clear hst hany hx hx2 hdb hkl;by_cases hbad:x≤32∨x=127
   ·have hfin:=KZ9 (kG (HST.out.trans (by rw [KZ7 hbad];rfl)));clear HST HCUT;rcases hbad with h | rfl
    all_goals
     go_wp2_with (first
      | refine wpList_store_row rfl 62 (.tmp 2) (.tmp 26) rfl w.heap.size (za zu).toArray rfl rfl 62 _ HR0.out zN rfl (ze (yk zu)) ?_)
     all_goals try omega
     all_goals
      refine bodyPost_ret (zf rfl _ _ w.heap.size 62 _ _ rfl (HR0.out.setRow (za zu)) Tryz.underlying62 rfl zN) rfl ?_;exact ⟨⟨zu,4,rfl,.inr ⟨by decide,rfl,hfin.out⟩⟩,below_setRow HBA.out (Nat.le_refl _) _⟩
   have hnext:Hid (l.any xB=(l.drop (k+1)).any xB):=KZ9 (HST.out.trans (by rw [KZ8 hbad];rfl));have g1:((x:Int)==127)=false:=by simp;omega
   clear HST HCUT;go_wp2
   all_goals try omega
   go_round
   case rel=>exact ⟨k+1,by go_num,by omega,hnext⟩
   case measure=>simp [intOf];omega
  have hgood:l.any xB=false:=by rw [hany.out,List.drop_of_length_le (by rw [HLEN.out,←HN.out];omega)];rfl
  clear hany;rcases Uv 58 l with ⟨hc,hi⟩ | ⟨j,hi,hj,hc⟩
  ·have hfin:=KZ9 (Sc hgood hi);have hcut:=HCUT.out;rw [hc] at hcut;have HC:=KZ9 hcut;clear hcut hc hi hgood HCUT;go_wp2_with fail
   all_goals try omega
   refine HC.out.mono ?_;rintro e w1 ⟨rfl,hb1⟩;have HR1:=KZ9 (HR0.out.below (by omega) hb1);have HA1:=KZ9 (HBA.out.trans (hb1.mono (by omega)));clear hb1 HC;go_wp2_with (first
    | refine wpList_store_row rfl 62 (.tmp 2) (.tmp 41) rfl w.heap.size (za zu).toArray rfl rfl 62 _ HR1.out zN rfl (ze (yk zu)) ?_)
   all_goals try omega
   refine bodyPost_ret (zf rfl _ _ w.heap.size 62 _ _ rfl (HR1.out.setRow (za zu)) Tryz.underlying62 rfl zN) rfl ?_;exact ⟨⟨zu,15,rfl,.inr ⟨by decide,rfl,hfin.out⟩⟩,below_setRow HA1.out (Nat.le_refl _) _⟩
  have hdef:=VT hgood hi;have hcut:=HCUT.out;rw [hc] at hcut;have hn1:(l.take j).length≤n:=by rw [List.length_take,HLEN.out,←HN.out];omega
  have hn2:(l.drop (j+1)).length≤n:=by rw [List.length_drop,HLEN.out,←HN.out];omega
  have hT2:okT (l.drop (j+1)):=XX HT.out _;obtain ⟨nm,hnm⟩:=KZ6 (l.take j);obtain ⟨rs,hrs⟩:=KZ6 (l.drop (j+1));rw [←hnm,←hrs] at hdef hcut;rw [←hnm] at hn1;rw [←hrs] at hn2 hT2;have hsch:=fun W=>S4 (mk nm) W (by rw [zh];omega);simp only [zj] at hsch;obtain ⟨sc,hsc⟩:=KZ6 (xq nm);rw [←hsc] at hdef;simp only [←hsc] at hsch;have HSC:=KZ9 hsch;have HC:=KZ9 hcut;have HDEF:=KZ9 hdef;have HT2:=KZ9 hT2;clear hcut hc hi hgood HCUT hdef hnm hrs hsch hsc hT2 HT HL HLEN hj;go_wp2_with fail
  all_goals try omega
  refine HC.out.mono ?_;rintro e w1 ⟨rfl,hb1⟩;have hs1:=hb1.size;have HR1:=KZ9 (HR0.out.below (by omega) hb1);have HA1:=KZ9 (HBA.out.trans (hb1.mono (by omega)));clear hb1 HC HR0 HBA;go_wp2_with fail
  all_goals try omega
  refine (HSC.out _).mono ?_;rintro e w2 ⟨rfl,rfl⟩;cases sc
  ·have hfin:=KZ9 (HDEF.out.trans (if_neg (by simp)));clear HDEF HSC;go_wp2_with (first
    | refine wpList_store_row rfl 62 (.tmp 2) (.tmp 41) rfl w.heap.size (za zu).toArray rfl rfl 62 _ HR1.out zN rfl (ze (yk zu)) ?_)
   all_goals try omega
   refine bodyPost_ret (zf rfl _ _ w.heap.size 62 _ _ rfl (HR1.out.setRow (za zu)) Tryz.underlying62 rfl zN) rfl ?_;exact ⟨⟨zu,15,rfl,.inr ⟨by decide,rfl,hfin.out⟩⟩,below_setRow HA1.out (Nat.le_refl _) _⟩
  have hd2:=HDEF.out.trans (if_pos rfl);have hlow:=ti (mk nm) w1 (by rw [zh];omega);rw [zj] at hlow;obtain ⟨sch,hsch⟩:=KZ6 (zt nm);rw [←hsch] at hlow hd2;have HLOW:=KZ9 hlow;have HD2:=KZ9 hd2;clear hlow hd2 hsch HDEF HSC;go_wp2_with fail
  all_goals try omega
  refine HLOW.out.mono ?_;rintro e w3 ⟨rfl,hb3⟩;have hs3:=hb3.size;have HN3:=KZ9 (heap_alloc_new w3 (.cells (za zu).toArray 62));have hne:w.heap.size≠w3.heap.size:=by omega
  have hR4:=((HR1.out.below (by omega) hb3).alloc (.cells (za zu).toArray 62)).setRow_other hne (za ⟨sch,[],zk,-1,rs⟩).toArray;have hY4:=(BlkL.new w3 62 (za zu)).setRow (za ⟨sch,[],zk,-1,rs⟩);have hA4:=below_setRow ((HA1.out.trans (hb3.mono (by omega))).alloc (by omega) (.cells (za zu).toArray 62)) (show w.heap.size≤w3.heap.size by omega) (za ⟨sch,[],zk,-1,rs⟩).toArray;obtain ⟨W4,hW4⟩:=KZ6 ((w3.alloc (.cells (za zu).toArray 62)).setRow w3.heap.size (za ⟨sch,[],zk,-1,rs⟩).toArray);rw [←hW4] at hR4 hY4 hA4;have hs4:W4.heap.size=w3.heap.size+1:=by rw [hW4];simp [World.setRow]
  have HW4:Hid ((w3.alloc (.cells #[.string ⟨#[]⟩,.string ⟨#[]⟩,.int .i64 0,.string ⟨#[]⟩,.int .u32 0,.int .u16 0,.int .u16 0,.int .u16 0,.int .u16 0,.int .u16 0,.int .u16 0,.int .u16 0,.int .u16 0,.int .i64 0,.string ⟨#[]⟩] 62)).setRow w3.heap.size (za ⟨sch,[],zk,-1,rs⟩).toArray=W4):=KZ9 hW4.symm;have HR4:=KZ9 hR4;have HY4:=KZ9 hY4;have HA4:=KZ9 hA4;have B4:=KZ9 (HBB.out.below hA4);have hyw:w.heap.size<w3.heap.size:=by omega
  clear hb3 HLOW HR1 HA1 hR4 hY4 hA4 hW4;go_upto_region 11 with (first
   | refine wpList_store_row rfl 62 (.tmp 8) (.tmp 45) rfl w3.heap.size (za ⟨sch,[],zk,-1,rs⟩).toArray rfl rfl 62 _ HN3.out zN rfl (ze (yk _)) ?_)
  all_goals try omega
  rw [HW4.out];clear HW4 HN3;have c4:=HY4.out.c 0 _ rfl;have hsp:=fun W=>tB (mk sch) W;simp only [zj] at hsp;have hpc:=yr sch;by_cases hp:zv sch<0
  ·have hfin:=KZ9 (HD2.out.trans (jY hp));have hdec:decide (0<zv sch)=false:=KZ8 (by omega);simp only [hdec] at hsp;have HSP:=KZ9 hsp;have HIU:=KZ9 (zV (u:=⟨sch,[],zk,-1,rs⟩) rfl);clear hsp hdec hpc hp;go_wp2_with fail
   all_goals try omega
   refine (HSP.out _).mono ?_;rintro e w5 ⟨rfl,rfl⟩;go_wp2_with (first
    | refine wpList_load_row rfl 62 (.tmp 8) rfl w3.heap.size rfl 62 _ _ _ HY4.out Tryz.underlying62 rfl HIU.out ?_
    | refine wpList_store_row rfl 62 (.tmp 2) (.tmp 50) rfl w.heap.size (za ⟨sch,[],zk,-1,rs⟩).toArray rfl rfl 62 _ HR4.out HIU.out rfl (ze (yk _)) ?_)
   all_goals try omega
   refine bodyPost_ret (zf rfl _ _ w.heap.size 62 _ _ rfl (HR4.out.setRow (za ⟨sch,[],zk,-1,rs⟩)) Tryz.underlying62 rfl HIU.out) rfl ?_;exact ⟨⟨_,0,rfl,.inl ⟨rfl,hfin.out⟩⟩,below_setRow HA4.out (Nat.le_refl _) _⟩
  have hdec:decide (0<zv sch)=true:=KZ7 (by omega);simp only [hdec] at hsp;have HSP:=KZ9 hsp;have hcp:=rP (mk rs) ⟨#[47,47]⟩ W4;have hsz2:(⟨#[47,47]⟩:ByteArray).size=2:=rfl;have hun2:un (⟨#[47,47]⟩:ByteArray)=[47,47]:=rfl;rw [zj,hsz2,hun2] at hcp;clear hsp hdec hpc hsz2 hun2;by_cases h2:rs.take 2=[47,47]
  ·have hd5:=HD2.out.trans (jX hp h2);rw [if_pos h2,KZ7 h2] at hcp;have hr2l:(rs.drop 2).length≤n:=by rw [List.length_drop];omega
   have hr2t:okT (rs.drop 2):=XX HT2.out 2;obtain ⟨r2,hr2⟩:=KZ6 (rs.drop 2);rw [←hr2] at hd5 hcp hr2l hr2t;have hia:=gX (mk r2) W4 (by rw [zh];omega);rw [zj] at hia;have hal:=authL_le r2;have hil:=authL_le.indexAny_lt [47,63,35] r2;have hadef:xU r2=if Lib.indexAny r2 [47,63,35]<0 then r2.length else (Lib.indexAny r2 [47,63,35]).toNat:=rfl
   obtain ⟨ix,hix⟩:=KZ6 (Lib.indexAny r2 [47,63,35]);rw [←hix] at hia hadef hil;obtain ⟨A,hA⟩:=KZ6 (xU r2);rw [←hA] at hd5 hal hadef;have HD5:=KZ9 hd5;have HCP:=KZ9 hcp;have HIA:=KZ9 hia;have HAD:=KZ9 hadef;have HT3:=KZ9 hr2t;clear hd5 hcp hia hadef hix hA hr2 hr2t h2 hp HD2 HT2;go_wp2_with fail
   all_goals try omega
   refine (HSP.out _).mono ?_;rintro e w5 ⟨rfl,rfl⟩;go_wp2_with fail
   all_goals try omega
   refine HCP.out.mono ?_;rintro e w5 ⟨rfl,rfl⟩;go_wp2_with fail
   all_goals try omega
   refine HIA.out.mono ?_;rintro e w5 ⟨rfl,hb5⟩;have hs5:=hb5.size;have HR5:=KZ9 (HR4.out.below (by omega) hb5);have HY5:=KZ9 (HY4.out.below (by omega) hb5);have HA5:=KZ9 (HA4.out.trans (hb5.mono (by omega)));clear hb5 HSP HCP HIA HR4 HY4 HA4 c4;go_upto_if 63 with fail
   all_goals try omega
   go_cut [9] (fun s9 wx=>s9= .string (mk (r2.take A))∧wx=w5)
   case first =>
    by_cases h0:ix<0
    ·have g1:decide ((0:Int)≤ix)=false:=KZ8 (by omega);have hA2:=HAD.out;rw [if_pos h0] at hA2;have ht:r2.take A=r2:=by rw [hA2,List.take_length]
     have HTK:=KZ9 ht;clear hA2 ht;go_wp2
     all_goals try omega
     go_meet;exact ⟨by rw [HTK.out],rfl⟩
    have g1:decide ((0:Int)≤ix)=true:=KZ7 (by omega);have hA2:=HAD.out;rw [if_neg h0] at hA2;obtain ⟨k,rfl⟩:∃ k:Nat,ix=k:=⟨ix.toNat,by omega⟩;have hAk:A=k:=by rw [hA2];simp
    have hI2:(k:Int)≤(r2.length:Int):=by omega
    have hx1:=uf (mk r2) k;rw [zj] at hx1;clear hA2 HAD;have HAK:=KZ9 hAk;clear hAk;go_wp2
    all_goals try omega
    go_meet;exact ⟨by rw [HAK.out],rfl⟩
   case rest =>
   obtain ⟨rfl,rfl⟩:=hcut;have hau:(r2.take A).length=A:=by rw [List.length_take];omega
   have hTa:okT (r2.take A):=RA HT3.out A;have hx2:=wN (mk r2) A;rw [zj,zh] at hx2;have hrl:(r2.drop A).length≤n:=by rw [List.length_drop];omega
   obtain ⟨au,hau2⟩:=KZ6 (r2.take A);obtain ⟨rr,hrr⟩:=KZ6 (r2.drop A);have HD6:Hid (yG l=xr ⟨sch,[],zk,-1,vj rr⟩ au):=KZ9 (by rw [HD5.out,hau2,hrr]);rw [←hau2] at hau hTa ⊢;rw [←hrr] at hx2 hrl;have HTA:=KZ9 hTa;clear hau2 hrr HD5 HAD HT3 hTa;have hauI:(au.length:Int)≤(r2.length:Int):=by omega
   have f5:=HY5.out.f 14;have d5:=HY5.out.c 14 _ rfl;have hY6:BlkL (wc.setCell ⟨w3.heap.size,14,none⟩ (.string (mk rr))) w3.heap.size 62 (za ⟨sch,[],zk,-1,rr⟩):=HY5.out.set 14 (by rw [xo (u:=⟨sch,[],zk,-1,rs⟩) rfl];omega) (.string (mk rr));have hR6:=HR5.out.other (p:=w3.heap.size) (by omega) 14 (.string (mk rr));have hA6:=HA5.out.trans (yV wc w3.heap.size 14 (.string (mk rr)) (by omega));have c6:=hY6.c 14 _ rfl;have f6:=hY6.f 14;have hpf:=fun W=>vU (mk rr) 47 W;simp only [zj] at hpf;have HIU:Hid ((Tryz.prog.info? 62).map (·.size)=some 15):=KZ9 zN;by_cases hh:rr.head? =some 47
   ·have HD7:Hid (yG l=xr ⟨sch,[],zk,-1,rr⟩ au):=KZ9 (by rw [HD6.out];unfold vj;rw [if_pos hh]);simp only [KZ7 hh] at hpf;have HPF:=KZ9 hpf;have hpl:=UM ⟨sch,[],zk,-1,rr⟩ (mk au) (wc.setCell ⟨w3.heap.size,14,none⟩ (.string (mk rr))) (HBB.out.below hA6) vV rfl (by rw [zh];omega) (by rw [zj];exact HTA.out);rw [zj] at hpl;have HPL:=KZ9 hpl;have HY7:=KZ9 hY6;have HR7:=KZ9 hR6;have HA7:=KZ9 hA6;clear hpf hh hpl hY6 hR6 hA6 HD6 HY5 HR5 HA5;go_wp2_with fail
    all_goals try omega
    refine (HPF.out _).mono ?_;rintro e w6 ⟨rfl,rfl⟩;go_wp2_with (first
     | refine wpList_load_row rfl 62 (.tmp 8) rfl w3.heap.size rfl 62 _ _ _ HY7.out Tryz.underlying62 rfl zN ?_)
    all_goals try omega
    refine HPL.out.mono ?_;rintro e w7 ⟨⟨v,c,rfl,hres⟩,hb7⟩;have hw:ym v.host:=by
     rcases hres with ⟨_,h2⟩ | ⟨_,h2,_⟩
     ·exact ky h2
     rw [h2];exact vV
    have HI:=KZ9 (zV hw.1);have HSZ:=KZ9 (show (za zu).toArray.size=(za v).toArray.size by rw [List.size_toArray,List.size_toArray,xo hw.1];rfl);have HR8:=KZ9 (HR7.out.below (by simp;omega) hb7);have HA8:=KZ9 (HA7.out.trans (hb7.mono (by simp;omega)));have HRES:=KZ9 hres;clear hb7 hres hw HPL HR7 HA7 HY7;go_wp2_with (first
     | refine wpList_store_row rfl 62 (.tmp 2) (.tmp 83) rfl w.heap.size (za v).toArray rfl rfl 62 _ HR8.out HI.out HSZ.out (ze (yk v)) ?_)
    all_goals try omega
    refine bodyPost_ret (zf rfl _ _ w.heap.size 62 _ _ rfl (HR8.out.setRow (za v)) Tryz.underlying62 rfl HI.out) rfl ?_;refine ⟨⟨v,c,rfl,?_⟩,below_setRow HA8.out (Nat.le_refl _) _⟩;rw [HD7.out];exact HRES.out
   have HD7:Hid (yG l=xr ⟨sch,[],zk,-1,47::rr⟩ au):=KZ9 (by rw [HD6.out];unfold vj;rw [if_neg hh]);simp only [KZ8 hh] at hpf;have HPF:=KZ9 hpf;have hadd:(⟨#[47]⟩:ByteArray)++mk rr=mk (47::rr):=by
    have:=zK [47] rr;exact this.symm
   have hY7:BlkL ((wc.setCell ⟨w3.heap.size,14,none⟩ (.string (mk rr))).setCell ⟨w3.heap.size,14,none⟩ (.string (mk (47::rr)))) w3.heap.size 62 (za ⟨sch,[],zk,-1,47::rr⟩):=hY6.set 14 (by rw [xo (u:=⟨sch,[],zk,-1,rr⟩) rfl];omega) (.string (mk (47::rr)));have hR7:=hR6.other (p:=w3.heap.size) (by omega) 14 (.string (mk (47::rr)));have hA7:=hA6.trans (yV (wc.setCell ⟨w3.heap.size,14,none⟩ (.string (mk rr))) w3.heap.size 14 (.string (mk (47::rr))) (by omega));have hpl:=UM ⟨sch,[],zk,-1,47::rr⟩ (mk au) _ (HBB.out.below hA7) vV rfl (by rw [zh];omega) (by rw [zj];exact HTA.out);rw [zj] at hpl;have HPL:=KZ9 hpl;have HY7:=KZ9 hY7;have HR7:=KZ9 hR7;have HA7:=KZ9 hA7;have hrs1:(mk rr).size≤100000:=by rw [zh];omega
   clear hpf hh hpl hY6 hR6 hA6 HD6 HY5 HR5 HA5 hY7 hR7 hA7;go_wp2_with fail
   all_goals try omega
   refine (HPF.out _).mono ?_;rintro e w6 ⟨rfl,rfl⟩;go_wp2_with (first
    | refine wpList_load_row rfl 62 (.tmp 8) rfl w3.heap.size rfl 62 _ _ _ HY7.out Tryz.underlying62 rfl zN ?_)
   all_goals try omega
   refine HPL.out.mono ?_;rintro e w7 ⟨⟨v,c,rfl,hres⟩,hb7⟩;have hw:ym v.host:=by
    rcases hres with ⟨_,h2⟩ | ⟨_,h2,_⟩
    ·exact ky h2
    rw [h2];exact vV
   have HI:=KZ9 (zV hw.1);have HSZ:=KZ9 (show (za zu).toArray.size=(za v).toArray.size by rw [List.size_toArray,List.size_toArray,xo hw.1];rfl);have HR8:=KZ9 (HR7.out.below (by simp;omega) hb7);have HA8:=KZ9 (HA7.out.trans (hb7.mono (by simp;omega)));have HRES:=KZ9 hres;clear hb7 hres hw HPL HR7 HA7 HY7;go_wp2_with (first
    | refine wpList_store_row rfl 62 (.tmp 2) (.tmp 83) rfl w.heap.size (za v).toArray rfl rfl 62 _ HR8.out HI.out HSZ.out (ze (yk v)) ?_)
   all_goals try omega
   refine bodyPost_ret (zf rfl _ _ w.heap.size 62 _ _ rfl (HR8.out.setRow (za v)) Tryz.underlying62 rfl HI.out) rfl ?_;refine ⟨⟨v,c,rfl,?_⟩,below_setRow HA8.out (Nat.le_refl _) _⟩;rw [HD7.out];exact HRES.out
  have hfin:=KZ9 (HD2.out.trans (p9 hp h2));rw [if_neg h2,KZ8 h2] at hcp;have HCP:=KZ9 hcp;clear hcp h2 hp HD2;go_wp2_with fail
  all_goals try omega
  refine (HSP.out _).mono ?_;rintro e w5 ⟨rfl,rfl⟩;go_wp2_with fail
  all_goals try omega
  refine HCP.out.mono ?_;rintro e w5 ⟨rfl,rfl⟩;go_wp2_with (first
   | refine wpList_store_row rfl 62 (.tmp 2) (.tmp 58) rfl w.heap.size (za zu).toArray rfl rfl 62 _ HR4.out zN rfl (ze (yk zu)) ?_)
  all_goals try omega
  refine bodyPost_ret (zf rfl _ _ w.heap.size 62 _ _ rfl (HR4.out.setRow (za zu)) Tryz.underlying62 rfl zN) rfl ?_;exact ⟨⟨zu,4,rfl,.inr ⟨by decide,rfl,hfin.out⟩⟩,below_setRow HA4.out (Nat.le_refl _) _⟩
def wk:Nat→Code→Code
 | 0,c=>c
 | n+1,.seq _ b=>wk n b
 | _+1,c=>c
noncomputable def Z9:Code:=(Tryz.f52.body).getD .skip
set_option maxRecDepth 100000
set_option maxHeartbeats 16000000
theorem Pd (nm:Bs) (W:World):Calls Tryz.prog 61 #[.string (mk nm)] W fun e w'=>e= .returned (.int .i64 (zv nm))∧W=w':=by
 have:=Yx (mk nm) W;rw [zj] at this;exact this
theorem Q8 (nm us rst:Bs) (h:HostP) (p:Int) (g0 g1:Nat) (w0 w:World) (base:Nat) (PU:Option UrlP) (u0 u1 u3 u4 u6 u7 u8 u9 aa ab ac ad ae af ag ah ai aj ak al am an ao ap aq ar au av aw ax ay az aA aB aC aD aE aF aG aH aI aJ aK aL aM aN aO aP aQ aR aS aT aU aV aW aX aY aZ ba bb bc bd be bf bg bh bi bj bk bl bm bn bo bp bq br bs bt bu bv bw bx bz bA bB bC bD bE bF bG bH bI bJ bK bL bM bN bO bP bQ bR bS bT bU bV bW bX bY bZ ca cb cc cd ce cf cg ch ci cj ck cl cm cn co cp cq cr cs ct cu cv cw cx cy cz cA cB cC cD cE cF cG cH cI cJ cK cL cM cN cO cP cQ cR cS cT cU cV cW cX cY cZ da db dc dd de df dg dh di dj dk dl dm dn dp dq dr ds dt du dv dw dx:Value) (hw:ym h) (b0:BlkL w g0 62 (za zu)) (b1:BlkL w g1 62 (za ⟨nm,us,h,p,rst⟩)) (h0:base≤g0) (h1:base≤g1) (hne:g0≠g1) (hA:Below base w0 w)
  (hPU:PU=some ⟨nm,us,h,if p=zv nm then -1 else p,rst⟩) :
  Code.wp Tryz.prog (wk 18 Z9) (bodyPost Tryz.prog Tryz.f52 (uS PU base w0)) ⟨#[u0,u1,.pointer (some ⟨g0,0,none⟩),u3,u4,.string (mk nm),u6,u7,u8,u9,.pointer (some ⟨g1,0,none⟩),aa,ab,ac,ad,ae,af,ag,ah,ai,aj,ak,al,am,an,ao,ap,aq,ar,au,av,aw,ax,ay,az,aA,aB,aC,aD,aE,aF,aG,aH,aI,aJ,aK,aL,aM,aN,aO,aP,aQ,aR,aS,aT,aU,aV,aW,aX,aY,aZ,ba,bb,bc,bd,be,bf,bg,bh,bi,bj,bk,bl,bm,bn,bo,bp,bq,br,bs,bt,bu,bv,bw,bx,bz,bA,bB,bC,bD,bE,bF,bG,bH,bI,bJ,bK,bL,bM,bN,bO,bP,bQ,bR,bS,bT,bU,bV,bW,bX,bY,bZ,ca,cb,cc,cd,ce,cf,cg,ch,ci,cj,ck,cl,cm,cn,co,cp,cq,cr,cs,ct,cu,cv,cw,cx,cy,cz,cA,cB,cC,cD,cE,cF,cG,cH,cI,cJ,cK,cL,cM,cN,cO,cP,cQ,cR,cS,cT,cU,cV,cW,cX,cY,cZ,da,db,dc,dd,de,df,dg,dh,di,dj,dk,dl,dm,dn,dp,dq,dr,ds,dt,du,dv,dw,dx],[]⟩ w:=by
 conv=>arg 2;whnf
 obtain ⟨kd,hn,va,v6⟩:=h;obtain ⟨x0,x1,x2,x3,x4,x5,x6,x7,rfl⟩:=si hw.1;have c13:=b1.c 13 _ rfl;have f13:=b1.f 13;have HI:=KZ9 (zV (u:=⟨nm,us,⟨kd,hn,va,[x0,x1,x2,x3,x4,x5,x6,x7]⟩,p,rst⟩) rfl);have HI2:=KZ9 (zV (u:=⟨nm,us,⟨kd,hn,va,[x0,x1,x2,x3,x4,x5,x6,x7]⟩,-1,rst⟩) rfl);have HB0:=KZ9 b0;have HB1:=KZ9 b1;have HA:=KZ9 hA;have HP:=KZ9 hPU;have HSTD:=KZ9 (fun W=>Pd nm W);have HNE:=KZ9 hne;have HH0:=KZ9 h0;have HH1:=KZ9 h1;obtain ⟨D,hD⟩:=KZ6 (zv nm);simp only [←hD] at HSTD;rw [←hD] at HP;clear b0 b1 hA hPU hw hne h0 h1 hD;by_cases hq:p=D
 ·have gq:(p==D)=true:=by simpa using hq
  have hfin:=KZ9 (HP.out.trans (by rw [if_pos hq]));clear hq HP;go_upto_region 44 with fail
  go_quiet ((go_at_call 61;exact Calls.quiet_of_same ((HSTD.out _).mono (fun _ _ h=>⟨h.1,h.2.symm⟩))))
  have d13:=c13;go_wp2_with (first
   | refine wpList_load_row rfl 62 (.tmp 10) rfl g1 rfl 62 _ _ _ (BlkL.set (HB1.out.drewN _) 13 (by simp [za,zc,zg]) (.int .i64 (-1))) Tryz.underlying62 rfl HI2.out ?_
   | refine wpList_store_row rfl 62 (.tmp 2) (.tmp 186) rfl g0 (za ⟨nm,us,⟨kd,hn,va,[x0,x1,x2,x3,x4,x5,x6,x7]⟩,-1,rst⟩).toArray rfl rfl 62 _ ((HB0.out.drewN _).other HNE.out _ _) HI2.out rfl (ze (yk _)) ?_)
  all_goals try omega
  refine bodyPost_ret (zf rfl _ _ g0 62 _ _ rfl (((HB0.out.drewN _).other HNE.out _ _).setRow (za ⟨nm,us,⟨kd,hn,va,[x0,x1,x2,x3,x4,x5,x6,x7]⟩,-1,rst⟩)) Tryz.underlying62 rfl HI2.out) rfl ?_;exact ⟨⟨_,0,rfl,.inl ⟨rfl,hfin.out⟩⟩,below_setRow ((below_drewN HA.out _).trans (yV _ g1 13 _ HH1.out)) HH0.out _⟩
 have gq:(p==D)=false:=by simpa using hq
 have hfin:=KZ9 (HP.out.trans (by rw [if_neg hq]));clear hq HP;go_upto_region 44 with fail
 go_quiet ((go_at_call 61;exact Calls.quiet_of_same ((HSTD.out _).mono (fun _ _ h=>⟨h.1,h.2.symm⟩))))
 go_wp2_with (first
  | refine wpList_load_row rfl 62 (.tmp 10) rfl g1 rfl 62 _ _ _ (HB1.out.drewN _) Tryz.underlying62 rfl HI.out ?_
  | refine wpList_store_row rfl 62 (.tmp 2) (.tmp 186) rfl g0 (za ⟨nm,us,⟨kd,hn,va,[x0,x1,x2,x3,x4,x5,x6,x7]⟩,p,rst⟩).toArray rfl rfl 62 _ (HB0.out.drewN _) HI.out rfl (ze (yk _)) ?_)
 all_goals try omega
 refine bodyPost_ret (zf rfl _ _ g0 62 _ _ rfl ((HB0.out.drewN _).setRow (za ⟨nm,us,⟨kd,hn,va,[x0,x1,x2,x3,x4,x5,x6,x7]⟩,p,rst⟩)) Tryz.underlying62 rfl HI.out) rfl ?_;exact ⟨⟨_,0,rfl,.inl ⟨rfl,hfin.out⟩⟩,below_setRow (below_drewN HA.out _) HH0.out _⟩
end Go.Proofs.YtjbciamhhfcdoaaGreatDoor
namespace Hs
open Go
theorem RE (l:Bs) (k:Nat) (h:k<l.length) (n:Int) (x:Nat) (hx:x=(l[k]).toNat):uH (l.drop k) n=if 48≤x∧x≤57 then uH (l.drop (k+1)) (min (n*10+((x:Int) - 48)) 1048576) else none:=by
 subst hx;rw [List.drop_eq_getElem_cons h,uH];by_cases hd:48≤(l[k]).toNat∧(l[k]).toNat≤57
 ·rw [if_pos hd];exact if_pos (KZ7 hd)
 rw [if_neg hd];exact if_neg (by unfold zI;simpa using hd)
end Hs
namespace Go.Proofs.YtjbciamhhfcdoaaGreatDoor
open Go.RowKit Hs
set_option maxRecDepth 100000
set_option maxHeartbeats 16000000
theorem Q9 (nm us rst au:Bs) (h:HostP) (E:Nat) (g0 g1:Nat) (w0 w:World) (base:Nat) (PU:Option UrlP) (u0 u1 u3 u4 u6 u7 u8 aa ac ad ae af ag ah ai aj ak al am an ao ap aq ar av aw ax ay az aA aB aC aD aE aF aG aH aI aJ aK aL aM aN aO aP aQ aR aS aT aU aV aW aX aY aZ ba bb bc bd be bf bg bh bi bj bk bl bm bn bo bp bq br bs bt bu bv bw bx bz bA bB bC bD bE bF bG bH bI bJ bK bL bM bN bO bP bQ bR bS bT bU bV bW bX bY bZ ca cb cc cd ce cf cg ch ci cj ck cl cm cn co cp cq cr ct cu cv cw cx cy cz cA cB cC cD cE cF cG cH cI cJ cK cL cM cN cO cP cQ cR cS cT cU cV cW cX cY cZ da db dc dd de df dg dh di dj dk dl dm dn dp dq dr ds dt du dv dw dx dy dz:Value) (hw:ym h) (hau:au.length≤100000) (b0:BlkL w g0 62 (za zu)) (b1:BlkL w g1 62 (za ⟨nm,us,h,-1,rst⟩)) (h0:base≤g0) (h1:base≤g1) (hne:g0≠g1) (hA:Below base w0 w) (hE:E≤au.length)
  (hPU:PU=match vz (au.drop (E+1)) with
   | none=>none
   | some p=>some ⟨nm,us,h,if p=zv nm then -1 else p,rst⟩) :
  Code.wp Tryz.prog (wk 17 Z9) (bodyPost Tryz.prog Tryz.f52 (uS PU base w0)) ⟨#[u0,u1,.pointer (some ⟨g0,0,none⟩),u3,u4,.string (mk nm),u6,u7,u8,.string (mk au),.pointer (some ⟨g1,0,none⟩),aa,.int .i64 (E:Int),ac,ad,ae,af,ag,ah,ai,aj,ak,al,am,an,ao,ap,aq,ar,av,aw,ax,ay,az,aA,aB,aC,aD,aE,aF,aG,aH,aI,aJ,aK,aL,aM,aN,aO,aP,aQ,aR,aS,aT,aU,aV,aW,aX,aY,aZ,ba,bb,bc,bd,be,bf,bg,bh,bi,bj,bk,bl,bm,bn,bo,bp,bq,br,bs,bt,bu,bv,bw,bx,bz,bA,bB,bC,bD,bE,bF,bG,bH,bI,bJ,bK,bL,bM,bN,bO,bP,bQ,bR,bS,bT,bU,bV,bW,bX,bY,bZ,ca,cb,cc,cd,ce,cf,cg,ch,ci,cj,ck,cl,cm,cn,co,cp,cq,cr,ct,cu,cv,cw,cx,cy,cz,cA,cB,cC,cD,cE,cF,cG,cH,cI,cJ,cK,cL,cM,cN,cO,cP,cQ,cR,cS,cT,cU,cV,cW,cX,cY,cZ,da,db,dc,dd,de,df,dg,dh,di,dj,dk,dl,dm,dn,dp,dq,dr,ds,dt,du,dv,dw,dx,dy,dz],[]⟩ w:=by
 conv=>arg 2;whnf
 apply wp_seq_k;intro K hK
 have HK:Hid (∀ (u0 u1 u3 u4 u6 u7 u8 u9 aa ab ac ad ae af ag ah ai aj ak al am an ao ap aq ar av aw ax ay az aA aB aC aD aE aF aG aH aI aJ aK aL aM aN aO aP aQ aR aS aT aU aV aW aX aY aZ ba bb bc bd be bf bg bh bi bj bk bl bm bn bo bp bq br bs bt bu bv bw bx bz bA bB bC bD bE bF bG bH bI bJ bK bL bM bN bO bP bQ bR bS bT bU bV bW bX bY bZ ca cb cc cd ce cf cg ch ci cj ck cl cm cn co cp cq cr ct cu cv cw cx cy cz cA cB cC cD cE cF cG cH cI cJ cK cL cM cN cO cP cQ cR cS cT cU cV cW cX cY cZ da db dc dd de df dg dh di dj dk dl dm dn dp dq dr ds dt du dv dw dx dy dz:Value) (p:Int) (w':World),BlkL w' g0 62 (za zu)→BlkL w' g1 62 (za ⟨nm,us,h,p,rst⟩)→Below base w0 w'→PU=some ⟨nm,us,h,if p=zv nm then -1 else p,rst⟩→K ⟨#[u0,u1,.pointer (some ⟨g0,0,none⟩),u3,u4,.string (mk nm),u6,u7,u8,u9,.pointer (some ⟨g1,0,none⟩),aa,ab,ac,ad,ae,af,ag,ah,ai,aj,ak,al,am,an,ao,ap,aq,ar,av,aw,ax,ay,az,aA,aB,aC,aD,aE,aF,aG,aH,aI,aJ,aK,aL,aM,aN,aO,aP,aQ,aR,aS,aT,aU,aV,aW,aX,aY,aZ,ba,bb,bc,bd,be,bf,bg,bh,bi,bj,bk,bl,bm,bn,bo,bp,bq,br,bs,bt,bu,bv,bw,bx,bz,bA,bB,bC,bD,bE,bF,bG,bH,bI,bJ,bK,bL,bM,bN,bO,bP,bQ,bR,bS,bT,bU,bV,bW,bX,bY,bZ,ca,cb,cc,cd,ce,cf,cg,ch,ci,cj,ck,cl,cm,cn,co,cp,cq,cr,ct,cu,cv,cw,cx,cy,cz,cA,cB,cC,cD,cE,cF,cG,cH,cI,cJ,cK,cL,cM,cN,cO,cP,cQ,cR,cS,cT,cU,cV,cW,cX,cY,cZ,da,db,dc,dd,de,df,dg,dh,di,dj,dk,dl,dm,dn,dp,dq,dr,ds,dt,du,dv,dw,dx,dy,dz],[]⟩ w'):=KZ9 (fun u0 u1 u3 u4 u6 u7 u8 u9 aa ab ac ad ae af ag ah ai aj ak al am an ao ap aq ar av aw ax ay az aA aB aC aD aE aF aG aH aI aJ aK aL aM aN aO aP aQ aR aS aT aU aV aW aX aY aZ ba bb bc bd be bf bg bh bi bj bk bl bm bn bo bp bq br bs bt bu bv bw bx bz bA bB bC bD bE bF bG bH bI bJ bK bL bM bN bO bP bQ bR bS bT bU bV bW bX bY bZ ca cb cc cd ce cf cg ch ci cj ck cl cm cn co cp cq cr ct cu cv cw cx cy cz cA cB cC cD cE cF cG cH cI cJ cK cL cM cN cO cP cQ cR cS cT cU cV cW cX cY cZ da db dc dd de df dg dh di dj dk dl dm dn dp dq dr ds dt du dv dw dx dy dz p w' b0 b1 hA hPU=>hK _ _ (Q8 nm us rst h p g0 g1 w0 w' base PU u0 u1 u3 u4 u6 u7 u8 u9 aa ab ac ad ae af ag ah ai aj ak al am an ao ap aq ar av aw ax ay az aA aB aC aD aE aF aG aH aI aJ aK aL aM aN aO aP aQ aR aS aT aU aV aW aX aY aZ ba bb bc bd be bf bg bh bi bj bk bl bm bn bo bp bq br bs bt bu bv bw bx bz bA bB bC bD bE bF bG bH bI bJ bK bL bM bN bO bP bQ bR bS bT bU bV bW bX bY bZ ca cb cc cd ce cf cg ch ci cj ck cl cm cn co cp cq cr ct cu cv cw cx cy cz cA cB cC cD cE cF cG cH cI cJ cK cL cM cN cO cP cQ cR cS cT cU cV cW cX cY cZ da db dc dd de df dg dh di dj dk dl dm dn dp dq dr ds dt du dv dw dx dy dz hw b0 b1 h0 h1 hne hA hPU))
 clear hK;have hsz:(mk au).size=au.length:=zh au;obtain ⟨n,hn⟩:=KZ6 au.length;have HN:=KZ9 hn;rw [←hn] at hsz hau hE;have HB0:=KZ9 b0;have HB1:=KZ9 b1;have HA:=KZ9 hA;have HH0:=KZ9 h0;have HH1:=KZ9 h1;have HNE:=KZ9 hne;have HW:=KZ9 hw;clear b0 b1 hA h0 h1 hne hw hn;by_cases hlt:E+1<n
 ·have hdne:au.drop (E+1)≠[]:=fun e=>by
   have:=congrArg List.length e;rw [List.length_drop,←HN.out] at this;simp at this;omega
  rw [T1 _ hdne] at hPU;have HPU:=KZ9 hPU;clear hPU hdne;go_wp2_with fail
  all_goals try omega
  go_loop [15,16] (fun nv iv=>∃ k m:Nat,iv= .int .i64 k∧nv= .int .i64 m∧E+1≤k∧k≤n∧m≤1048576∧Hid (uH (au.drop (E+1)) 0=uH (au.drop k) m)) (fun _ iv=>n - (intOf iv).toNat)
  case atStart=>exact ⟨E+1,0,by go_num,rfl,by omega,by omega,by omega,KZ9 rfl⟩
  case round =>
   obtain ⟨k,m,rfl,rfl,hk1,hk2,hm,hst⟩:=hrel;by_cases hkn:k<n
   ·have hkl:k<au.length:=by rw [←HN.out];exact hkn
    have hks:k<(mk au).size:=by rw [hsz];exact hkn
    obtain ⟨x,hx2⟩:=KZ6 ((au[k]).toNat);have cs:(((mk au)[k]'hks).toNat:Int)=(x:Int):=by rw [hx2];rfl
    have hst2:=hst.out.trans (RE au k hkl m x hx2);have hb256:x<256:=by rw [hx2];exact (au[k]).toNat_lt
    clear hx2 hst;by_cases hd:48≤x∧x≤57
    ·rw [if_pos hd] at hst2;obtain ⟨m2,hm2⟩:∃ m2:Nat,(m2:Int)=min ((m:Int)*10+((x:Int) - 48)) 1048576:=⟨(min ((m:Int)*10+((x:Int) - 48)) 1048576).toNat,by omega⟩;rw [←hm2] at hst2;have HST:=KZ9 hst2;have hmm:m2≤1048576:=by omega
     have hm3:min ((m:Int)*10+((x:Int) - 48)) 1048576=(m2:Int):=hm2.symm;clear hst2 hm2;go_wp2
     all_goals try omega
     all_goals
      go_round
      case rel=>exact ⟨k+1,m2,by go_num,by go_num,by omega,by omega,by omega,HST⟩
      case measure=>simp [intOf];omega
    rw [if_neg hd] at hst2;have hfin:=HPU.out;rw [hst2] at hfin;have HFIN:Hid (PU=none):=KZ9 hfin;clear hst2 hfin HPU HK;go_wp2_with (refine wpList_store_row rfl 62 (.tmp 2) (.tmp 165) rfl g0 (za zu).toArray rfl rfl 62 _ HB0.out zN rfl (ze (yk zu)) ?_)
    all_goals try omega
    all_goals
     (try rw [Exit.noGoto_ret])
     refine bodyPost_ret (zf rfl _ _ g0 62 _ _ rfl (HB0.out.setRow (za zu)) Tryz.underlying62 rfl zN) rfl ?_;exact ⟨⟨zu,16,rfl,.inr ⟨by decide,rfl,HFIN.out⟩⟩,below_setRow HA.out HH0.out _⟩
   have hst2:=hst.out;have hdz:au.drop k=[]:=List.drop_of_length_le (by rw [←HN.out];omega);rw [hdz,uH] at hst2;have hfin:=HPU.out;rw [hst2] at hfin;simp only at hfin;clear hst hst2 HPU hdz;by_cases hbig:65535<m
   ·have hg:decide ((65535:Int)<(m:Int))=true:=KZ7 (by omega);rw [if_pos (by omega)] at hfin;have HFIN:Hid (PU=none):=KZ9 hfin;clear hfin HK;go_wp2_with (refine wpList_store_row rfl 62 (.tmp 2) (.tmp 177) rfl g0 (za zu).toArray rfl rfl 62 _ HB0.out zN rfl (ze (yk zu)) ?_)
    all_goals try omega
    all_goals
     (try rw [Exit.noGoto_ret])
     refine bodyPost_ret (zf rfl _ _ g0 62 _ _ rfl (HB0.out.setRow (za zu)) Tryz.underlying62 rfl zN) rfl ?_;exact ⟨⟨zu,16,rfl,.inr ⟨by decide,rfl,HFIN.out⟩⟩,below_setRow HA.out HH0.out _⟩
   have hg:decide ((65535:Int)<(m:Int))=false:=KZ8 (by omega);rw [if_neg (by omega)] at hfin;have HFIN:=KZ9 hfin;clear hfin;obtain ⟨kd,hnn,va,v6⟩:=h;obtain ⟨x0,x1,x2,x3,x4,x5,x6,x7,rfl⟩:=si HW.out.1;have c13:=HB1.out.c 13 _ rfl;have f13:=HB1.out.f 13;go_wp2
   all_goals try omega
   exact HK.out _ _ _ _ _ _ _ _ _ _ _ _ _ _ _ _ _ _ _ _ _ _ _ _ _ _ _ _ _ _ _ _ _ _ _ _ _ _ _ _ _ _ _ _ _ _ _ _ _ _ _ _ _ _ _ _ _ _ _ _ _ _ _ _ _ _ _ _ _ _ _ _ _ _ _ _ _ _ _ _ _ _ _ _ _ _ _ _ _ _ _ _ _ _ _ _ _ _ _ _ _ _ _ _ _ _ _ _ _ _ _ _ _ _ _ _ _ _ _ _ _ _ _ _ _ _ _ _ _ _ _ _ _ _ _ _ _ _ _ _ _ _ _ _ _ _ _ _ _ _ _ _ _ _ _ _ _ _ _ _ _ _ _ _ _ _ _ _ _ _ _ _ _ _ _ _ _ _ _ _ _ _ _ _ _ _ (HB0.out.other HNE.out _ _) (show BlkL _ g1 62 (za ⟨nm,us,⟨kd,hnn,va,[x0,x1,x2,x3,x4,x5,x6,x7]⟩,(m:Int),rst⟩) from HB1.out.set 13 (by simp [za,zc,zg]) (.int .i64 (m:Int))) (HA.out.trans (yV _ g1 13 _ HH1.out)) HFIN.out
 have hd0:au.drop (E+1)=[]:=List.drop_of_length_le (by rw [←HN.out];omega);rw [hd0] at hPU;have hfin:Hid (PU=some ⟨nm,us,h,if (-1:Int)=zv nm then -1 else -1,rst⟩):=KZ9 hPU;clear hPU hd0;go_wp2
 all_goals try omega
 exact HK.out _ _ _ _ _ _ _ _ _ _ _ _ _ _ _ _ _ _ _ _ _ _ _ _ _ _ _ _ _ _ _ _ _ _ _ _ _ _ _ _ _ _ _ _ _ _ _ _ _ _ _ _ _ _ _ _ _ _ _ _ _ _ _ _ _ _ _ _ _ _ _ _ _ _ _ _ _ _ _ _ _ _ _ _ _ _ _ _ _ _ _ _ _ _ _ _ _ _ _ _ _ _ _ _ _ _ _ _ _ _ _ _ _ _ _ _ _ _ _ _ _ _ _ _ _ _ _ _ _ _ _ _ _ _ _ _ _ _ _ _ _ _ _ _ _ _ _ _ _ _ _ _ _ _ _ _ _ _ _ _ _ _ _ _ _ _ _ _ _ _ _ _ _ _ _ _ _ _ _ _ _ _ _ _ _ _ HB0.out HB1.out HA.out hfin.out
theorem Yw (nm us rst au:Bs) (E:Nat) (g0 g1:Nat) (w0 w:World) (base:Nat) (PU:Option UrlP) (u0 u1 u3 u4 u6 u7 u8 aa ab ac ad ae af ag ah ai aj ak al am an ao ap aq ar av aw ax ay az aA aB aC aD aE aF aG aH aI aJ aK aL aM aN aO aP aQ aR aS aT aU aV aW aX aY aZ ba bb bc bd be bf bg bh bi bj bk bl bm bn bo bp bq br bs bt bu bv bw bx bz bA bB bC bD bE bF bG bH bI bJ bK bL bM bN bO bP bQ bR bS bT bU bV bW bX bY bZ ca cb cc cd ce cf cg ch ci cj ck cl cm cn co cp cq cr cs ct cu cv cw cx cy cz cA cB cC cD cE cF cG cH cI cJ cK cL cM cN cO cP cQ cR cS cT cU cV cW cX cY cZ da db dc dd de df dg dh di dj dk dl dm dn dp dq dr ds dt du dv dw dx:Value) (hau:au.length≤100000) (b0:BlkL w g0 62 (za zu)) (b1:BlkL w g1 62 (za ⟨nm,us,zk,-1,rst⟩)) (h0:base≤g0) (h1:base≤g1) (hne:g0≠g1) (hA:Below base w0 w) (hE:E≤au.length)
  (hPU:PU=match yY (au.take E) with
   | none=>none
   | some h=>match vz (au.drop (E+1)) with
    | none=>none
    | some p=>some ⟨nm,us,h,if p=zv nm then -1 else p,rst⟩) :
  Code.wp Tryz.prog (wk 14 Z9) (bodyPost Tryz.prog Tryz.f52 (uS PU base w0)) ⟨#[u0,u1,.pointer (some ⟨g0,0,none⟩),u3,u4,.string (mk nm),u6,u7,u8,.string (mk au),.pointer (some ⟨g1,0,none⟩),aa,.int .i64 (E:Int),ab,ac,ad,ae,af,ag,ah,ai,aj,ak,al,am,an,ao,ap,aq,ar,av,aw,ax,ay,az,aA,aB,aC,aD,aE,aF,aG,aH,aI,aJ,aK,aL,aM,aN,aO,aP,aQ,aR,aS,aT,aU,aV,aW,aX,aY,aZ,ba,bb,bc,bd,be,bf,bg,bh,bi,bj,bk,bl,bm,bn,bo,bp,bq,br,bs,bt,bu,bv,bw,bx,bz,bA,bB,bC,bD,bE,bF,bG,bH,bI,bJ,bK,bL,bM,bN,bO,bP,bQ,bR,bS,bT,bU,bV,bW,bX,bY,bZ,ca,cb,cc,cd,ce,cf,cg,ch,ci,cj,ck,cl,cm,cn,co,cp,cq,cr,cs,ct,cu,cv,cw,cx,cy,cz,cA,cB,cC,cD,cE,cF,cG,cH,cI,cJ,cK,cL,cM,cN,cO,cP,cQ,cR,cS,cT,cU,cV,cW,cX,cY,cZ,da,db,dc,dd,de,df,dg,dh,di,dj,dk,dl,dm,dn,dp,dq,dr,ds,dt,du,dv,dw,dx],[]⟩ w:=by
 conv=>arg 2;whnf
 have hx1:(mk au).extract 0 E=mk (au.take E):=by rw [uf,zj]
 have hsz:(mk au).size=au.length:=zh au;have hpar:=TU (mk (au.take E)) w (by rw [zh,List.length_take];omega);rw [zj] at hpar;have HPAR:=KZ9 hpar;obtain ⟨n,hn⟩:=KZ6 au.length;have HN:=KZ9 hn;rw [←hn] at hsz hau hE;have HB0:=KZ9 b0;have HB1:=KZ9 b1;have HA:=KZ9 hA;have HH0:=KZ9 h0;have HH1:=KZ9 h1;have HNE:=KZ9 hne;have HPU:=KZ9 hPU;have hl0:=b0.lt;have hl1:=b1.lt;clear b0 b1 hA hne hpar hn hPU;apply wp_seq_k;intro K1 hK1;have HK1:=KZ9 hK1;clear hK1;go_wp2_with fail
 all_goals try omega
 refine HPAR.out.mono ?_;rintro e w3 ⟨⟨h,c,rfl,hres⟩,hb3⟩;have hwh:ym h:=by
  rcases hres with ⟨_,h2⟩ | ⟨_,h2,_⟩
  ·exact YV h2
  rw [h2];exact vV
 have hs3:=hb3.size;have HWH:=KZ9 hwh;have HI:=KZ9 (xI hwh.1);have HSZ:=KZ9 (show (zc zk).toArray.size=(zc h).toArray.size by rw [List.size_toArray,List.size_toArray,xR hwh.1];rfl);have HN3:=KZ9 (heap_alloc_new w3 (.cells (zc zk).toArray 60));have HB4:=KZ9 (((HB1.out.below hl1 hb3).alloc (.cells (zc zk).toArray 60)).setRow_other (show g1≠w3.heap.size by omega) (zc h).toArray);have HR4:=KZ9 (((HB0.out.below hl0 hb3).alloc (.cells (zc zk).toArray 60)).setRow_other (show g0≠w3.heap.size by omega) (zc h).toArray);have HY4:=KZ9 ((BlkL.new w3 60 (zc zk)).setRow (zc h));have HA4:=KZ9 (below_setRow ((HA.out.trans (hb3.mono (by omega))).alloc (by omega) (.cells (zc zk).toArray 60)) (show base≤w3.heap.size by omega) (zc h).toArray);obtain ⟨W4,hW4⟩:=KZ6 ((w3.alloc (.cells (zc zk).toArray 60)).setRow w3.heap.size (zc h).toArray)
 rw [←hW4] at HB4 HR4 HY4 HA4;have hs4:W4.heap.size=w3.heap.size+1:=by rw [hW4];simp [World.setRow]
 have HW4:Hid ((w3.alloc (.cells #[.int .i64 0,.string ⟨#[]⟩,.int .u32 0,.int .u16 0,.int .u16 0,.int .u16 0,.int .u16 0,.int .u16 0,.int .u16 0,.int .u16 0,.int .u16 0] 60)).setRow w3.heap.size (zc h).toArray=W4):=KZ9 hW4.symm;have HRES:=KZ9 hres;clear hb3 HPAR HB0 HB1 HA hW4 hres hwh hx1;go_wp2_with (refine wpList_store_row rfl 60 (.tmp 13) (.tmp 134) rfl w3.heap.size (zc h).toArray rfl rfl 60 _ HN3.out HI.out HSZ.out (ze (yL h)) ?_)
 all_goals try omega
 rw [HW4.out];clear HW4 HN3;apply HK1.out;clear HK1;apply wp_seq_k;intro K2 hK2;have HK2:=KZ9 hK2;clear hK2;rcases HRES.out with ⟨rfl,hok⟩ | ⟨hc,hh0,hno⟩
 ·have hf:=HPU.out;rw [hok] at hf;have HF:=KZ9 hf;clear hf hok HPU HRES;go_wp2
  all_goals try omega
  apply HK2.out;clear HK2;apply wp_seq_k;intro K3 hK3;have HK3:=KZ9 hK3;clear hK3;have hv8:(⟨nm,us,zk,-1,rst⟩:UrlP).host.v6.length=8:=rfl;have h11:(zc h).length=11:=xR HWH.out.1;have HTH:=KZ9 (HB4.out.there 2 (zc h).toArray.size (by rw [List.size_toArray,h11,xo hv8];omega));have hB5:=BlkL.putCells (zc h) 2 W4 _ HB4.out (by rw [h11,xo hv8];omega);have e5:(za ⟨nm,us,zk,-1,rst⟩).take 2++(zc h++(za ⟨nm,us,zk,-1,rst⟩).drop (2+(zc h).length))=za ⟨nm,us,h,-1,rst⟩:=by
   rw [h11];rfl
  rw [e5] at hB5;have hR5:=BlkL.putCells_other (k:=g1) (show g0≠g1 from HNE.out) (zc h) 2 W4 HR4.out;have HA5:=KZ9 (uQ HH1.out (zc h) 2 W4 HA4.out);obtain ⟨W5,hW5⟩:=KZ6 (W4.setCells g1 2 (zc h));have HW5:=KZ9 hW5.symm;rw [←hW5] at hB5 hR5 HA5;have HB5:=KZ9 hB5;have HR5:=KZ9 hR5;clear hW5 hB5 hR5 e5 hv8 h11;go_wp2_with (first
   | refine wpList_load_row rfl 60 (.tmp 13) rfl w3.heap.size rfl 60 _ _ _ HY4.out Tryz.underlying60 rfl HI.out ?_
   | refine wpList_store_mid rfl 60 (.tmp 141) (.tmp 140) rfl g1 2 (zc h).toArray rfl rfl HTH.out HI.out (ze (yL h)) ?_)
  all_goals try omega
  rw [HW5.out];clear HW5;apply HK3.out;clear HK3;exact Q9 nm us rst au h E g0 g1 w0 W5 base PU _ _ _ _ _ _ _ _ _ _ _ _ _ _ _ _ _ _ _ _ _ _ _ _ _ _ _ _ _ _ _ _ _ _ _ _ _ _ _ _ _ _ _ _ _ _ _ _ _ _ _ _ _ _ _ _ _ _ _ _ _ _ _ _ _ _ _ _ _ _ _ _ _ _ _ _ _ _ _ _ _ _ _ _ _ _ _ _ _ _ _ _ _ _ _ _ _ _ _ _ _ _ _ _ _ _ _ _ _ _ _ _ _ _ _ _ _ _ _ _ _ _ _ _ _ _ _ _ _ _ _ _ _ _ _ _ _ _ _ _ _ _ _ _ _ _ _ _ _ _ _ _ _ _ _ _ _ _ _ _ _ _ _ _ _ _ _ _ _ _ _ _ _ _ _ _ _ _ _ _ _ _ HWH.out (by rw [←HN.out];exact hau) HR5.out HB5.out HH0.out HH1.out HNE.out HA5.out (by rw [←HN.out];exact hE) HF.out
 have hf:=HPU.out;rw [hno] at hf;have HFIN:Hid (PU=none):=KZ9 hf;have g4:(c != 0)=true:=by simpa using hc
 have HC:=KZ9 hc;clear hf hno hc HPU HRES HK2;go_wp2_with (refine wpList_store_row rfl 62 (.tmp 2) (.tmp 138) rfl g0 (za zu).toArray rfl rfl 62 _ HR4.out zN rfl (ze (yk zu)) ?_)
 all_goals try omega
 refine bodyPost_ret (zf rfl _ _ g0 62 _ _ rfl (HR4.out.setRow (za zu)) Tryz.underlying62 rfl zN) rfl ?_;exact ⟨⟨zu,c,rfl,.inr ⟨HC.out,rfl,HFIN.out⟩⟩,below_setRow HA4.out HH0.out _⟩
end Go.Proofs.YtjbciamhhfcdoaaGreatDoor
namespace Hs
open Go
theorem ZP (c:UInt8):∀ l:Bs,l.drop (wD [c] l)=[]∨(l.drop (wD [c] l)).head? =some c
 | []=> .inl rfl
 | b::r=>by
  by_cases h:b=c
  ·subst h;right;rw [wD,if_pos (by simp)];rfl
  rw [wD,if_neg (by simpa using h)];exact ZP c r
theorem kx {nm us rst au:Bs} {E:Nat} (h:au.drop E=[]∨(au.drop E).head? =some 58):vl ⟨nm,us,zk,-1,rst⟩ (au.take E) (au.drop E)=match yY (au.take E) with
  | none=>none
  | some h=>match vz (au.drop (E+1)) with
   | none=>none
   | some p=>some ⟨nm,us,h,if p=zv nm then -1 else p,rst⟩:=by
 have e:(au.drop E).drop 1=au.drop (E+1):=by rw [List.drop_drop]
 rw [Zy h,e];rfl
end Hs
namespace Go.Proofs.YtjbciamhhfcdoaaGreatDoor
open Go.RowKit Hs
theorem UW (au:Bs) (c:UInt8) (W:World) (hau:au.length≤100000):Calls Tryz.prog 93 #[.string (mk au),.string ⟨#[c]⟩] W fun e w'=>e= .returned (.int .i64 (wD [c] au:Nat))∧Below W.heap.size W w':=by
 have:=Zu (mk au) ⟨#[c]⟩ W (by rw [zh];omega) (by show 1≤1000;decide);rw [zj,show un (⟨#[c]⟩:ByteArray)=[c] from rfl] at this;exact this
set_option maxRecDepth 100000
set_option maxHeartbeats 16000000
theorem Pa (nm us rst au:Bs) (g0 g1:Nat) (w0 w:World) (base:Nat) (PU:Option UrlP) (u0 u1 u3 u4 u6 u7 u8 aa ab ac ad ae af ag ah ai aj ak al am an ao ap aq ar av aw ax ay az aA aB aC aD aE aF aG aH aI aJ aK aL aM aN aO aP aQ aR aS aT aU aV aW aX aY aZ ba bb bc bd be bf bg bh bi bj bk bl bm bn bo bp bq br bs bt bu bv bw bx bz bA bB bC bD bE bF bG bH bI bJ bK bL bM bN bO bP bQ bR bS bT bU bV bW bX bY bZ ca cb cc cd ce cf cg ch ci cj ck cl cm cn co cp cq cr ct cu cv cw cx cy cz cA cB cC cD cE cF cG cH cI cJ cK cL cM cN cO cP cQ cR cS cT cU cV cW cX cY cZ da db dc dd de df dg dh di dj dk dl dm dn dp dq dr ds dt du dv dw dx dy dz:Value) (hau:au.length≤100000) (b0:BlkL w g0 62 (za zu)) (b1:BlkL w g1 62 (za ⟨nm,us,zk,-1,rst⟩)) (h0:base≤g0) (h1:base≤g1) (hne:g0≠g1) (hA:Below base w0 w)
  (hPU:PU=match yC au with
   | none=>none
   | some (n,t)=>vl ⟨nm,us,zk,-1,rst⟩ n t) :
  Code.wp Tryz.prog (wk 12 Z9) (bodyPost Tryz.prog Tryz.f52 (uS PU base w0)) ⟨#[u0,u1,.pointer (some ⟨g0,0,none⟩),u3,u4,.string (mk nm),u6,u7,u8,.string (mk au),.pointer (some ⟨g1,0,none⟩),aa,ab,ac,ad,ae,af,ag,ah,ai,aj,ak,al,am,an,ao,ap,aq,ar,av,aw,ax,ay,az,aA,aB,aC,aD,aE,aF,aG,aH,aI,aJ,aK,aL,aM,aN,aO,aP,aQ,aR,aS,aT,aU,aV,aW,aX,aY,aZ,ba,bb,bc,bd,be,bf,bg,bh,bi,bj,bk,bl,bm,bn,bo,bp,bq,br,bs,bt,bu,bv,bw,bx,bz,bA,bB,bC,bD,bE,bF,bG,bH,bI,bJ,bK,bL,bM,bN,bO,bP,bQ,bR,bS,bT,bU,bV,bW,bX,bY,bZ,ca,cb,cc,cd,ce,cf,cg,ch,ci,cj,ck,cl,cm,cn,co,cp,cq,cr,ct,cu,cv,cw,cx,cy,cz,cA,cB,cC,cD,cE,cF,cG,cH,cI,cJ,cK,cL,cM,cN,cO,cP,cQ,cR,cS,cT,cU,cV,cW,cX,cY,cZ,da,db,dc,dd,de,df,dg,dh,di,dj,dk,dl,dm,dn,dp,dq,dr,ds,dt,du,dv,dw,dx,dy,dz],[]⟩ w:=by
 conv=>arg 2;whnf
 rw [YX] at hPU;have hsz:(mk au).size=au.length:=zh au;have hi1:=jz [58] au;have hi2:=jz [93] au;have hh1:=ZP 58 au;have hix1:=fun W=>UW au 58 W hau;have hix2:=fun W=>UW au 93 W hau;obtain ⟨E,hE⟩:=KZ6 (wD [58] au);obtain ⟨G,hG⟩:=KZ6 (wD [93] au);rw [←hE,←hG] at hPU;rw [←hE] at hi1 hh1;rw [←hG] at hi2;simp only [←hE] at hix1;simp only [←hG] at hix2;have HX1:=KZ9 hix1;have HX2:=KZ9 hix2;have HB0:=KZ9 b0;have HB1:=KZ9 b1;have HA:=KZ9 hA;have HH0:=KZ9 h0;have HH1:=KZ9 h1;have HNE:=KZ9 hne;have hl0:=b0.lt;have hl1:=b1.lt;have HHD:=KZ9 hh1;have HPU0:=KZ9 hPU;clear hE hG hix1 hix2 b0 b1 hA hne hh1 hPU;apply wp_seq_k;intro K1 hK1;have HK1:=KZ9 hK1;clear hK1;go_wp2_with fail
 all_goals try omega
 refine (HX1.out _).mono ?_;rintro e w1 ⟨rfl,hb1⟩;have hs1:=hb1.size;have C0:=KZ9 (HB0.out.below hl0 hb1);have C1:=KZ9 (HB1.out.below hl1 hb1);have CA:=KZ9 (HA.out.trans (hb1.mono (by omega)));clear hb1 HX1 HB0 HB1 HA;go_wp2
 all_goals try omega
 apply HK1.out;clear HK1;apply wp_seq_k;intro K2 hK2;have HK2:=KZ9 hK2;clear hK2;have hPU:=HPU0.out;clear HPU0;by_cases hbr:au.head? =some 91
 ·rw [if_pos hbr] at hPU;obtain ⟨r,rfl⟩:∃ r,au=91::r:=by
   cases au with
   | nil=>cases hbr
   | cons b r=>exact ⟨r,by rw [Option.some.inj hbr]⟩
  have e1:((mk (91::r)).toList==([]:Bs))=false:=by rw [toList_mk'];rfl
  have hpos:0<(mk (91::r)).size:=by rw [zh];simp
  have c0:(((mk (91::r))[0]'hpos).toNat:Int)=91:=rfl;have hlr:0<(91::r:Bs).length:=by simp
  obtain ⟨au,hau2⟩:∃ au:Bs,au=91::r:=⟨_,rfl⟩;rw [←hau2] at hPU;have HPU:=KZ9 hPU;have hsza:(mk au).size=au.length:=zh au;have HAU:=KZ9 hau2;clear hPU hbr HHD hi1;go_wp2_with fail
  all_goals try omega
  refine (HX2.out _).mono ?_;rintro e w2 ⟨rfl,hb2⟩;have hs2:=hb2.size;have D0:=KZ9 (C0.out.below (by omega) hb2);have D1:=KZ9 (C1.out.below (by omega) hb2);have DA:=KZ9 (CA.out.trans (hb2.mono (by omega)));have HLN:=KZ9 (show au.length=(91::r).length by rw [hau2]);obtain ⟨n,hn⟩:=KZ6 ((91::r:Bs).length);have HN:=KZ9 hn;rw [←hn] at hsz hi2 hau hlr;clear hb2 HX2 C0 C1 CA hn e1 c0 hau2;by_cases hlong:n<G+1
  ·have hf:=HPU.out;rw [if_pos (by rw [HLN.out,←HN.out];exact hlong)] at hf;have HFIN:Hid (PU=none):=KZ9 hf;have gq:decide ((n:Int)<(G:Int)+1)=true:=KZ7 (by omega);clear hf HPU HK2;go_wp2_with (refine wpList_store_row rfl 62 (.tmp 2) (.tmp 128) rfl g0 (za zu).toArray rfl rfl 62 _ D0.out zN rfl (ze (yk zu)) ?_)
   all_goals try omega
   all_goals
    refine bodyPost_ret (zf rfl _ _ g0 62 _ _ rfl (D0.out.setRow (za zu)) Tryz.underlying62 rfl zN) rfl ?_;exact ⟨⟨zu,4,rfl,.inr ⟨by decide,rfl,HFIN.out⟩⟩,below_setRow DA.out HH0.out _⟩
  have hf:=HPU.out;rw [if_neg (by rw [HLN.out,←HN.out];exact hlong)] at hf;simp only at hf;have gq:decide ((n:Int)<(G:Int)+1)=false:=KZ8 (by omega);by_cases hlast:G+1<n
  ·have gq2:decide ((G:Int)+1<(n:Int))=true:=KZ7 (by omega);have hgl:G+1<au.length:=by rw [HLN.out,←HN.out];exact hlast
   have hgs:G+1<(mk (91::r)).size:=by rw [hsz];exact hlast
   have hdr:(au.drop (G+1)).head? =some au[G+1]:=by rw [List.drop_eq_getElem_cons hgl];rfl
   obtain ⟨x,hx⟩:=KZ6 ((au[G+1]).toNat);have cs:(((mk (91::r))[G+1]'hgs).toNat:Int)=(x:Int):=by
    have:=HAU.out;subst this;rw [hx];rfl
   by_cases hc:x=58
   ·have hgood:(au.drop (G+1)).head? =some 58:=by rw [hdr];congr 1;exact UInt8.toNat_inj.1 (by rw [←hx,hc];rfl)
    rw [kx (.inr hgood)] at hf;have HF:=KZ9 hf;have gq3:((x:Int) != 58)=false:=by simp;omega
    clear hf HPU hdr hgood hx;go_wp2
    all_goals try omega
    apply HK2.out;clear HK2;rw [←HAU.out];exact Yw nm us rst au (G+1) g0 g1 w0 w2 base PU _ _ _ _ _ _ _ _ _ _ _ _ _ _ _ _ _ _ _ _ _ _ _ _ _ _ _ _ _ _ _ _ _ _ _ _ _ _ _ _ _ _ _ _ _ _ _ _ _ _ _ _ _ _ _ _ _ _ _ _ _ _ _ _ _ _ _ _ _ _ _ _ _ _ _ _ _ _ _ _ _ _ _ _ _ _ _ _ _ _ _ _ _ _ _ _ _ _ _ _ _ _ _ _ _ _ _ _ _ _ _ _ _ _ _ _ _ _ _ _ _ _ _ _ _ _ _ _ _ _ _ _ _ _ _ _ _ _ _ _ _ _ _ _ _ _ _ _ _ _ _ _ _ _ _ _ _ _ _ _ _ _ _ _ _ _ _ _ _ _ _ _ _ _ _ _ _ _ _ _ _ _ (by rw [HLN.out,←HN.out];exact hau) D0.out D1.out HH0.out HH1.out HNE.out DA.out (by omega) HF.out
   have hb1:au.drop (G+1)≠[]:=fun e=>by rw [e] at hdr;cases hdr
   have hb2:(au.drop (G+1)).head? ≠some 58:=fun e=>by
    rw [hdr] at e;exact hc (by rw [hx,Option.some.inj e];rfl)
   have hbad:vl ⟨nm,us,zk,-1,rst⟩ (au.take (G+1)) (au.drop (G+1))=none:=kA ⟨hb1,hb2⟩;have HFIN:=KZ9 (hf.trans hbad);have gq3:((x:Int) != 58)=true:=by simp;omega
   clear hf HPU hdr hbad hb1 hb2 hx HK2;go_wp2_with (refine wpList_store_row rfl 62 (.tmp 2) (.tmp 128) rfl g0 (za zu).toArray rfl rfl 62 _ D0.out zN rfl (ze (yk zu)) ?_)
   all_goals try omega
   all_goals
    refine bodyPost_ret (zf rfl _ _ g0 62 _ _ rfl (D0.out.setRow (za zu)) Tryz.underlying62 rfl zN) rfl ?_;exact ⟨⟨zu,4,rfl,.inr ⟨by decide,rfl,HFIN.out⟩⟩,below_setRow DA.out HH0.out _⟩
  have gq2:decide ((G:Int)+1<(n:Int))=false:=KZ8 (by omega);have hd0:au.drop (G+1)=[]:=List.drop_of_length_le (by rw [HLN.out,←HN.out];omega);rw [kx (.inl hd0)] at hf;have HF:=KZ9 hf;clear hf HPU hd0;go_wp2
  all_goals try omega
  apply HK2.out;clear HK2;rw [←HAU.out];exact Yw nm us rst au (G+1) g0 g1 w0 w2 base PU _ _ _ _ _ _ _ _ _ _ _ _ _ _ _ _ _ _ _ _ _ _ _ _ _ _ _ _ _ _ _ _ _ _ _ _ _ _ _ _ _ _ _ _ _ _ _ _ _ _ _ _ _ _ _ _ _ _ _ _ _ _ _ _ _ _ _ _ _ _ _ _ _ _ _ _ _ _ _ _ _ _ _ _ _ _ _ _ _ _ _ _ _ _ _ _ _ _ _ _ _ _ _ _ _ _ _ _ _ _ _ _ _ _ _ _ _ _ _ _ _ _ _ _ _ _ _ _ _ _ _ _ _ _ _ _ _ _ _ _ _ _ _ _ _ _ _ _ _ _ _ _ _ _ _ _ _ _ _ _ _ _ _ _ _ _ _ _ _ _ _ _ _ _ _ _ _ _ _ _ _ _ (by rw [HLN.out,←HN.out];exact hau) D0.out D1.out HH0.out HH1.out HNE.out DA.out (by rw [HLN.out,←HN.out];omega) HF.out
 rw [if_neg hbr] at hPU;simp only at hPU;rw [kx HHD.out] at hPU;have HF:=KZ9 hPU;have hcase:((mk au).toList==([]:Bs))=true∨(((mk au).toList==([]:Bs))=false∧∃ hp:0<(mk au).size,((((mk au)[0]'hp).toNat:Int)==91)=false):=by
  cases au with
  | nil=>left;rw [toList_mk'];rfl
  | cons b r =>
   right;refine ⟨by rw [toList_mk'];rfl,by rw [zh];simp,?_⟩;have:b≠91:=fun e=>hbr (by rw [e];rfl);have h2:b.toNat≠91:=fun e=>this (UInt8.toNat_inj.1 e);have h3:((b.toNat:Int)==91)=false:=by simp;omega
   exact h3
 clear hPU HHD hbr HX2;rcases hcase with e1 | ⟨e1,hpos,e2⟩
 all_goals
  go_wp2
  all_goals try omega
  apply HK2.out;clear HK2;exact Yw nm us rst au E g0 g1 w0 w1 base PU _ _ _ _ _ _ _ _ _ _ _ _ _ _ _ _ _ _ _ _ _ _ _ _ _ _ _ _ _ _ _ _ _ _ _ _ _ _ _ _ _ _ _ _ _ _ _ _ _ _ _ _ _ _ _ _ _ _ _ _ _ _ _ _ _ _ _ _ _ _ _ _ _ _ _ _ _ _ _ _ _ _ _ _ _ _ _ _ _ _ _ _ _ _ _ _ _ _ _ _ _ _ _ _ _ _ _ _ _ _ _ _ _ _ _ _ _ _ _ _ _ _ _ _ _ _ _ _ _ _ _ _ _ _ _ _ _ _ _ _ _ _ _ _ _ _ _ _ _ _ _ _ _ _ _ _ _ _ _ _ _ _ _ _ _ _ _ _ _ _ _ _ _ _ _ _ _ _ _ _ _ _ hau C0.out C1.out HH0.out HH1.out HNE.out CA.out hi1 HF.out
end Go.Proofs.YtjbciamhhfcdoaaGreatDoor
namespace Hs
open Go
def Uk (b:UInt8):Prop:=xW b∨b.toNat=58∨b.toNat=91∨b.toNat=93
structure CanH (h:HostP):Prop where
 back:yY (yf h)=some h
 ok:zT h=true
 bytes:∀ b∈yf h,Uk b
 shape:(∀ b∈yf h,b≠58∧b≠91)∨∃ x:Bs,yf h=91::(x++[93])∧∀ b∈x,b≠93
 len:(yf h).length≤253
 name:h.name.length≤253
 v6:h.v6.length=8∧(∀ x∈h.v6,x<65536)∧h.v4<4294967296
theorem ZO:∀ {L M:List Bs},x9 L=some M→(∀ y∈M,ya y=true)∧M.length=L.length
 | [],M,h=>by
  rw [x9] at h;cases h;exact ⟨fun y hy=>absurd hy (by simp),rfl⟩
 | x::r,M,h=>by
  rw [x9] at h;cases hx:yx x with
  | none=>rw [hx] at h;cases h
  | some y =>
   rw [hx] at h;simp only [] at h;cases hr:x9 r with
   | none=>rw [hr] at h;cases h
   | some N =>
    rw [hr] at h;cases h;obtain ⟨h1,h2⟩:=ZO hr;refine ⟨fun z hz=> ?_,by simp [h2]⟩;rcases List.mem_cons.1 hz with rfl | hz
    ·unfold yx at hx;split at hx
     ·unfold x8 at hx;split at hx
      ·cases hx
      split at hx
      ·rename_i hl;cases hx;exact hl
      cases hx
     exact qx hx
    exact h1 z hz
theorem RO {y:Bs} (h:ya y=true):∀ b∈y,b≠46:=fun b hb=>by
 have:=jg h b hb;unfold sj at this;simp only [decide_eq_true_eq] at this;rintro rfl
 revert this
 decide
theorem Qj {L:List Bs} {h:HostP} (hL:L≠[]) (hl:∀ y∈L,ya y=true) (hd:Y8 (ye 46 L)=some h):∃ n,h=⟨1,n,0,xj⟩∧zJ n=true:=by
 unfold Y8 at hd;split at hd
 ·cases hd
 split at hd
 ·cases hd
 cases hd;refine ⟨_,rfl,?_⟩;unfold zJ;rw [sM 46 L hL (fun a ha=>RO (hl a ha))];simp only [Bool.and_eq_true,decide_eq_true_eq,Bool.not_eq_true',List.all_eq_true];exact ⟨⟨by omega,by simpa using ‹¬ yq (ye 46 L)=true›⟩,hl⟩
theorem SV:∀ x∈xj,x<65536:=by decide
theorem QH {n:Bs} (h:zJ n=true):CanH ⟨1,n,0,xj⟩ where
 back:=by rw [tM h];exact gd h
 ok:=by unfold zT;simp [h]
 bytes:=fun b hb=>by rw [tM h] at hb;exact .inl (ua h b hb)
 shape:= .inl fun b hb=>by
  rw [tM h] at hb;have:=ua h b hb;unfold xW at this;constructor
  ·rintro rfl;revert this;decide
  rintro rfl;revert this;decide
 len:=by rw [tM h];exact (vc h).1
 name:=(vc h).1
 v6:=⟨rfl,SV,by show 0<4294967296;decide⟩
theorem Uo (v:Nat):∀ b∈vJ v,zI b=true∨b=46:=fun b hb=>by
 unfold vJ at hb;have hd:∀ n,b∈Lib.decDigits n→zI b=true:=fun n h=>List.all_eq_true.1 (xy n) b h;simp only [List.mem_append,List.mem_cons] at hb;rcases hb with h | h | h | h | h | h | h
 ·exact .inl (hd _ h)
 ·exact .inr h
 ·exact .inl (hd _ h)
 ·exact .inr h
 ·exact .inl (hd _ h)
 ·exact .inr h
 exact .inl (hd _ h)
theorem SF {b:UInt8} (h:zI b=true∨b=46):xW b:=by
 unfold xW;rcases h with h | rfl
 ·unfold zI at h;simp at h;omega
 right;right;right;right;rfl
theorem Jt {v:Nat} (hv:v<4294967296):CanH ⟨2,[],v,xj⟩:=by
 have ht:yf ⟨2,[],v,xj⟩=vJ v:=by unfold yf zT;simp
 have hb:∀ b∈vJ v,xW b:=fun b hb=>SF (Uo v b hb);have hl:=Qd v;have hno:∀ (c:UInt8),¬ xW c→∀ b∈vJ v,b≠c:=fun c hc b hm e=>hc (e▸hb b hm);have hlast:(vJ v).getLast? ≠some 46:=by
  intro e;have h1:=r7 v;have h2:(vJ v)=ye 46 (zi 46 (vJ v)):=(sW 46 _).symm;obtain ⟨b,hbb⟩:∃ b,(Lib.decDigits (v % 256)).getLast? =some b:=by
   cases h:(Lib.decDigits (v % 256)).getLast? with
   | none=>exact absurd (List.getLast?_eq_none_iff.1 h) (Jq _)
   | some b=>exact ⟨b,rfl⟩
  have h3:(vJ v).getLast? =some b:=by
   unfold vJ;simp only [List.getLast?_append,List.getLast?_cons,hbb,Option.getD_some,Option.some_or,Option.or_some];try simp
  rw [h3] at e;injection e with e
  subst e;exact absurd rfl (ri _ _ (List.mem_of_getLast? hbb))
 refine ⟨?_,by unfold zT;simp,fun b h=>by rw [ht] at h;exact .inl (hb b h),.inl fun b h=> ?_,by rw [ht];omega,by simp,rfl,SV,hv⟩
 ·rw [ht];unfold yY;rw [if_neg (by omega),if_neg (fun e=>hno 91 (by unfold xW;decide) 91 (List.mem_of_head? e) rfl),YE _ (hno 37 (by unfold xW;decide))];simp only [];rw [rh hlast];unfold vk;rw [if_pos (XZ v),RD v hv];rfl
 rw [ht] at h;exact ⟨hno 58 (by unfold xW;decide) b h,hno 91 (by unfold xW;decide) b h⟩
theorem Js {v:List Nat} (hv:TA v):CanH ⟨3,[],0,v⟩:=by
 have ht:yf ⟨3,[],0,v⟩=91::(vM v++[93]):=by unfold yf zT;simp
 have hb:=RC v;have hl:=pi v hv;refine ⟨?_,by unfold zT;simp,fun b h=> ?_,.inr ⟨vM v,ht,fun b h e=> ?_⟩,by rw [ht];simp;omega,by simp,hv.1,hv.2,by show 0<4294967296;decide⟩
 ·rw [ht];unfold yY;rw [if_neg (by simp;omega),if_pos (show (91::(vM v++[93]):Bs).head? =some 91 from rfl)];unfold rV;have h1:(91::(vM v++[93]):Bs).getLast? =some 93:=by rw [←List.cons_append,List.getLast?_append];rfl
  rw [if_pos h1];have h2:((91::(vM v++[93]):Bs).take ((91::(vM v++[93]):Bs).length - 1)).drop 1=vM v:=by
   have:(91::(vM v++[93]):Bs).length - 1=(vM v).length+1:=by simp
   rw [this,List.take_succ_cons,List.drop_succ_cons,List.drop_zero,List.take_left'];rfl
  rw [h2,VU v hv];rfl
 ·rw [ht] at h;simp only [List.mem_cons,List.mem_append,List.not_mem_nil,or_false] at h;rcases h with rfl | h | rfl
  ·right;right;left;rfl
  ·have:=hb b h;unfold okB at this;simp only [decide_eq_true_eq] at this;unfold Uk xW;omega
  right;right;right;rfl
 have:=hb b h;unfold okB at this;simp only [decide_eq_true_eq] at this;subst e
 revert this
 decide
theorem R5 {l:Bs} {h:HostP} (hh:yY l=some h):CanH h:=by
 unfold yY at hh;split at hh
 ·cases hh
 split at hh
 ·unfold rV at hh;split at hh
  ·cases hp:xG ((l.take (l.length - 1)).drop 1) with
   | none=>rw [hp] at hh;cases hh
   | some v =>
    rw [hp] at hh;cases hh;exact Js (uZ hp)
  cases hh
 split at hh
 ·cases hh
 rename_i t _;unfold vk at hh;split at hh
 ·split at hh
  ·cases hh;exact Jt (qP _)
  cases hh
 unfold SE at hh;split at hh
 ·cases hh
 rename_i M hM;obtain ⟨h1,h2⟩:=ZO hM;have hne:M≠[]:=by
  intro e;rw [e] at h2;have:=wu 46 (xL t);exact this (List.eq_nil_of_length_eq_zero h2.symm)
 obtain ⟨n,rfl,hn⟩:=Qj hne h1 hh;exact QH hn
structure CanU (u:UrlP):Prop where
 scheme:xq u.scheme=true
 low:zt u.scheme=u.scheme
 rest:u.rest.any xB=false
 plain:zv u.scheme<0→u.user=[]∧u.host=zk∧u.port= -1
 spec:0<zv u.scheme→(∀ b∈u.user,xB b=false∧b≠47∧b≠63∧b≠35)∧CanH u.host∧(u.port= -1∨∃ n:Nat,u.port=(n:Int)∧n<65536∧u.port≠zv u.scheme)∧u.rest.head? =some 47
theorem TP {b:UInt8} (h:zY b=true∨wI b=true):b≠58∧xB b=false:=by
 have key:(65≤b.toNat∧b.toNat≤90)∨(97≤b.toNat∧b.toNat≤122)∨(48≤b.toNat∧b.toNat≤57)∨b.toNat=43∨b.toNat=45∨b.toNat=46:=by
  have hl:zY b=true→(65≤b.toNat∧b.toNat≤90)∨(97≤b.toNat∧b.toNat≤122):=by
   unfold zY sk wi;simp;omega
  rcases h with h | h
  ·have:=hl h;omega
  unfold wI at h;rw [Bool.or_eq_true] at h;rcases h with h | h
  ·have:=hl h;omega
  simp only [decide_eq_true_eq,List.mem_cons,List.not_mem_nil,or_false] at h;rcases h with rfl | rfl | rfl | rfl | rfl | rfl | rfl | rfl | rfl | rfl | rfl | rfl | rfl<;>decide
 constructor
 ·rintro rfl;revert key;decide
 unfold xB;simp;omega
theorem Vx {s:Bs} (h:xq s=true):∀ b∈s,zY b=true∨wI b=true:=by
 match s,h with
 | b::r,h =>
  unfold xq at h;rw [Bool.and_eq_true] at h;intro x hx;rcases List.mem_cons.1 hx with rfl | hx
  ·exact .inl h.1
  exact .inr (List.all_eq_true.1 h.2 x hx)
theorem kV {b:UInt8} (h:zY b=true):zY (we b)=true:=by
 unfold zY sk wi at *;rw [ws];simp at h ⊢;split<;>omega
theorem Rg {b:UInt8} (h:wI b=true):wI (we b)=true:=by
 by_cases hl:zY b=true
 ·unfold wI;rw [kV hl];rfl
 have:we b=b:=by
  unfold we;have:wi b=false:=by
   unfold zY at hl;simp at hl;exact hl.2
  rw [this];rfl
 rw [this];exact h
theorem ka {s:Bs} (h:xq s=true):xq (zt s)=true:=by
 match s,h with
 | b::r,h =>
  unfold xq at h;rw [Bool.and_eq_true] at h;show (zY (we b)&&(r.map we).all wI)=true;rw [kV h.1,Bool.true_and,List.all_eq_true];intro x hx;obtain ⟨y,hy,rfl⟩:=List.mem_map.1 hx;exact Rg (List.all_eq_true.1 h.2 y hy)
theorem je (s:Bs):zt (zt s)=zt s:=by
 unfold zt;rw [List.map_map];exact List.map_congr_left fun b _=>Sj b
theorem d6 {c b:UInt8} {r:Bs} (h:0≤zo c r):zo c (b::r)=zo c r+1:=by rw [zo,if_pos h]
theorem kX (c:UInt8) (r:Bs) (h:∀ b∈r,b≠c):∀ a:Bs,zo c (a++c::r)=a.length
 | []=>by
  rw [List.nil_append,zo,if_neg (by rw [kW c r h];decide),if_pos rfl];rfl
 | b::a=>by
  have ih:=kX c r h a;rw [List.cons_append,d6 (by rw [ih];omega),ih];simp
theorem X0:∀ (l:Bs) (m:Nat),l.all zI=true→tF l ((min m 65536:Nat):Int)=some ((min (jI l m) 65536:Nat):Int)
 | [],m,_=>rfl
 | b::r,m,h=>by
  rw [List.all_cons,Bool.and_eq_true] at h;have hd:=h.1;have hb:48≤b.toNat∧b.toNat≤57:=by unfold zI at hd;simpa using hd
  rw [tF,if_pos hd];have e:min (10*max (((min m 65536:Nat):Int)) 0+((b.toNat:Int) - 48)) 65536=((min (10*m+(b.toNat - 48)) 65536:Nat):Int):=by omega
  rw [e,X0 r _ h.2];rfl
theorem VZ {l:Bs} (h:l≠[]):tF l (-1)=tF l 0:=by
 match l,h with
 | b::r,_=>rfl
theorem T2 (n:Nat) (h:n<65536):vz (Lib.decDigits n)=some (n:Int):=by
 unfold vz;rw [VZ (xZ n)];have:=X0 (Lib.decDigits n) 0 (xy n);rw [tw] at this;have e:((min 0 65536:Nat):Int)=0:=rfl;rw [e] at this;rw [this];simp only [];rw [if_pos (by omega)];have:min n 65536=n:=by omega
 rw [this]
theorem VO (n:Nat) (h:n<65536):vz (Lib.itoa (n:Int))=some (n:Int):=by
 unfold Lib.itoa;rw [if_neg (by omega)];exact T2 n h
theorem Uf (n:Nat):∀ b∈Lib.itoa (n:Int),zI b=true:=fun b hb=>by
 unfold Lib.itoa at hb;rw [if_neg (by omega)] at hb;exact List.all_eq_true.1 (xy _) b hb
theorem U4:∀ (l:Bs) (m p:Int),-1≤m→tF l m=some p→ -1≤p
 | [],m,p,hm,h=>by rw [tF] at h;cases h;exact hm
 | b::r,m,p,hm,h=>by
  rw [tF] at h;split at h
  ·rename_i hd;have hb:48≤b.toNat∧b.toNat≤57:=by unfold zI at hd;simpa using hd
   exact U4 r _ p (by omega) h
  cases h
theorem XK {l:Bs} {p:Int} (h:vz l=some p):p= -1∨∃ n:Nat,p=(n:Int)∧n<65536:=by
 unfold vz at h;cases hn:tF l (-1) with
 | none=>rw [hn] at h;cases h
 | some m =>
  rw [hn] at h;simp only [] at h;have:=U4 l (-1) m (by omega) hn;split at h
  ·cases h;by_cases hm:p= -1
   ·exact .inl hm
   exact .inr ⟨p.toNat,by omega,by omega⟩
  cases h
def Yh (s:Bs):Bs:=if s=[] then [] else s++[64]
def vG (p:Int):Bs:=if p= -1 then [] else 58::Lib.itoa p
theorem textU_spec (u:UrlP) (h:¬ zv u.scheme<0):xd u=u.scheme++58::([47,47]++((Yh u.user++(yf u.host++vG u.port))++u.rest)):=by
 unfold xd;rw [if_neg h];unfold Yh vG;simp
theorem Y1 {h:HostP} (hc:CanH h) (c:UInt8) (hn:¬ Uk c):∀ b∈yf h,b≠c:=fun b hb e=>hn (e▸hc.bytes b hb)
theorem jA (c:UInt8) (h:c=47∨c=63∨c=35∨c=64):¬ Uk c:=by
 unfold Uk xW;rcases h with rfl | rfl | rfl | rfl<;>decide
theorem Sx {b:UInt8} (h:Uk b):xB b=false:=by
 unfold Uk xW at h;unfold xB;simp;omega
theorem Ql {b:UInt8} (h:zI b=true):xB b=false∧b≠47∧b≠63∧b≠35∧b≠64∧b≠58∧b≠93∧b≠91:=by
 unfold zI at h;simp at h;have hne:∀ c:UInt8,¬ (48≤c.toNat∧c.toNat≤57)→b≠c:=by rintro c hc rfl;exact hc h
 refine ⟨by unfold xB;simp;omega,hne _ (by decide),hne _ (by decide),hne _ (by decide),hne _ (by decide),hne _ (by decide),hne _ (by decide),hne _ (by decide)⟩
theorem XJ {p:Int} (h:p= -1∨∃ n:Nat,p=(n:Int)∧n<65536):∀ b∈vG p,xB b=false∧b≠47∧b≠63∧b≠35∧b≠64∧b≠93∧b≠91:=by
 intro b hb;unfold vG at hb;split at hb
 ·cases hb
 rcases h with h | ⟨n,rfl,_⟩
 ·contradiction
 rcases List.mem_cons.1 hb with rfl | hb
 ·decide
 obtain ⟨a,b1,c,d,e,f,g,k⟩:=Ql (Uf n b hb);exact ⟨a,b1,c,d,e,g,k⟩
theorem YZ {h:HostP} (hc:CanH h) {p:Int} (hp:p= -1∨∃ n:Nat,p=(n:Int)∧n<65536):yC (yf h++vG p)=some (yf h,vG p):=by
 have hpg:=XJ hp;unfold yC;rcases hc.shape with hs | ⟨x,hx,hx93⟩
 ·have hh:(yf h++vG p).head? ≠some 91:=by
   intro e;have hm:=List.mem_of_head? e;rcases List.mem_append.1 hm with hm | hm
   ·exact (hs _ hm).2 rfl
   exact (hpg _ hm).2.2.2.2.2.2 rfl
  rw [if_neg hh];by_cases hpe:p= -1
  ·subst hpe;rw [show vG (-1)=[] from rfl,List.append_nil,uJ 58 _ (fun b hb=>(hs b hb).1),if_pos (by decide)]
  rw [show vG p=58::Lib.itoa p by unfold vG;rw [if_neg hpe],tJ 58 _ _ (fun b hb=>(hs b hb).1),if_neg (by omega)]
  congr 2
  ·exact List.take_left
  exact List.drop_left
 rw [hx];rw [if_pos (show List.head? (91::(x++[93])++vG p:Bs)=some 91 from rfl)];have e:(91::(x++[93])++vG p:Bs)=(91::x)++93::vG p:=by simp
 have hi:=tJ 93 (vG p) (91::x) (fun b hb=>by
  rcases List.mem_cons.1 hb with rfl | hb
  ·decide
  exact hx93 b hb)
 rw [e,hi,if_neg (by omega)];have e2:(91::x++93::vG p:Bs)=(91::(x++[93]))++vG p:=by simp
 have e3:(((91::x:Bs).length:Int)).toNat+1=(91::(x++[93]):Bs).length:=by simp
 rw [e3,e2]
 congr 2
 ·exact List.take_left
 exact List.drop_left
theorem TE (us A:Bs) (hA:∀ b∈A,b≠64):wE (Yh us++A)=(us,A):=by
 unfold wE Yh;by_cases hu:us=[]
 ·rw [if_pos hu,List.nil_append,kW 64 A hA,if_pos (by decide),hu]
 rw [if_neg hu,List.append_assoc,List.singleton_append,kX 64 A hA us,if_neg (by omega)]
 congr 1
 ·exact List.take_left
 have:(us.length:Int).toNat+1=us.length+1:=by omega
 rw [this,List.drop_append];simp
theorem UF {A r:Bs} (hA:∀ b∈A,b≠47∧b≠63∧b≠35) (hr:r.head? =some 47):xU (A++r)=A.length:=by
 match r,hr with
 | b::r,hr =>
  obtain rfl:b=47:=by simpa using hr
  have:=sX [47,63,35] 47 r (by decide) A (fun b hb=>by
   obtain ⟨h1,h2,h3⟩:=hA b hb;simp [h1,h2,h3])
  unfold xU;rw [this,if_neg (by omega)];omega
theorem SP {u:UrlP} (h:CanU u):yG (xd u)=some u:=by
 have hc:=fun b hb=>TP (Vx h.scheme b hb);obtain ⟨sc,us,ho,pt,rs⟩:=u;by_cases hp:zv sc<0
 ·obtain ⟨h1,h2,h3⟩:=h.plain hp;simp only [] at h1 h2 h3;subst h1 h2 h3;unfold xd;rw [if_pos hp,pL _ _ h.scheme h.rest hc,show zt sc=sc from h.low];unfold xX;rw [if_pos hp]
 have hpos:0<zv sc:=by
  rcases yr sc with ⟨e,_⟩ | ⟨e,_⟩ | ⟨e,_⟩<;>omega
 obtain ⟨h1,h2,h3,h4⟩:=h.spec hpos;simp only [] at h1 h2 h3 h4;have hpr:pt= -1∨∃ n:Nat,pt=(n:Int)∧n<65536:=by
  rcases h3 with e | ⟨n,e,l,_⟩
  ·exact .inl e
  exact .inr ⟨n,e,l⟩
 have hpg:=XJ hpr;rw [textU_spec _ hp];simp only [];have hA:∀ b∈Yh us++(yf ho++vG pt),xB b=false∧b≠47∧b≠63∧b≠35:=by
  intro b hb;rcases List.mem_append.1 hb with hb | hb
  ·unfold Yh at hb;split at hb
   ·cases hb
   rcases List.mem_append.1 hb with hb | hb
   ·exact h1 b hb
   rw [List.mem_singleton.1 hb];decide
  rcases List.mem_append.1 hb with hb | hb
  ·exact ⟨Sx (h2.bytes b hb),Y1 h2 47 (jA 47 (by simp)) b hb,Y1 h2 63 (jA 63 (by simp)) b hb,Y1 h2 35 (jA 35 (by simp)) b hb⟩
  obtain ⟨a1,a2,a3,a4,_⟩:=hpg b hb;exact ⟨a1,a2,a3,a4⟩
 have hbad:([47,47]++((Yh us++(yf ho++vG pt))++rs):Bs).any xB=false:=by
  rw [List.any_append,List.any_append,show rs.any xB=false from h.rest];have:(Yh us++(yf ho++vG pt)).any xB=false:=by
   rw [List.any_eq_false];intro b hb;rw [(hA b hb).1];simp
  rw [this]
  decide
 rw [pL _ _ h.scheme hbad hc,show zt sc=sc from h.low];generalize hAA:Yh us++(yf ho++vG pt)=A at *;unfold xX;rw [if_neg hp];have e1:([47,47]++(A++rs):Bs).take 2=[47,47]:=rfl;have e2:([47,47]++(A++rs):Bs).drop 2=A++rs:=rfl;rw [if_pos e1,e2,UF (fun b hb=>(hA b hb).2) h4,List.take_left,List.drop_left];have e3:vj rs=rs:=by unfold vj;rw [if_pos h4]
 rw [e3,←hAA];unfold xr;have hno64:∀ b∈yf ho++vG pt,b≠64:=by
  intro b hb;rcases List.mem_append.1 hb with hb | hb
  ·exact Y1 h2 64 (jA 64 (by simp)) b hb
  exact (hpg b hb).2.2.2.2.1
 rw [TE us _ hno64];simp only [];rw [YZ h2 hpr];simp only [];unfold vl;have htl:¬ (vG pt≠[]∧(vG pt).head? ≠some 58):=by
  unfold vG;split<;>simp
 rw [if_neg htl,h2.back];simp only [];have hpv:vz ((vG pt).drop 1)=some pt:=by
  rcases hpr with rfl | ⟨n,rfl,hn⟩
  ·rfl
  rw [show vG (n:Int)=58::Lib.itoa (n:Int) by unfold vG;rw [if_neg (by omega)]];exact VO n hn
 rw [hpv];simp only [];have hif:(if pt=zv sc then (-1:Int) else pt)=pt:=by
  rcases h3 with rfl | ⟨n,e,l,hne⟩
  ·split<;>rfl
  rw [if_neg hne]
 rw [hif]
theorem SO {u:UrlP} (h:CanU u):yR u=true:=by
 unfold yR;rw [SP h];simp
theorem Ju {u:UrlP} (h:CanU u):CanU (yd u):=by
 unfold yd;split
 ·rename_i hp;obtain ⟨sc,us,ho,pt,rs⟩:=u;simp only [] at hp;obtain ⟨h1,h2,h3,h4⟩:=h.spec (by show 0<zv sc;omega);simp only [] at h1 h2 h3 h4;have hs:yp sc=zG∨yp sc=rK:=by unfold yp;split<;>simp
  have hpd:zv (yp sc)=443:=by rcases hs with e | e<;>rw [e]<;>decide
  refine ⟨?_,?_,h.rest,?_,fun _=>⟨h1,h2,?_,h4⟩⟩
  ·show xq (yp sc)=true;rcases hs with e | e<;>rw [e]<;>decide
  ·show zt (yp sc)=yp sc;rcases hs with e | e<;>rw [e]<;>decide
  ·intro hn;simp only [] at hn;omega
  simp only [];split
  ·exact .inl rfl
  rename_i hne;rcases h3 with e | ⟨n,e,l,_⟩
  ·exact .inl e
  exact .inr ⟨n,e,l,hne⟩
 exact h
theorem UG {x:UInt8} {r:Bs} (hx:([47,63,35]:Bs).contains x=false):xU (x::r)=xU r+1:=by
 have hge:=Lib.indexAny_ge [47,63,35] r;have hc:Lib.indexAny (x::r) [47,63,35]=if Lib.indexAny r [47,63,35]= -1 then -1 else Lib.indexAny r [47,63,35]+1:=by
  rw [Lib.indexAny,if_neg (by rw [hx];simp)];by_cases he:Lib.indexAny r [47,63,35]= -1<;>simp [he]
 unfold xU;rw [hc];generalize Lib.indexAny r [47,63,35]=k at *;simp only [List.length_cons]
 repeat' split
 all_goals omega
theorem Tx:∀ q:Bs,∀ b∈q.take (xU q),b≠47∧b≠63∧b≠35
 | [],b,hb=>by simp at hb
 | x::r,b,hb=>by
  by_cases hx:([47,63,35]:Bs).contains x=true
  ·have:xU (x::r)=0:=by
    unfold xU;rw [Lib.indexAny,if_pos hx];rfl
   rw [this] at hb;cases hb
  have hx':([47,63,35]:Bs).contains x=false:=by simpa using hx
  rw [UG hx',List.take_succ_cons] at hb;rcases List.mem_cons.1 hb with rfl | hb
  ·simpa using hx'
  exact Tx r b hb
theorem Sb {l:Bs} {u:UrlP} (h:yG l=some u):CanU u∧(u.scheme.length+u.user.length)+u.rest.length≤l.length+1:=by
 unfold yG at h;split at h
 ·cases h
 rename_i hbad;have hbad2:l.any xB=false:=by simpa using hbad
 have hnb:∀ b∈l,xB b=false:=fun b hb=>by
  have:=List.any_eq_false.1 hbad2 b hb
  simpa using this
 split at h
 ·cases h
 rename_i hi;split at h
 ·rename_i hs;obtain ⟨i,hI⟩:∃ i,(Lib.indexByte l 58).toNat=i:=⟨_,rfl⟩;rw [hI] at h hs;have hdl:(l.drop (i+1)).length≤l.length - (i+1):=by rw [List.length_drop];exact Nat.le_refl _
  have htl:(l.take i).length≤i∧(l.take i).length≤l.length:=by rw [List.length_take];omega
  have hdm:∀ b∈l.drop (i+1),b∈l:=fun b hb=>List.mem_of_mem_drop hb;generalize l.drop (i+1)=r at *;generalize l.take i=s at *;have hil:i+1≤l.length∨r.length=0:=by omega
  unfold xX at h;split at h
  ·rename_i hp;cases h;refine ⟨⟨ka hs,je s,?_,fun _=>⟨rfl,rfl,rfl⟩,fun hn=>by simp only [] at hn;omega⟩,?_⟩
   ·rw [List.any_eq_false];intro b hb;rw [hnb b (hdm b hb)];simp
   simp only [yK,List.length_nil];omega
  rename_i hp;have hpos:0<zv (zt s):=by
   rcases yr (zt s) with ⟨e,_⟩ | ⟨e,_⟩ | ⟨e,_⟩<;>omega
  split at h
  ·rename_i h2;have hr2:(r.drop 2).length≤r.length - 2:=by rw [List.length_drop];exact Nat.le_refl _
   have hrl:2≤r.length:=by
    have:=congrArg List.length h2;rw [List.length_take] at this;simp at this;omega
   have hdm2:∀ b∈r.drop 2,b∈l:=fun b hb=>hdm b (List.mem_of_mem_drop hb);generalize r.drop 2=q at *;have hq:(q.take (xU q)).length+(q.drop (xU q)).length=q.length:=by rw [←List.length_append,List.take_append_drop]
   have htm:∀ b∈q.take (xU q),b∈l∧b≠47∧b≠63∧b≠35:=fun b hb=>⟨hdm2 b (List.mem_of_mem_take hb),Tx q b hb⟩;have hdm3:∀ b∈q.drop (xU q),b∈l:=fun b hb=>hdm2 b (List.mem_of_mem_drop hb);generalize q.take (xU q)=a at *;generalize q.drop (xU q)=rr at *;have hsl:(vj rr).length≤rr.length+1∧(vj rr).head? =some 47∧(vj rr).any xB=false:=by
    have hrb:rr.any xB=false:=by
     rw [List.any_eq_false];intro b hb;rw [hnb b (hdm3 b hb)];simp
    unfold vj;split
    ·exact ⟨by omega,‹_›,hrb⟩
    refine ⟨by simp,rfl,?_⟩;rw [List.any_cons,hrb]
    decide
   unfold xr at h;have hup:∀ b∈(wE a).1,b∈a:=fun b hb=>by
    unfold wE at hb;split at hb
    ·cases hb
    exact List.mem_of_mem_take hb
   have hul:(wE a).1.length≤a.length:=by
    unfold wE;split
    ·simp
    simp only [List.length_take];omega
   generalize (wE a).1=us at *;split at h
   ·cases h
   rename_i n t _;unfold vl at h;split at h
   ·cases h
   split at h
   ·cases h
   rename_i ho hho;split at h
   ·cases h
   rename_i p hpv;cases h;have hpr:=XK hpv;refine ⟨⟨ka hs,je s,hsl.2.2,fun hn=>by simp only [] at hn;omega,fun _=>⟨fun b hb=> ?_,R5 hho,?_,hsl.2.1⟩⟩,?_⟩
   ·obtain ⟨m1,m2⟩:=htm b (hup b hb);exact ⟨hnb b m1,m2⟩
   ·simp only [];split
    ·exact .inl rfl
    rename_i hne;rcases hpr with e | ⟨k,e,hk⟩
    ·exact .inl e
    exact .inr ⟨k,e,hk,hne⟩
   simp only [yK];omega
  cases h
 cases h
end Hs
namespace Go.Proofs.YtjbciamhhfcdoaaGreatDoor
open Go.RowKit Hs
set_option maxRecDepth 100000
set_option maxHeartbeats 16000000
theorem Pb (nm rst au:Bs) (g0 g1:Nat) (w0 w:World) (base:Nat) (PU:Option UrlP) (u0 u1 u3 u4 u6 u7 u8 aa ab ac ad ae af ag ah ai aj ak al am an ao ap aq ar aw ax ay az aA aB aC aD aE aF aG aH aI aJ aK aL aM aN aO aP aQ aR aS aT aU aV aW aX aY aZ ba bb bc bd be bf bg bh bi bj bk bl bm bn bo bp bq br bs bt bu bv bw bx bz bA bB bC bD bE bF bG bH bI bJ bK bL bM bN bO bP bQ bR bS bT bU bV bW bX bY bZ ca cb cc cd ce cf cg ch ci cj ck cl cm cn co cp cq cr ct cu cv cw cx cy cz cA cB cC cD cE cF cG cH cI cJ cK cL cM cN cO cP cQ cR cS cT cU cV cW cX cY cZ da db dc dd de df dg dh di dj dk dl dm dn dp dq dr ds dt du dv dw dx dy dz dA:Value) (hau:au.length≤100000) (b0:BlkL w g0 62 (za zu)) (b1:BlkL w g1 62 (za ⟨nm,[],zk,-1,rst⟩)) (h0:base≤g0) (h1:base≤g1) (hne:g0≠g1) (hA:Below base w0 w)
  (hPU:PU=xr ⟨nm,[],zk,-1,rst⟩ au) :
  Code.wp Tryz.prog (wk 11 Z9) (bodyPost Tryz.prog Tryz.f52 (uS PU base w0)) ⟨#[u0,u1,.pointer (some ⟨g0,0,none⟩),u3,u4,.string (mk nm),u6,u7,u8,.string (mk au),.pointer (some ⟨g1,0,none⟩),aa,ab,ac,ad,ae,af,ag,ah,ai,aj,ak,al,am,an,ao,ap,aq,ar,aw,ax,ay,az,aA,aB,aC,aD,aE,aF,aG,aH,aI,aJ,aK,aL,aM,aN,aO,aP,aQ,aR,aS,aT,aU,aV,aW,aX,aY,aZ,ba,bb,bc,bd,be,bf,bg,bh,bi,bj,bk,bl,bm,bn,bo,bp,bq,br,bs,bt,bu,bv,bw,bx,bz,bA,bB,bC,bD,bE,bF,bG,bH,bI,bJ,bK,bL,bM,bN,bO,bP,bQ,bR,bS,bT,bU,bV,bW,bX,bY,bZ,ca,cb,cc,cd,ce,cf,cg,ch,ci,cj,ck,cl,cm,cn,co,cp,cq,cr,ct,cu,cv,cw,cx,cy,cz,cA,cB,cC,cD,cE,cF,cG,cH,cI,cJ,cK,cL,cM,cN,cO,cP,cQ,cR,cS,cT,cU,cV,cW,cX,cY,cZ,da,db,dc,dd,de,df,dg,dh,di,dj,dk,dl,dm,dn,dp,dq,dr,ds,dt,du,dv,dw,dx,dy,dz,dA],[]⟩ w:=by
 conv=>arg 2;whnf
 have hsz:(mk au).size=au.length:=zh au;have HB0:=KZ9 b0;have HB1:=KZ9 b1;have HA:=KZ9 hA;have HH0:=KZ9 h0;have HH1:=KZ9 h1;have HNE:=KZ9 hne;have HPU:=KZ9 hPU;obtain ⟨n,hn⟩:=KZ6 au.length;have HN:=KZ9 hn;rw [←hn] at hsz hau;clear b0 b1 hA hne hPU hn;apply wp_seq_k;intro K1 hK1
 have HK1:Hid (∀ (u0 u1 u3 u4 u6 u7 u8 aa ab ac ad ae af ag ah ai aj ak al am an ao ap aq ar aw ax ay az aA aB aC aD aE aF aG aH aI aJ aK aL aM aN aO aP aQ aR aS aT aU aV aW aX aY aZ ba bb bc bd be bf bg bh bi bj bk bl bm bn bo bp bq br bs bt bu bv bw bx bz bA bB bC bD bE bF bG bH bI bJ bK bL bM bN bO bP bQ bR bS bT bU bV bW bX bY bZ ca cb cc cd ce cf cg ch ci cj ck cl cm cn co cp cq cr ct cu cv cw cx cy cz cA cB cC cD cE cF cG cH cI cJ cK cL cM cN cO cP cQ cR cS cT cU cV cW cX cY cZ da db dc dd de df dg dh di dj dk dl dm dn dp dq dr ds dt du dv dw dx dy dz dA:Value) (us A:Bs) (w':World),wE au=(us,A)→BlkL w' g0 62 (za zu)→BlkL w' g1 62 (za ⟨nm,us,zk,-1,rst⟩)→Below base w0 w'→K1 ⟨#[u0,u1,.pointer (some ⟨g0,0,none⟩),u3,u4,.string (mk nm),u6,u7,u8,.string (mk A),.pointer (some ⟨g1,0,none⟩),aa,ab,ac,ad,ae,af,ag,ah,ai,aj,ak,al,am,an,ao,ap,aq,ar,aw,ax,ay,az,aA,aB,aC,aD,aE,aF,aG,aH,aI,aJ,aK,aL,aM,aN,aO,aP,aQ,aR,aS,aT,aU,aV,aW,aX,aY,aZ,ba,bb,bc,bd,be,bf,bg,bh,bi,bj,bk,bl,bm,bn,bo,bp,bq,br,bs,bt,bu,bv,bw,bx,bz,bA,bB,bC,bD,bE,bF,bG,bH,bI,bJ,bK,bL,bM,bN,bO,bP,bQ,bR,bS,bT,bU,bV,bW,bX,bY,bZ,ca,cb,cc,cd,ce,cf,cg,ch,ci,cj,ck,cl,cm,cn,co,cp,cq,cr,ct,cu,cv,cw,cx,cy,cz,cA,cB,cC,cD,cE,cF,cG,cH,cI,cJ,cK,cL,cM,cN,cO,cP,cQ,cR,cS,cT,cU,cV,cW,cX,cY,cZ,da,db,dc,dd,de,df,dg,dh,di,dj,dk,dl,dm,dn,dp,dq,dr,ds,dt,du,dv,dw,dx,dy,dz,dA],[]⟩ w'):=KZ9 (fun u0 u1 u3 u4 u6 u7 u8 aa ab ac ad ae af ag ah ai aj ak al am an ao ap aq ar aw ax ay az aA aB aC aD aE aF aG aH aI aJ aK aL aM aN aO aP aQ aR aS aT aU aV aW aX aY aZ ba bb bc bd be bf bg bh bi bj bk bl bm bn bo bp bq br bs bt bu bv bw bx bz bA bB bC bD bE bF bG bH bI bJ bK bL bM bN bO bP bQ bR bS bT bU bV bW bX bY bZ ca cb cc cd ce cf cg ch ci cj ck cl cm cn co cp cq cr ct cu cv cw cx cy cz cA cB cC cD cE cF cG cH cI cJ cK cL cM cN cO cP cQ cR cS cT cU cV cW cX cY cZ da db dc dd de df dg dh di dj dk dl dm dn dp dq dr ds dt du dv dw dx dy dz dA us A w' hu b0 b1 hA=>hK1 _ _ (by
  have hl:=Zg au;rw [hu] at hl;refine Pa nm us rst A g0 g1 w0 w' base PU _ _ _ _ _ _ _ _ _ _ _ _ _ _ _ _ _ _ _ _ _ _ _ _ _ _ _ _ _ _ _ _ _ _ _ _ _ _ _ _ _ _ _ _ _ _ _ _ _ _ _ _ _ _ _ _ _ _ _ _ _ _ _ _ _ _ _ _ _ _ _ _ _ _ _ _ _ _ _ _ _ _ _ _ _ _ _ _ _ _ _ _ _ _ _ _ _ _ _ _ _ _ _ _ _ _ _ _ _ _ _ _ _ _ _ _ _ _ _ _ _ _ _ _ _ _ _ _ _ _ _ _ _ _ _ _ _ _ _ _ _ _ _ _ _ _ _ _ _ _ _ _ _ _ _ _ _ _ _ _ _ _ _ _ _ _ _ _ _ _ _ _ _ _ _ _ _ _ _ _ _ _ _ (by have:=HN.out;simp only at hl;omega) b0 b1 h0 h1 HNE.out hA ?_;rw [HPU.out];unfold xr;rw [hu];rfl))
 clear hK1;apply wp_seq_k;intro K2 hK2;have HK2:=KZ9 hK2;clear hK2;go_wp2
 all_goals try omega
 apply HK2.out;clear HK2;go_step
 go_loop [9,11] (fun av iv=>∃ k:Nat,av= .string (mk au)∧iv= .int .i64 ((k:Int) - 1)∧k≤n∧Hid (∀ j (hj:j<au.length),k≤j→au[j]≠64)) (fun _ iv=>(intOf iv+1).toNat)
 case atStart=>exact ⟨n,rfl,rfl,by omega,KZ9 (fun j hj h=>by have:=HN.out;omega)⟩
 case round =>
  obtain ⟨k,rfl,rfl,hk,hI⟩:=hrel;by_cases hk0:k=0
  ·have hno:wE au=([],au):=Xj ((rC 64 au).2 (fun b hb=>by
    obtain ⟨j,hj,rfl⟩:=List.getElem_of_mem hb;exact hI.out j hj (by omega)))
   have HNO:=KZ9 hno;have gq:decide ((0:Int)≤(k:Int) - 1)=false:=KZ8 (by omega);clear hno hI;go_wp2
   all_goals try omega
   exact HK1.out _ _ _ _ _ _ _ _ _ _ _ _ _ _ _ _ _ _ _ _ _ _ _ _ _ _ _ _ _ _ _ _ _ _ _ _ _ _ _ _ _ _ _ _ _ _ _ _ _ _ _ _ _ _ _ _ _ _ _ _ _ _ _ _ _ _ _ _ _ _ _ _ _ _ _ _ _ _ _ _ _ _ _ _ _ _ _ _ _ _ _ _ _ _ _ _ _ _ _ _ _ _ _ _ _ _ _ _ _ _ _ _ _ _ _ _ _ _ _ _ _ _ _ _ _ _ _ _ _ _ _ _ _ _ _ _ _ _ _ _ _ _ _ _ _ _ _ _ _ _ _ _ _ _ _ _ _ _ _ _ _ _ _ _ _ _ _ _ _ _ _ _ _ _ _ _ _ _ _ _ _ _ _ _ _ _ HNO.out HB0.out HB1.out HA.out
  obtain ⟨j,rfl⟩:∃ j,k=j+1:=⟨k - 1,by omega⟩;have hjl:j<au.length:=by rw [←HN.out];omega
  have hjs:j<(mk au).size:=by rw [hsz];omega
  have gi:((j+1:Nat):Int) - 1=(j:Int):=by omega
  rw [gi];obtain ⟨x,hx⟩:=KZ6 ((au[j]).toNat);have cs:(((mk au)[j]'hjs).toNat:Int)=(x:Int):=by rw [hx];rfl
  have gq:decide ((0:Int)≤(j:Int))=true:=KZ7 (by omega);by_cases hat:x=64
  ·have gq2:((x:Int)==64)=true:=by simp;omega
   have hlast:zo 64 au=j:=by
    have e:au=au.take j++64::au.drop (j+1):=by
     have h2:au[j]=64:=UInt8.toNat_inj.1 (by rw [←hx,hat];rfl);have h3:au.drop j=64::au.drop (j+1):=(List.drop_eq_getElem_cons hjl).trans (congrArg (fun b=>b::au.drop (j+1)) h2);rw [←h3,List.take_append_drop]
    rw [e,kX 64 (au.drop (j+1)) (fun b hb=>by
     obtain ⟨i,hi,rfl⟩:=List.getElem_of_mem hb;rw [List.getElem_drop];exact hI.out _ _ (by omega))]
    rw [List.length_take];omega
   have HU:=KZ9 (Xk hlast);have c1:=HB1.out.c 1 _ rfl;have f1:=HB1.out.f 1;clear hlast hI hx gi;go_upto_region 23 with fail
   all_goals try omega
   have hb1:j≤(mk au).size:=by omega
   have hb2:j+1≤(mk au).size:=by omega
   have hw1:IntKind.i64.wrap ((j:Int)+1)=(j:Int)+1:=IntWalk.i64_in _ (by omega);have hw2:(0:Int)≤(j:Int)+1:=by omega
   have hw3:((j:Int)+1).toNat=j+1:=by omega
   have hx1:(mk au).extract 0 j=mk (au.take j):=by rw [uf,zj]
   have hx2:(mk au).extract (j+1) n=mk (au.drop (j+1)):=by
    have:=wN (mk au) (j+1);rw [zj,hsz] at this;exact this
   go_region_with (fail)
   all_goals
    go_wp2;exact HK1.out _ _ _ _ _ _ _ _ _ _ _ _ _ _ _ _ _ _ _ _ _ _ _ _ _ _ _ _ _ _ _ _ _ _ _ _ _ _ _ _ _ _ _ _ _ _ _ _ _ _ _ _ _ _ _ _ _ _ _ _ _ _ _ _ _ _ _ _ _ _ _ _ _ _ _ _ _ _ _ _ _ _ _ _ _ _ _ _ _ _ _ _ _ _ _ _ _ _ _ _ _ _ _ _ _ _ _ _ _ _ _ _ _ _ _ _ _ _ _ _ _ _ _ _ _ _ _ _ _ _ _ _ _ _ _ _ _ _ _ _ _ _ _ _ _ _ _ _ _ _ _ _ _ _ _ _ _ _ _ _ _ _ _ _ _ _ _ _ _ _ _ _ _ _ _ _ _ _ _ _ _ _ _ (au.take j) (au.drop (j+1)) _ HU.out (HB0.out.drew.other HNE.out _ _) (show BlkL _ g1 62 (za ⟨nm,au.take j,zk,-1,rst⟩) from HB1.out.drew.set 1 (by simp [za,zc,zg]) (.string (mk (au.take j)))) ((below_drewN HA.out 1).trans (yV _ g1 1 _ HH1.out))
  have gq2:((x:Int)==64)=false:=by simp;omega
  have hI2:Hid (∀ i (hi:i<au.length),j≤i→au[i]≠64):=KZ9 (fun i hi h=>by
   by_cases e:i=j
   ·subst e;intro e2;exact hat (hx.trans (congrArg UInt8.toNat e2))
   exact hI.out i hi (by omega))
  clear hI hx gi;go_wp2
  all_goals try omega
  go_round
  case rel=>exact ⟨j,rfl,by go_num,by omega,hI2⟩
  case measure=>simp [intOf]
theorem Pc (nm r2:Bs) (A:Nat) (g0:Nat) (w0 w:World) (base:Nat) (PU:Option UrlP) (u0 u1 u3 u4 u7 u9 aa ab ac ad ae af ag ah ai aj ak al am an ao ap aq ar av aw ax ay az aA aB aC aD aE aF aG aH aI aJ aK aL aM aN aO aP aQ aR aS aT aU aV aW aX aY aZ ba bb bc bd be bf bg bh bi bj bk bl bm bn bo bp bq br bs bt bu bv bw bx bz bA bB bC bD bE bF bG bH bI bJ bK bL bM bN bO bP bQ bR bS bT bU bV bW bX bY bZ ca cb cc cd ce cf cg ch ci cj ck cl cm cn co cp cq cr cs ct cu cv cw cx cy cz cA cB cC cD cE cF cG cH cI cJ cK cL cM cN cO cP cQ cR cS cT cU cV cW cX cY cZ da db dc dd de df dg dh di dj dk dl dm dn dp dq dr ds dt du dv dw dx dy dz:Value) (hr2:r2.length≤100000) (hal:A≤r2.length) (b0:BlkL w g0 62 (za zu)) (h0:base≤g0) (hA:Below base w0 w)
  (hPU:PU=xr ⟨nm,[],zk,-1,vj (r2.drop A)⟩ (r2.take A)) :
  Code.wp Tryz.prog (wk 8 Z9) (bodyPost Tryz.prog Tryz.f52 (uS PU base w0)) ⟨#[u0,u1,.pointer (some ⟨g0,0,none⟩),u3,u4,.string (mk nm),.string (mk r2),u7,.int .i64 (A:Int),u9,aa,ab,ac,ad,ae,af,ag,ah,ai,aj,ak,al,am,an,ao,ap,aq,ar,av,aw,ax,ay,az,aA,aB,aC,aD,aE,aF,aG,aH,aI,aJ,aK,aL,aM,aN,aO,aP,aQ,aR,aS,aT,aU,aV,aW,aX,aY,aZ,ba,bb,bc,bd,be,bf,bg,bh,bi,bj,bk,bl,bm,bn,bo,bp,bq,br,bs,bt,bu,bv,bw,bx,bz,bA,bB,bC,bD,bE,bF,bG,bH,bI,bJ,bK,bL,bM,bN,bO,bP,bQ,bR,bS,bT,bU,bV,bW,bX,bY,bZ,ca,cb,cc,cd,ce,cf,cg,ch,ci,cj,ck,cl,cm,cn,co,cp,cq,cr,cs,ct,cu,cv,cw,cx,cy,cz,cA,cB,cC,cD,cE,cF,cG,cH,cI,cJ,cK,cL,cM,cN,cO,cP,cQ,cR,cS,cT,cU,cV,cW,cX,cY,cZ,da,db,dc,dd,de,df,dg,dh,di,dj,dk,dl,dm,dn,dp,dq,dr,ds,dt,du,dv,dw,dx,dy,dz],[]⟩ w:=by
 conv=>arg 2;whnf
 have hx3:(mk r2).extract 0 A=mk (r2.take A):=by rw [uf,zj]
 have hx4:(mk r2).extract A r2.length=mk (r2.drop A):=by
  have:=wN (mk r2) A;rw [zh,zj] at this;exact this
 have hau:(r2.take A).length≤100000:=by rw [List.length_take];omega
 have hrl:(r2.drop A).length≤100000:=by rw [List.length_drop];omega
 have hr2s:(mk r2).size=r2.length:=zh r2;obtain ⟨au,hau2⟩:=KZ6 (r2.take A);obtain ⟨rr,hrr⟩:=KZ6 (r2.drop A);rw [←hau2] at hau hx3 hPU;rw [←hrr] at hrl hx4 hPU;have HB0:=KZ9 b0;have HA:=KZ9 hA;have HH0:=KZ9 h0;have HPU:=KZ9 hPU;have hl0:=b0.lt;have hq1:A≤(mk r2).size:=by omega
 clear b0 hA hPU hau2 hrr;apply wp_seq_k;intro K1 hK1;have HK1:=KZ9 hK1;clear hK1;go_region_with (fail)
 all_goals
  go_wp2;apply HK1.out;clear HK1;try rw [hx3]
  try rw [hx4]
  apply wp_seq_k;intro K2 hK2;have HK2:=KZ9 hK2;clear hK2;obtain ⟨w6,hw6⟩:=KZ6 w.drew;have hb6:BlkL w6 g0 62 (za zu):=by rw [hw6];exact HB0.out.drew
  have ha6:Below base w0 w6:=by rw [hw6];exact below_drewN HA.out 1
  have hs6:w6.heap.size=w.heap.size:=by rw [hw6];simp
  try rw [←hw6]
  clear HB0 HA hx3 hx4 hw6;have hne:g0≠w.heap.size:=by omega
  have hbs:base≤w.heap.size:=by omega
  have hR7:=hb6.alloc (.cells (za ⟨nm,[],zk,-1,rr⟩).toArray 62);have hY7:=BlkL.new w6 62 (za ⟨nm,[],zk,-1,rr⟩);rw [hs6] at hY7;have hA7:=ha6.alloc (by omega) (.cells (za ⟨nm,[],zk,-1,rr⟩).toArray 62);obtain ⟨W7,hW7⟩:=KZ6 (w6.alloc (.cells (za ⟨nm,[],zk,-1,rr⟩).toArray 62));rw [←hW7] at hR7 hY7 hA7;have HW7:Hid (w6.alloc (.cells #[.string (mk nm),.string ⟨#[]⟩,.int .i64 0,.string ⟨#[]⟩,.int .u32 0,.int .u16 0,.int .u16 0,.int .u16 0,.int .u16 0,.int .u16 0,.int .u16 0,.int .u16 0,.int .u16 0,.int .i64 (-1),.string (mk rr)] 62)=W7):=KZ9 hW7.symm;have HR7:=KZ9 hR7;have HY7:=KZ9 hY7;have HA7:=KZ9 hA7;clear hb6 ha6 hR7 hY7 hA7 hW7;go_wp2
  all_goals try omega
  rw [HW7.out];clear HW7;apply HK2.out;clear HK2;obtain ⟨g1,hg1⟩:=KZ6 w.heap.size;rw [←hg1] at HY7 hne hbs ⊢;have HNE:=KZ9 hne;have HBS:=KZ9 hbs;clear hg1 hne hs6 hbs;apply wp_seq_k;intro K3 hK3
  have HK3:Hid (∀ (u0 u1 u3 u4 u6 u7 u8 ab ac ad ae af ag ah ai aj ak al am an ao ap aq ar av aw ax ay az aA aB aC aD aE aF aG aH aI aJ aK aL aM aN aO aP aQ aR aS aT aU aV aW aX aY aZ ba bb bc bd be bf bg bh bi bj bk bl bm bn bo bp bq br bs bt bu bv bw bx bz bA bB bC bD bE bF bG bH bI bJ bK bL bM bN bO bP bQ bR bS bT bU bV bW bX bY bZ ca cb cc cd ce cf cg ch ci cj ck cl cm cn co cp cq cr cs ct cu cv cw cx cy cz cA cB cC cD cE cF cG cH cI cJ cK cL cM cN cO cP cQ cR cS cT cU cV cW cX cY cZ da db dc dd de df dg dh di dj dk dl dm dn dp dq dr ds dt du dv dw dx dy dz:Value) (w':World),BlkL w' g0 62 (za zu)→BlkL w' g1 62 (za ⟨nm,[],zk,-1,vj rr⟩)→Below base w0 w'→K3 ⟨#[u0,u1,.pointer (some ⟨g0,0,none⟩),u3,u4,.string (mk nm),u6,u7,u8,.string (mk au),.pointer (some ⟨g1,0,none⟩),ab,ac,ad,ae,af,ag,ah,ai,aj,ak,al,am,an,ao,ap,aq,ar,av,aw,ax,ay,az,aA,aB,aC,aD,aE,aF,aG,aH,aI,aJ,aK,aL,aM,aN,aO,aP,aQ,aR,aS,aT,aU,aV,aW,aX,aY,aZ,ba,bb,bc,bd,be,bf,bg,bh,bi,bj,bk,bl,bm,bn,bo,bp,bq,br,bs,bt,bu,bv,bw,bx,bz,bA,bB,bC,bD,bE,bF,bG,bH,bI,bJ,bK,bL,bM,bN,bO,bP,bQ,bR,bS,bT,bU,bV,bW,bX,bY,bZ,ca,cb,cc,cd,ce,cf,cg,ch,ci,cj,ck,cl,cm,cn,co,cp,cq,cr,cs,ct,cu,cv,cw,cx,cy,cz,cA,cB,cC,cD,cE,cF,cG,cH,cI,cJ,cK,cL,cM,cN,cO,cP,cQ,cR,cS,cT,cU,cV,cW,cX,cY,cZ,da,db,dc,dd,de,df,dg,dh,di,dj,dk,dl,dm,dn,dp,dq,dr,ds,dt,du,dv,dw,dx,dy,dz],[]⟩ w'):=KZ9 (fun u0 u1 u3 u4 u6 u7 u8 ab ac ad ae af ag ah ai aj ak al am an ao ap aq ar av aw ax ay az aA aB aC aD aE aF aG aH aI aJ aK aL aM aN aO aP aQ aR aS aT aU aV aW aX aY aZ ba bb bc bd be bf bg bh bi bj bk bl bm bn bo bp bq br bs bt bu bv bw bx bz bA bB bC bD bE bF bG bH bI bJ bK bL bM bN bO bP bQ bR bS bT bU bV bW bX bY bZ ca cb cc cd ce cf cg ch ci cj ck cl cm cn co cp cq cr cs ct cu cv cw cx cy cz cA cB cC cD cE cF cG cH cI cJ cK cL cM cN cO cP cQ cR cS cT cU cV cW cX cY cZ da db dc dd de df dg dh di dj dk dl dm dn dp dq dr ds dt du dv dw dx dy dz w' b0 b1 hA=>hK3 _ _ (Pb nm (vj rr) au g0 g1 w0 w' base PU u0 u1 u3 u4 u6 u7 u8 ab ac ad ae af ag ah ai aj ak al am an ao ap aq ar av aw ax ay az aA aB aC aD aE aF aG aH aI aJ aK aL aM aN aO aP aQ aR aS aT aU aV aW aX aY aZ ba bb bc bd be bf bg bh bi bj bk bl bm bn bo bp bq br bs bt bu bv bw bx bz bA bB bC bD bE bF bG bH bI bJ bK bL bM bN bO bP bQ bR bS bT bU bV bW bX bY bZ ca cb cc cd ce cf cg ch ci cj ck cl cm cn co cp cq cr cs ct cu cv cw cx cy cz cA cB cC cD cE cF cG cH cI cJ cK cL cM cN cO cP cQ cR cS cT cU cV cW cX cY cZ da db dc dd de df dg dh di dj dk dl dm dn dp dq dr ds dt du dv dw dx dy dz hau b0 b1 HH0.out HBS.out HNE.out hA HPU.out))
  clear hK3;cases rr with
  | nil =>
   have e1:((mk ([]:Bs)).toList==([]:Bs))=true:=by rw [toList_mk'];rfl
   have hadd:(⟨#[47]⟩:ByteArray)++mk []=mk [47]:=rfl;have f5:=HY7.out.f 14;have d5:=HY7.out.c 14 _ rfl;go_wp2
   all_goals try omega
   exact HK3.out _ _ _ _ _ _ _ _ _ _ _ _ _ _ _ _ _ _ _ _ _ _ _ _ _ _ _ _ _ _ _ _ _ _ _ _ _ _ _ _ _ _ _ _ _ _ _ _ _ _ _ _ _ _ _ _ _ _ _ _ _ _ _ _ _ _ _ _ _ _ _ _ _ _ _ _ _ _ _ _ _ _ _ _ _ _ _ _ _ _ _ _ _ _ _ _ _ _ _ _ _ _ _ _ _ _ _ _ _ _ _ _ _ _ _ _ _ _ _ _ _ _ _ _ _ _ _ _ _ _ _ _ _ _ _ _ _ _ _ _ _ _ _ _ _ _ _ _ _ _ _ _ _ _ _ _ _ _ _ _ _ _ _ _ _ _ _ _ _ _ _ _ _ _ _ _ _ _ _ _ _ _ _ _ (HR7.out.other HNE.out _ _) (show BlkL _ g1 62 (za ⟨nm,[],zk,-1,vj []⟩) from HY7.out.set 14 (by simp [za,zc,zg,zk,xj]) (.string (mk [47]))) (HA7.out.trans (yV _ g1 14 _ HBS.out))
  | cons b r =>
   have e1:((mk (b::r)).toList==([]:Bs))=false:=by rw [toList_mk'];rfl
   have hpos:0<(mk (b::r)).size:=by rw [zh];simp
   have hlr:0<(b::r:Bs).length:=by simp
   have hszr:(mk (b::r)).size=(b::r:Bs).length:=zh _;have hrl2:r.length≤99999:=by simp at hrl;omega
   have hszr2:(mk (b::r)).size≤100000:=by rw [hszr];exact hrl
   by_cases hb:b=47
   ·have hsl:vj (b::r)=b::r:=by unfold vj;rw [if_pos (by rw [hb];rfl)]
    have c0:((((mk (b::r))[0]'hpos).toNat:Int) != 47)=false:=by
     show ((b.toNat:Int) != 47)=false;rw [hb];rfl
    have HSL:=KZ9 hsl;clear hsl hb;go_wp2
    all_goals try omega
    exact HK3.out _ _ _ _ _ _ _ _ _ _ _ _ _ _ _ _ _ _ _ _ _ _ _ _ _ _ _ _ _ _ _ _ _ _ _ _ _ _ _ _ _ _ _ _ _ _ _ _ _ _ _ _ _ _ _ _ _ _ _ _ _ _ _ _ _ _ _ _ _ _ _ _ _ _ _ _ _ _ _ _ _ _ _ _ _ _ _ _ _ _ _ _ _ _ _ _ _ _ _ _ _ _ _ _ _ _ _ _ _ _ _ _ _ _ _ _ _ _ _ _ _ _ _ _ _ _ _ _ _ _ _ _ _ _ _ _ _ _ _ _ _ _ _ _ _ _ _ _ _ _ _ _ _ _ _ _ _ _ _ _ _ _ _ _ _ _ _ _ _ _ _ _ _ _ _ _ _ _ _ _ _ _ _ _ HR7.out (by rw [HSL.out];exact HY7.out) HA7.out
   have hsl:vj (b::r)=47::b::r:=by unfold vj;rw [if_neg (by intro e;exact hb (Option.some.inj e))]
   have c0:((((mk (b::r))[0]'hpos).toNat:Int) != 47)=true:=by
    show ((b.toNat:Int) != 47)=true;have:b.toNat≠47:=fun e=>hb (UInt8.toNat_inj.1 e);simp;omega
   have hadd:(⟨#[47]⟩:ByteArray)++mk (b::r)=mk (47::b::r):=(zK [47] (b::r)).symm;have f5:=HY7.out.f 14;have d5:=HY7.out.c 14 _ rfl;have HSL:=KZ9 hsl;clear hsl hb;go_wp2
   all_goals try omega
   exact HK3.out _ _ _ _ _ _ _ _ _ _ _ _ _ _ _ _ _ _ _ _ _ _ _ _ _ _ _ _ _ _ _ _ _ _ _ _ _ _ _ _ _ _ _ _ _ _ _ _ _ _ _ _ _ _ _ _ _ _ _ _ _ _ _ _ _ _ _ _ _ _ _ _ _ _ _ _ _ _ _ _ _ _ _ _ _ _ _ _ _ _ _ _ _ _ _ _ _ _ _ _ _ _ _ _ _ _ _ _ _ _ _ _ _ _ _ _ _ _ _ _ _ _ _ _ _ _ _ _ _ _ _ _ _ _ _ _ _ _ _ _ _ _ _ _ _ _ _ _ _ _ _ _ _ _ _ _ _ _ _ _ _ _ _ _ _ _ _ _ _ _ _ _ _ _ _ _ _ _ _ _ _ _ _ _ (HR7.out.other HNE.out _ _) (by rw [HSL.out];exact (show BlkL _ g1 62 (za ⟨nm,[],zk,-1,47::b::r⟩) from HY7.out.set 14 (by simp [za,zc,zg,zk,xj]) (.string (mk (47::b::r))))) (HA7.out.trans (yV _ g1 14 _ HBS.out))
end Go.Proofs.YtjbciamhhfcdoaaGreatDoor
namespace Hs
open Go
theorem VS {l:Bs} (h:l.any xB=false):yG l=if (r8 l).2.2=true then xX (r8 l).1 (r8 l).2.1 else none:=by
 unfold yG;rw [if_neg (by rw [h];decide)];have hs:=TO l;by_cases h1:Lib.indexByte l 58<0
 ·rw [if_pos h1];rw [if_pos h1] at hs;rw [ru hs];rfl
 rw [if_neg h1];rw [if_neg h1] at hs;by_cases h2:xq (l.take (Lib.indexByte l 58).toNat)=true
 ·rw [if_pos h2];rw [if_pos h2] at hs;rw [Zm hs];rfl
 rw [if_neg h2];rw [if_neg h2] at hs;rw [ru hs];rfl
theorem Re (l:Bs):(r8 l).1.length≤l.length∧(r8 l).2.1.length≤l.length:=by
 unfold r8;cases scn l 0 with
 | none=>simp
 | some k =>
  refine ⟨?_,?_⟩
  ·show (zt (l.take k)).length≤_;rw [yK,List.length_take];omega
  show (l.drop (k+1)).length≤_;rw [List.length_drop];omega
end Hs
namespace Go.Proofs.YtjbciamhhfcdoaaGreatDoor
open Go.RowKit Hs
set_option maxRecDepth 100000
set_option maxHeartbeats 16000000
theorem Zt (s:ByteArray) (w:World) (hs:s.size≤100000):Calls Tryz.prog 52 #[.string s] w (uS (yG (un s)) w.heap.size w):=by
 have hlen:(un s).length=s.size:=zb s;obtain ⟨W0,hW0⟩:=KZ6 (w.alloc (.cells (za zu).toArray 62));have hbA:Below w.heap.size w W0:=by rw [hW0];exact (Below.refl _ w).alloc (Nat.le_refl _) _
 have hr0:BlkL W0 w.heap.size 62 (za zu):=by rw [hW0];exact BlkL.new w _ _
 have HW0:Hid (w.alloc (.cells #[.string ⟨#[]⟩,.string ⟨#[]⟩,.int .i64 0,.string ⟨#[]⟩,.int .u32 0,.int .u16 0,.int .u16 0,.int .u16 0,.int .u16 0,.int .u16 0,.int .u16 0,.int .u16 0,.int .u16 0,.int .i64 0,.string ⟨#[]⟩] 62)=W0):=KZ9 hW0.symm;have hsz:W0.heap.size=w.heap.size+1:=by rw [hW0];simp
 have HBA:=KZ9 hbA;have HR0:=KZ9 hr0;have hsch:=VC s W0 (by omega);obtain ⟨l,hl⟩:=KZ6 (un s);rw [←hl] at hlen hsch ⊢;have hsl:=Re l;have hbads:=@kG l;have hgoods:=@VS l;obtain ⟨⟨nm,rs,ok⟩,hR⟩:∃ R,R=r8 l:=⟨_,rfl⟩;rw [←hR] at hsch hsl hgoods;simp only at hsch hsl hgoods;rw [hlen] at hsl;obtain ⟨hsl1,hsl2⟩:=hsl;obtain ⟨PU,hPU⟩:=KZ6 (yG l);rw [←hPU] at hbads hgoods ⊢;have HBAD:=KZ9 hbads;have HGOOD:=KZ9 hgoods;have HSCH:=KZ9 hsch;have HL:=KZ9 hl;have HLEN:=KZ9 hlen;obtain ⟨n,hn⟩:=KZ6 s.size;have hsI:(s.size:Int)=(n:Int):=by rw [hn]
 have HN:=KZ9 hn;rw [←hn] at hs hsl1 hsl2;clear hW0 hbA hr0 hl hlen hn hR hPU hsch hbads hgoods;go_enter Tryz.func52,Tryz.ntmps52
 go_upto_region 1 with fail
 rw [HW0.out];clear HW0;go_wp2;go_loop [4] (fun iv=>∃ k:Nat,iv= .int .i64 k∧k≤n∧Hid (l.any xB=(l.drop k).any xB)) (fun iv=>n - (intOf iv).toNat)
 case atStart=>exact ⟨0,rfl,by omega,KZ9 (by rw [List.drop_zero])⟩
 case round =>
  obtain ⟨k,rfl,hk,hany⟩:=hrel;by_cases hlt:k<n
  ·have hks:k<s.size:=by rw [←HN.out];exact hlt
   have hkl:k<l.length:=by rw [HLEN.out];exact hks
   have hx:l[k]=s[k]:=by
    have:=HL.out;subst this;exact zL s k hks
   have hst:=Vg l k hkl;rw [hx] at hst;have hdb:xB s[k]=decide ((s[k]).toNat≤32∨(s[k]).toNat=127):=rfl;rw [hdb] at hst;have hb256:=(s[k]).toNat_lt;obtain ⟨x,hx2⟩:=KZ6 ((s[k]).toNat);have cs:(s[k].toNat:Int)=(x:Int):=by rw [hx2]
   rw [←hx2] at hst hb256;have HST:=KZ9 (hany.out.trans hst);clear hst hany hx hx2 hdb hkl;by_cases hbad:x≤32∨x=127
   ·have hfin:=KZ9 (HBAD.out (HST.out.trans (by rw [KZ7 hbad];rfl)));clear HST HSCH;rcases hbad with h | rfl
    all_goals
     go_wp2_with (first
      | refine wpList_store_row rfl 62 (.tmp 2) (.tmp 33) rfl w.heap.size (za zu).toArray rfl rfl 62 _ HR0.out zN rfl (ze (yk zu)) ?_)
     all_goals try omega
     all_goals
      refine bodyPost_ret (zf rfl _ _ w.heap.size 62 _ _ rfl (HR0.out.setRow (za zu)) Tryz.underlying62 rfl zN) rfl ?_;exact ⟨⟨zu,4,rfl,.inr ⟨by decide,rfl,hfin.out⟩⟩,below_setRow HBA.out (Nat.le_refl _) _⟩
   have hnext:Hid (l.any xB=(l.drop (k+1)).any xB):=KZ9 (HST.out.trans (by rw [KZ8 hbad];rfl));have g1:((x:Int)==127)=false:=by simp;omega
   clear HST HSCH;go_wp2
   all_goals try omega
   go_round
   case rel=>exact ⟨k+1,by go_num,by omega,hnext⟩
   case measure=>simp [intOf];omega
  have hgood:l.any xB=false:=by rw [hany.out,List.drop_of_length_le (by rw [HLEN.out,←HN.out];omega)];rfl
  have hd1:=HGOOD.out hgood;clear hany hgood HGOOD HBAD HL HLEN HN;have HD1:=KZ9 hd1;clear hd1;go_wp2_with fail
  all_goals try omega
  refine HSCH.out.mono ?_;rintro e w1 ⟨rfl,hb1⟩;have hs1:=hb1.size;have HR1:=KZ9 (HR0.out.below (by omega) hb1);have HA1:=KZ9 (HBA.out.trans (hb1.mono (by omega)));clear hb1 HSCH HR0 HBA;cases ok
  ·have hfin:=KZ9 (HD1.out.trans (if_neg (by simp)));clear HD1;go_wp2_with (first
    | refine wpList_store_row rfl 62 (.tmp 2) (.tmp 42) rfl w.heap.size (za zu).toArray rfl rfl 62 _ HR1.out zN rfl (ze (yk zu)) ?_)
   all_goals try omega
   refine bodyPost_ret (zf rfl _ _ w.heap.size 62 _ _ rfl (HR1.out.setRow (za zu)) Tryz.underlying62 rfl zN) rfl ?_;exact ⟨⟨zu,15,rfl,.inr ⟨by decide,rfl,hfin.out⟩⟩,below_setRow HA1.out (Nat.le_refl _) _⟩
  have hd2:=HD1.out.trans (if_pos rfl);have HD2:=KZ9 hd2;have hsp:=fun W=>jb (mk nm) W;simp only [zj] at hsp;have hpc:=yr nm;clear HD1 hd2;by_cases hp:zv nm<0
  ·have hfin:=KZ9 (HD2.out.trans (jY hp));have hdec:decide (0<zv nm)=false:=KZ8 (by omega);simp only [hdec] at hsp;have HSP:=KZ9 hsp;have HIU:=KZ9 (zV (u:=⟨nm,[],zk,-1,rs⟩) rfl);clear hsp hdec hpc hp HD2;go_wp2_with fail
   all_goals try omega
   refine (HSP.out _).mono ?_;rintro e w5 ⟨rfl,rfl⟩;go_wp2_with (first
    | refine wpList_store_row rfl 62 (.tmp 2) (.tmp 48) rfl w.heap.size (za ⟨nm,[],zk,-1,rs⟩).toArray rfl rfl 62 _ HR1.out HIU.out rfl (ze (yk _)) ?_)
   all_goals try omega
   refine bodyPost_ret (zf rfl _ _ w.heap.size 62 _ _ rfl (HR1.out.setRow (za ⟨nm,[],zk,-1,rs⟩)) Tryz.underlying62 rfl HIU.out) rfl ?_;exact ⟨⟨_,0,rfl,.inl ⟨rfl,hfin.out⟩⟩,below_setRow HA1.out (Nat.le_refl _) _⟩
  have hdec:decide (0<zv nm)=true:=KZ7 (by omega);simp only [hdec] at hsp;have HSP:=KZ9 hsp;have hl2:(mk rs).size=rs.length:=zh rs;clear hsp hdec hpc;by_cases h2:rs.take 2=[47,47]
  ·have hd5:=HD2.out.trans (jX hp h2);have h2l:2≤rs.length:=by
    have:=congrArg List.length h2;rw [List.length_take] at this;simp at this;omega
   have g3:decide ((rs.length:Int)<2)=false:=KZ8 (by omega);have hx1:(mk rs).extract 0 2=(⟨#[47,47]⟩:ByteArray):=by rw [uf,zj,h2];rfl
   have hx2:(mk rs).extract 2 rs.length=mk (rs.drop 2):=by
    have:=wN (mk rs) 2;rw [zh,zj] at this;exact this
   have hr2l:(rs.drop 2).length≤n:=by rw [List.length_drop];omega
   obtain ⟨r2,hr2⟩:=KZ6 (rs.drop 2);rw [←hr2] at hd5 hx2 hr2l;have HD5:=KZ9 hd5;clear hd5 hr2 h2 hp HD2;go_wp2_with fail
   all_goals try omega
   refine (HSP.out _).mono ?_;rintro e w5 ⟨rfl,rfl⟩;clear HSP;have hix:=Zu (mk r2) ⟨#[47,63,35]⟩ w1 (by rw [zh];omega) (by decide);rw [zj,show un (⟨#[47,63,35]⟩:ByteArray)=[47,63,35] from rfl,←Su] at hix;have hal:=authL_le r2;obtain ⟨A,hA⟩:=KZ6 (xU r2);rw [←hA] at HD5 hix hal;have HIX:=KZ9 hix;clear hix hA;go_wp2_with fail
   all_goals try omega
   refine HIX.out.mono ?_;rintro e w5 ⟨rfl,hb5⟩;have hs5:=hb5.size;have HR5:=KZ9 (HR1.out.below (by omega) hb5);have HA5:=KZ9 (HA1.out.trans (hb5.mono (by omega)));have hr2n:r2.length≤100000:=by omega
   clear hb5 HIX HR1 HA1 hx1 hx2
   have HT:=KZ9 (fun (u0 u1 u3 u4 u7 u9 aa ab ac ad ae af ag ah ai aj ak al am an ao ap aq ar au av aw ax ay az aA aB aC aD aE aF aG aH aI aJ aK aL aM aN aO aP aQ aR aS aT aU aV aW aX aY aZ ba bb bc bd be bf bg bh bi bj bk bl bm bn bo bp bq br bs bt bu bv bw bx bz bA bB bC bD bE bF bG bH bI bJ bK bL bM bN bO bP bQ bR bS bT bU bV bW bX bY bZ ca cb cc cd ce cf cg ch ci cj ck cl cm cn co cp cq cr ct cu cv cw cx cy cz cA cB cC cD cE cF cG cH cI cJ cK cL cM cN cO cP cQ cR cS cT cU cV cW cX cY cZ da db dc dd de df dg dh di dj dk dl dm dn dp dq dr ds dt du dv dw dx dy dz:Value)=>Pc nm r2 A w.heap.size w w5 w.heap.size PU u0 u1 u3 u4 u7 u9 aa ab ac ad ae af ag ah ai aj ak al am an ao ap aq ar au av aw ax ay az aA aB aC aD aE aF aG aH aI aJ aK aL aM aN aO aP aQ aR aS aT aU aV aW aX aY aZ ba bb bc bd be bf bg bh bi bj bk bl bm bn bo bp bq br bs bt bu bv bw bx bz bA bB bC bD bE bF bG bH bI bJ bK bL bM bN bO bP bQ bR bS bT bU bV bW bX bY bZ ca cb cc cd ce cf cg ch ci cj ck cl cm cn co cp cq cr ct cu cv cw cx cy cz cA cB cC cD cE cF cG cH cI cJ cK cL cM cN cO cP cQ cR cS cT cU cV cW cX cY cZ da db dc dd de df dg dh di dj dk dl dm dn dp dq dr ds dt du dv dw dx dy dz hr2n hal HR5.out (Nat.le_refl _) HA5.out HD5.out)
   dsimp only
   repeat (first | exact HT.out _ _ _ _ _ _ _ _ _ _ _ _ _ _ _ _ _ _ _ _ _ _ _ _ _ _ _ _ _ _ _ _ _ _ _ _ _ _ _ _ _ _ _ _ _ _ _ _ _ _ _ _ _ _ _ _ _ _ _ _ _ _ _ _ _ _ _ _ _ _ _ _ _ _ _ _ _ _ _ _ _ _ _ _ _ _ _ _ _ _ _ _ _ _ _ _ _ _ _ _ _ _ _ _ _ _ _ _ _ _ _ _ _ _ _ _ _ _ _ _ _ _ _ _ _ _ _ _ _ _ _ _ _ _ _ _ _ _ _ _ _ _ _ _ _ _ _ _ _ _ _ _ _ _ _ _ _ _ _ _ _ _ _ _ _ _ _ _ _ _ _ _ _ _ _ _ _ _ _ _ _ _ _ | go_step | go_values | go_upon | dsimp only)
  have hfin:=KZ9 (HD2.out.trans (p9 hp h2));have hx1:rs.length<2∨((mk rs).extract 0 2≠(⟨#[47,47]⟩:ByteArray)∧2≤rs.length):=by
   by_cases h:rs.length<2
   ·exact .inl h
   refine .inr ⟨fun e=>h2 ?_,by omega⟩;rw [uf,zj] at e;have:=congrArg un e;rw [zj] at this;exact this
  clear HD2 h2 hp;rcases hx1 with hx1 | ⟨hx1,h2l⟩
  ·have g3:decide ((rs.length:Int)<2)=true:=KZ7 (by omega);go_wp2_with fail
   all_goals try omega
   refine (HSP.out _).mono ?_;rintro e w5 ⟨rfl,rfl⟩;clear HSP;go_wp2_with (first
    | refine wpList_store_row rfl 62 (.tmp 2) (.tmp 57) rfl w.heap.size (za zu).toArray rfl rfl 62 _ HR1.out zN rfl (ze (yk zu)) ?_)
   all_goals try omega
   refine bodyPost_ret (zf rfl _ _ w.heap.size 62 _ _ rfl (HR1.out.setRow (za zu)) Tryz.underlying62 rfl zN) rfl ?_;exact ⟨⟨zu,4,rfl,.inr ⟨by decide,rfl,hfin.out⟩⟩,below_setRow HA1.out (Nat.le_refl _) _⟩
  have g3:decide ((rs.length:Int)<2)=false:=KZ8 (by omega);have g4:(((mk rs).extract 0 2).toList==([47,47]:Bs))=false:=by
   rw [zF,KZ8];intro e;exact hx1 (by rw [←vd ((mk rs).extract 0 2),e];rfl)
  clear hx1;go_wp2_with fail
  all_goals try omega
  refine (HSP.out _).mono ?_;rintro e w5 ⟨rfl,rfl⟩;clear HSP;go_wp2_with (first
   | refine wpList_store_row rfl 62 (.tmp 2) (.tmp 57) rfl w.heap.size (za zu).toArray rfl rfl 62 _ HR1.out zN rfl (ze (yk zu)) ?_)
  all_goals try omega
  refine bodyPost_ret (zf rfl _ _ w.heap.size 62 _ _ rfl (HR1.out.setRow (za zu)) Tryz.underlying62 rfl zN) rfl ?_;exact ⟨⟨zu,4,rfl,.inr ⟨by decide,rfl,hfin.out⟩⟩,below_setRow HA1.out (Nat.le_refl _) _⟩
end Go.Proofs.YtjbciamhhfcdoaaGreatDoor
