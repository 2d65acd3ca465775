/- What the proof of TopDecisionTable uses, part Dec12. -/
import Derived.Test.YtjbciamhhfcdoaaGreatDoorDec11
import Derived.Test.YtjbciamhhfcdoaaGreatDoorDec10
set_option linter.unusedSimpArgs false
set_option linter.unusedVariables false
namespace Go.Proofs.YtjbciamhhfcdoaaGreatDoor
open Go.RowKit Hs
theorem Rx (l:List Nat) (i:Nat) (h:i<l.length) (W:World):(part 57 (zg l).toArray i).run Tryz.prog W= .ok (.int .u16 (l[i]:Int)) W :=
 run_part_plain W (by kernel_rfl) (by simp [zg,List.getElem?_eq_getElem h])
theorem YS (d:Nat) (a b:List Nat) (W:World):∀ (is:List Nat),(∀ i∈is,i<a.length∧i<b.length)→(Op.eqItems (d+1) 57 1 (zg a).toArray (zg b).toArray is).run Tryz.prog W= .ok (decide (∀ i∈is,a[i]? =b[i]?)) W
 | [],_=>by simp [Op.eqItems]
 | i::is,h=>by
  obtain ⟨h1,h2⟩:=h i (List.mem_cons_self ..);have ih:=YS d a b W is (fun j hj=>h j (List.mem_cons_of_mem _ hj));simp only [Op.eqItems,Sem.run_bind,Nat.mul_one,Rx a i h1 W,Rx b i h2 W,Result.andThen_ok,run_equalIn_int W d 57 .u16 .u16 _ _ Tryz.underlying57];by_cases he:a[i]=b[i]
  ·have e1:((a[i]:Int)==(b[i]:Int))=true:=by simp [he]
   rw [e1];simp only [Bool.not_true,Bool.false_eq_true,if_false];rw [ih]
   congr 1
   simp [List.getElem?_eq_getElem h1,List.getElem?_eq_getElem h2,he]
  have e1:((a[i]:Int)==(b[i]:Int))=false:=by simp;omega
  rw [e1];simp only [Bool.not_false,if_true];have:decide (∀ j∈i::is,a[j]? =b[j]?)=false:=by
   apply KZ8;intro hh;have:=hh i (List.mem_cons_self ..);rw [List.getElem?_eq_getElem h1,List.getElem?_eq_getElem h2] at this;exact he (Option.some.inj this)
  rw [this];rfl
theorem Tt:Tryz.prog.cellsOf 57=1:=by kernel_rfl
theorem jE (a b:List Nat) (ha:a.length=8) (hb:b.length=8) (W:World):(Op.equalIn 10000 58 (.agg (zg a).toArray) (.agg (zg b).toArray)).run Tryz.prog W= .ok (decide (a=b)) W:=by
 obtain ⟨i,hi,_⟩:=Option.map_eq_some_iff.1 tI;have h:=run_equalIn_array W 9999 (zg a).toArray (zg b).toArray Tryz.underlying58 hi;rw [Tt,YS 9998 a b W _ (fun j hj=>by have:=List.mem_range.1 hj;omega)] at h;have e9:9999+1=10000:=by omega
 rw [e9] at h;refine h.trans ?_;have key:(∀ i∈List.range 8,a[i]? =b[i]?)↔a=b:=by
  constructor
  ·intro hh;apply List.ext_getElem?;intro j;by_cases hj:j<8
   ·exact hh j (List.mem_range.2 hj)
   rw [List.getElem?_eq_none (by omega),List.getElem?_eq_none (by omega)]
  intro e j _;rw [e]
 rw [decide_eq_decide.2 key]
theorem sn (k:Nat) (n:Bs) (v:Nat) (x:List Nat):zT ⟨k,n,v,x⟩=if k=1 then (zJ n&&decide (v=0)&&decide (x=xj)) else if k=2 then (decide (n=[])&&decide (x=xj)) else if k=3 then (decide (n=[])&&decide (v=0)) else false:=by
 match k with
 | 0=>rfl
 | 1=>rfl
 | 2=>rfl
 | 3=>rfl
 | k+4=>rw [if_neg (by omega),if_neg (by omega),if_neg (by omega)];rfl
theorem wG (h:HostP):(zc h)[0]? =some (.int .i64 (h.kind:Int))∧(zc h)[1]? =some (.string (mk h.name))∧(zc h)[2]? =some (.int .u32 (h.v4:Int))∧∀ j,(zc h)[3+j]? =(zg h.v6)[j]? :=⟨rfl,rfl,rfl,fun j=>by rw [Nat.add_comm];rfl⟩
set_option maxRecDepth 20000
set_option maxHeartbeats 4000000
theorem jB (h:HostP) (w:World) (hB:Base w) (hw:ym h) (hn:h.name.length≤100000):Calls Tryz.prog 59 #[.agg (zc h).toArray] w fun e w'=>e= .returned (.bool (zT h))∧Below w.heap.size w w':=by
 obtain ⟨W0,hW0⟩:=KZ6 ((w.alloc (.cells (zc h).toArray 60)).alloc (.cells (zg xj).toArray 58));have hbA:Below w.heap.size w W0:=by rw [hW0];exact ((Below.refl _ w).alloc (Nat.le_refl _) _).alloc (by simp) _
 have hb0:BlkL W0 w.heap.size 60 (zc h):=by rw [hW0];exact (BlkL.new w _ _).alloc _
 have hz0:BlkL W0 (w.heap.size+1) 58 (zg xj):=by
  rw [hW0];have:=BlkL.new (w.alloc (.cells (zc h).toArray 60)) 58 (zg xj)
  simpa using this
 have HW0:Hid ((w.alloc (.cells (zc h).toArray 60)).alloc (.cells #[.int .u16 0,.int .u16 0,.int .u16 0,.int .u16 0,.int .u16 0,.int .u16 0,.int .u16 0,.int .u16 0] 58)=W0):=KZ9 hW0.symm;have hsz:W0.heap.size=w.heap.size+2:=by rw [hW0];simp
 have B0:=hB.below hbA;clear hW0;go_enter Tryz.func59,Tryz.ntmps59
 go_upto_region 2 with fail
 rw [HW0.out];clear HW0;obtain ⟨kind,name,v4,v6⟩:=h;obtain ⟨a,b,c,d,e,f,g,i,rfl⟩:=si hw.1;have hq:∀ W,(Op.equalIn 10000 58 (.agg #[.int .u16 (a:Int),.int .u16 (b:Int),.int .u16 (c:Int),.int .u16 (d:Int),.int .u16 (e:Int),.int .u16 (f:Int),.int .u16 (g:Int),.int .u16 (i:Int)]) (.agg #[.int .u16 0,.int .u16 0,.int .u16 0,.int .u16 0,.int .u16 0,.int .u16 0,.int .u16 0,.int .u16 0])).run Tryz.prog W= .ok (decide ([a,b,c,d,e,f,g,i]=xj)) W:=jE [a,b,c,d,e,f,g,i] xj rfl rfl;have HOK:=KZ9 (sn kind name v4 [a,b,c,d,e,f,g,i]);obtain ⟨qv,hqv⟩:=KZ6 (decide ([a,b,c,d,e,f,g,i]=xj));rw [←hqv] at hq HOK;clear hqv hw;simp only at hn;obtain ⟨c0,c1,c2,c3,c4,c5,c6,c7,c8,c9,c10⟩:=BlkL.cs11 hb0;obtain ⟨z0,z1,z2,z3,z4,z5,z6,z7⟩:=BlkL.cs8 hz0;by_cases k1:kind=1
 ·subst k1;have HOK2:Hid (zT ⟨1,name,v4,[a,b,c,d,e,f,g,i]⟩=(zJ name&&decide (v4=0)&&qv)):=KZ9 (HOK.out.trans (if_pos rfl));have hv:=ve (mk name) W0 B0 (by rw [zh];omega);rw [zj] at hv;obtain ⟨nv,hnv⟩:=KZ6 (zJ name);rw [←hnv] at hv HOK2;have HV:=KZ9 hv;clear hv hnv HOK;go_wp2_with fail
  all_goals try omega
  refine HV.out.mono ?_;rintro e w1 ⟨rfl,hb1⟩;have HALL:=KZ9 (hbA.trans (hb1.mono (by omega)));have hb2:=hb0.below (by omega) hb1;have hz2:=hz0.below (by omega) hb1;clear c0 c1 c2 c3 c4 c5 c6 c7 c8 c9 c10 z0 z1 z2 z3 z4 z5 z6 z7;have c2:=hb2.c 2 _ rfl;have c3:=hb2.c 3 _ rfl;have c4:=hb2.c 4 _ rfl;have c5:=hb2.c 5 _ rfl;have c6:=hb2.c 6 _ rfl;have c7:=hb2.c 7 _ rfl;have c8:=hb2.c 8 _ rfl;have c9:=hb2.c 9 _ rfl;have c10:=hb2.c 10 _ rfl;obtain ⟨z0,z1,z2,z3,z4,z5,z6,z7⟩:=BlkL.cs8 hz2;clear hb1 hb2 hz2 hb0 hz0 HV B0 hB hbA;cases nv
  ·go_wp2
   all_goals try omega
   go_ret;rw [HOK2.out];exact ⟨rfl,HALL.out⟩
  by_cases hv4:v4=0
  ·subst hv4;go_wp2
   all_goals try omega
   go_ret;rw [HOK2.out];exact ⟨by simp,HALL.out⟩
  have g2:((v4:Int)==0)=false:=by simp;omega
  go_wp2
  all_goals try omega
  go_ret;rw [HOK2.out,KZ8 hv4];exact ⟨by simp,HALL.out⟩
 have g1:((kind:Int)==1)=false:=by simp;omega
 clear hb0 hz0 B0 hB;have HBA:=KZ9 hbA;have hem:((mk name).toList==([]:Bs))=decide (name=[]):=by rw [toList_mk'];cases name<;>rfl
 obtain ⟨ne,hne⟩:=KZ6 (decide (name=[]));rw [←hne] at hem HOK;clear hbA hne;by_cases k2:kind=2
 ·subst k2;have HOK2:Hid (zT ⟨2,name,v4,[a,b,c,d,e,f,g,i]⟩=(ne&&qv)):=KZ9 (HOK.out.trans ((if_neg (by decide)).trans (if_pos rfl)));clear HOK;cases ne
  ·go_wp2
   all_goals try omega
   go_ret;rw [HOK2.out];exact ⟨rfl,HBA.out⟩
  go_wp2
  all_goals try omega
  go_ret;rw [HOK2.out];exact ⟨by simp,HBA.out⟩
 have g2:((kind:Int)==2)=false:=by simp;omega
 by_cases k3:kind=3
 ·subst k3;have HOK2:Hid (zT ⟨3,name,v4,[a,b,c,d,e,f,g,i]⟩=(ne&&decide (v4=0))):=KZ9 (HOK.out.trans ((if_neg (by decide)).trans ((if_neg (by decide)).trans (if_pos rfl))));clear HOK;cases ne
  ·go_wp2
   all_goals try omega
   go_ret;rw [HOK2.out];exact ⟨rfl,HBA.out⟩
  by_cases hv4:v4=0
  ·subst hv4;go_wp2
   all_goals try omega
   go_ret;rw [HOK2.out];exact ⟨by simp,HBA.out⟩
  have g3:((v4:Int)==0)=false:=by simp;omega
  go_wp2
  all_goals try omega
  go_ret;rw [HOK2.out,KZ8 hv4];exact ⟨by simp,HBA.out⟩
 have g3:((kind:Int)==3)=false:=by simp;omega
 have HOK2:Hid (zT ⟨kind,name,v4,[a,b,c,d,e,f,g,i]⟩=false):=KZ9 (HOK.out.trans ((if_neg k1).trans ((if_neg k2).trans (if_neg k3))));clear HOK;go_wp2
 all_goals try omega
 go_ret;rw [HOK2.out];exact ⟨rfl,HBA.out⟩
def rd (v:Nat):Nat→Bs
 | 0=>[]
 | 1=>Lib.decDigits (v / 16777216 % 256)++[46]
 | 2=>(Lib.decDigits (v / 16777216 % 256)++[46])++(Lib.decDigits (v / 65536 % 256)++[46])
 | 3=>((Lib.decDigits (v / 16777216 % 256)++[46])++(Lib.decDigits (v / 65536 % 256)++[46]))++(Lib.decDigits (v / 256 % 256)++[46])
 | _=>(((Lib.decDigits (v / 16777216 % 256)++[46])++(Lib.decDigits (v / 65536 % 256)++[46]))++(Lib.decDigits (v / 256 % 256)++[46]))++(Lib.decDigits (v % 256)++[46])
theorem gt (v:Nat):rd v 4=vJ v++[46]:=by simp [rd,vJ]
theorem jF (x:Nat) (hx:x<4294967296):bits .and .u32 (x:Int) 255=((x % 256:Nat):Int):=by
 have h:=u32_and_nat x 255 hx (by omega);have e:x &&& 255=x % 256:=Nat.and_two_pow_sub_one_eq_mod x 8;rw [e] at h;exact h
theorem Wz (v k:Nat):(rd v k).length≤44:=by
 have h:∀ q,(Lib.decDigits (q % 256)).length≤10:=fun q=>zX _ (by omega);have h1:=h (v / 16777216);have h2:=h (v / 65536);have h3:=h (v / 256);have h4:=h v
 match k with
 | 0=>simp [rd]
 | 1=>simp [rd];omega
 | 2=>simp [rd];omega
 | 3=>simp [rd];omega
 | k+4=>simp [rd];omega
theorem Sw (v:Nat) (w:World) (hB:Base w) (hv:v<4294967296):Calls Tryz.prog 88 #[.int .u32 (v:Int)] w fun e w'=>e= .returned (.string (mk (vJ v)))∧Below w.heap.size w w':=by
 have HBS:=KZ9 hB;have HV:=KZ9 hv;clear hB;go_enter Tryz.func88,Tryz.ntmps88
 go_wp2;go_loopw [3,4] (fun ov iv wr=>∃ (k:Nat) (S:ByteArray),iv= .int .i64 (24 - 8*(k:Int))∧k≤4∧ov= .string S∧Hid (un S=rd v k)∧Below w.heap.size w wr) (fun _ iv _=>((match iv with | .int _ z=>z | _=>0)+8).toNat)
 case atStart=>exact ⟨0,⟨#[]⟩,by go_num,by omega,rfl,KZ9 rfl,Below.refl _ _⟩
 case round =>
  obtain ⟨k,S,rfl,hk,rfl,hS,hnx⟩:=hrel;have hSz:S.size≤44:=by rw [←zb,hS.out];exact Wz v k
  have hBr:=HBS.out.below hnx;rcases (by omega:k=0∨k=1∨k=2∨k=3∨k=4) with rfl | rfl | rfl | rfl | rfl
  ·obtain ⟨q,hq⟩:=KZ6 (v / 16777216 % 256);have HI:=KZ9 (tG q wr hBr (by omega));have ha:bits .and .u32 ((v:Int) / 16777216) 255=(q:Int):=by rw [hq,←jF (v / 16777216) (by omega)];rfl
   have hq5:q≤255:=by omega
   have HS:=KZ9 (show rd v 1=rd v 0++(Lib.decDigits q++[46]) by rw [hq];rfl);have hqz:(Lib.decDigits q).length≤10:=zX q (by omega);clear hBr hq;go_wp2_with fail
   refine HI.out.mono ?_;rintro e w2 ⟨rfl,hb2⟩;go_wp2
   all_goals try omega
   go_roundw
   case rel=>exact ⟨1,_,by go_num,by omega,rfl,KZ9 (by rw [HS.out,yo,yo,hS.out,zj];rfl),hnx.trans (hb2.mono hnx.size)⟩
   case measure=>simp
  ·obtain ⟨q,hq⟩:=KZ6 (v / 65536 % 256);have HI:=KZ9 (tG q wr hBr (by omega));have ha:bits .and .u32 ((v:Int) / 65536) 255=(q:Int):=by rw [hq,←jF (v / 65536) (by omega)];rfl
   have hq5:q≤255:=by omega
   have HS:=KZ9 (show rd v 2=rd v 1++(Lib.decDigits q++[46]) by rw [hq];rfl);have hqz:(Lib.decDigits q).length≤10:=zX q (by omega);clear hBr hq;go_wp2_with fail
   refine HI.out.mono ?_;rintro e w2 ⟨rfl,hb2⟩;go_wp2
   all_goals try omega
   go_roundw
   case rel=>exact ⟨2,_,by go_num,by omega,rfl,KZ9 (by rw [HS.out,yo,yo,hS.out,zj];rfl),hnx.trans (hb2.mono hnx.size)⟩
   case measure=>simp
  ·obtain ⟨q,hq⟩:=KZ6 (v / 256 % 256);have HI:=KZ9 (tG q wr hBr (by omega));have ha:bits .and .u32 ((v:Int) / 256) 255=(q:Int):=by rw [hq,←jF (v / 256) (by omega)];rfl
   have hq5:q≤255:=by omega
   have HS:=KZ9 (show rd v 3=rd v 2++(Lib.decDigits q++[46]) by rw [hq];rfl);have hqz:(Lib.decDigits q).length≤10:=zX q (by omega);clear hBr hq;go_wp2_with fail
   refine HI.out.mono ?_;rintro e w2 ⟨rfl,hb2⟩;go_wp2
   all_goals try omega
   go_roundw
   case rel=>exact ⟨3,_,by go_num,by omega,rfl,KZ9 (by rw [HS.out,yo,yo,hS.out,zj];rfl),hnx.trans (hb2.mono hnx.size)⟩
   case measure=>simp
  ·obtain ⟨q,hq⟩:=KZ6 (v % 256);have HI:=KZ9 (tG q wr hBr (by omega));have ha:bits .and .u32 ((v:Int)) 255=(q:Int):=by rw [hq,←jF (v) (by omega)]
   have hq5:q≤255:=by omega
   have HS:=KZ9 (show rd v 4=rd v 3++(Lib.decDigits q++[46]) by rw [hq];rfl);have hqz:(Lib.decDigits q).length≤10:=zX q (by omega);clear hBr hq;go_wp2_with fail
   refine HI.out.mono ?_;rintro e w2 ⟨rfl,hb2⟩;go_wp2
   all_goals try omega
   go_roundw
   case rel=>exact ⟨4,_,by go_num,by omega,rfl,KZ9 (by rw [HS.out,yo,yo,hS.out,zj];rfl),hnx.trans (hb2.mono hnx.size)⟩
   case measure=>simp
  have hS4:S.size=(vJ v).length+1:=by rw [←zb,hS.out,gt];simp
  have hS1:1≤S.size:=by omega
  have HE:=KZ9 (show S.extract 0 (S.size - 1)=mk (vJ v) from sJ (by rw [xk,hS.out,gt,zj,hS4];simp));clear hBr hS4;go_wp2
  all_goals try omega
  go_ret;rw [HE.out];exact ⟨rfl,hnx⟩
theorem Sv (l:List Nat) (w:World) (hB:Base6 w) (h8:l.length=8) (hl:∀ x∈l,x<65536):Calls Tryz.prog 89 #[.agg (zg l).toArray] w fun e w'=>e= .returned (.string (mk (vM l)))∧Below w.heap.size w w':=by
 have hgood:=rF l;have hblk:=BlkN.new w 58 (zg l).toArray;have hbA:Below w.heap.size w (w.alloc (.cells (zg l).toArray 58)):=(Below.refl _ w).alloc (Nat.le_refl _) _;have hdef:Hid (vM l=SC l (xz l 0 (0,0))):=KZ9 rfl;have HZ:=KZ9 (fun W=>RY l W h8 hl);obtain ⟨⟨at',n⟩,hz⟩:∃ z,z=xz l 0 (0,0):=⟨_,rfl⟩;rw [←hz] at hgood hdef;simp only [←hz] at HZ;have hgd:=hgood.1;simp only at hgd;have B0:=hB.below hbA;have HBLK:=KZ9 hblk;have HA:=KZ9 hbA;clear hz hgood hblk hbA hB;go_enter Tryz.func89,Tryz.ntmps89
 go_wp2_with ((with_reducible show wpList _ _ _ _ _ _);refine wpList_load_row rfl 58 (.tmp 1) rfl w.heap.size rfl 58 _ _ _ HBLK.out Tryz.underlying58 rfl (by rw [zC];simp;omega) ?_)
 refine (HZ.out _).mono ?_;rintro e w2 ⟨rfl,hb2⟩;have B2:=B0.below hb2;have hblk2:=HBLK.out.below HBLK.out.lt hb2;have hall:=HA.out.trans (hb2.mono HA.out.size);clear B0 hb2;by_cases hn2:n<2
 ·have hend:Hid (vM l=yu l):=KZ9 (by rw [hdef.out];exact if_pos hn2);have g1:decide ((n:Int)<2)=true:=KZ7 (by omega);have hp:=pS hblk2 (some ⟨w.heap.size,0,none⟩) 0 8 8 (fun _=>rfl) (by omega) (by omega) (by decide);rw [List.drop_zero,List.take_of_length_le (by omega)] at hp;have HJ:=KZ9 (YU _ l w2 B2 hp (by omega) hl);clear hp hblk2 hdef;go_wp2_with fail
  all_goals try omega
  refine HJ.out.mono ?_;rintro e w3 ⟨rfl,hb3⟩;go_wp2;go_ret;rw [hend.out];exact ⟨rfl,hall.trans (hb3.mono hall.size)⟩
 have hend:Hid (vM l=yu (l.take at')++58::58::yu (l.drop (at'+n))):=KZ9 (by rw [hdef.out];exact if_neg hn2);have g1:decide ((n:Int)<2)=false:=KZ8 (by omega);obtain ⟨q,hq⟩:=KZ6 (at'+n);have hq8:q≤8:=by omega
 obtain ⟨sa,hsa,hsl⟩:=Vw w.heap.size q hq8;have hsh:=Vv w.heap.size at' (by omega);have hw:IntKind.i64.wrap ((at':Int)+(n:Int))=(q:Int):=by rw [IntKind.wrap_i64];omega
 have hw2:((at':Int)+(n:Int))=(q:Int):=by omega
 have hp1:=pS hblk2 (some ⟨w.heap.size,0,none⟩) 0 at' 8 (fun _=>rfl) (by omega) (by omega) (by decide);have hp2:=pS hblk2 (some sa) q (8 - q) (8 - q) (fun h=>by rw [hsa.out (by omega)]) (by omega) (by omega) (by unfold maxLen;omega);rw [List.drop_zero] at hp1;rw [List.take_of_length_le (by rw [List.length_drop];omega)] at hp2;rw [←hq] at hend;have hl1:∀ x∈l.take at',x<65536:=fun x hx=>hl x (List.mem_of_mem_take hx);have hl2:∀ x∈l.drop q,x<65536:=fun x hx=>hl x (List.mem_of_mem_drop hx);have hn1:=wb _ hl1;have hn2':=wb _ hl2;rw [List.length_take] at hn1;rw [List.length_drop] at hn2';have J1:=KZ9 (fun x:yg w2=>YU _ (l.take at') x.1 (B2.below x.2) (hp1.below x.2) (by rw [List.length_take];omega) hl1);have J2:=KZ9 (fun x:yg w2=>YU _ (l.drop q) x.1 (B2.below x.2) (hp2.below x.2) (by rw [List.length_drop];omega) hl2);obtain ⟨t1,ht1⟩:∃ t,t=yu (l.take at'):=⟨_,rfl⟩
 obtain ⟨t2,ht2⟩:∃ t,t=yu (l.drop q):=⟨_,rfl⟩;rw [←ht1] at hn1 J1 hend;rw [←ht2] at hn2' J2 hend;have k1:t1.length≤40:=by omega
 have k2:t2.length≤40:=by omega
 have HQ:=KZ9 hq;clear ht1 ht2 hn1 hn2' hp1 hp2 hl1 hl2 hblk2 hdef hsa hl hq;go_wp2_with fail
 all_goals try omega
 refine zM w2 (by kernel_rfl) (by kernel_rfl) (Below.refl _ _) ?_;repeat (go_big_quiet_step (fail))
 go_big_quiet_step (exact Calls.later (J1.out _))
 repeat (go_big_quiet_step (fail))
 go_big_quiet_step (exact Calls.later (J2.out _))
 repeat (go_big_quiet_step (fail))
 refine wpQuiet_nil ?_;intro _ hw';obtain ⟨⟨w5,hb5⟩,rfl⟩:=hw';go_wp2;go_ret;rw [hend.out];exact ⟨UV (by simp only [yo,zj];simp [un]),hall.trans (hb5.mono hall.size)⟩
theorem Wq {h:HostP} (hv:zT h=false):yf h=[]:=by unfold yf;rw [if_neg (by rw [hv];simp)]
theorem Th {n:Bs} {v:Nat} {x:List Nat} (hv:zT ⟨1,n,v,x⟩=true):yf ⟨1,n,v,x⟩=n:=by unfold yf;rw [if_pos hv];rfl
theorem Tg {n:Bs} {v:Nat} {x:List Nat} (hv:zT ⟨2,n,v,x⟩=true):yf ⟨2,n,v,x⟩=vJ v:=by unfold yf;rw [if_pos hv];rfl
theorem Tf {n:Bs} {v:Nat} {x:List Nat} (hv:zT ⟨3,n,v,x⟩=true):yf ⟨3,n,v,x⟩=91::(vM x++[93]):=by unfold yf;rw [if_pos hv];rfl
theorem tb {k:Nat} {n:Bs} {v:Nat} {x:List Nat} (hv:zT ⟨k,n,v,x⟩=true):k=1∨k=2∨k=3:=by
 rw [sn] at hv;split at hv
 ·omega
 split at hv
 ·omega
 split at hv
 ·omega
 cases hv
theorem gh (h:HostP) (w:World) (hB:Base6 w) (hw:ym h) (hn:h.name.length≤100000):Calls Tryz.prog 49 #[.agg (zc h).toArray] w fun e w'=>e= .returned (.string (mk (yf h)))∧Below w.heap.size w w':=by
 obtain ⟨W0,hW0⟩:=KZ6 (w.alloc (.cells (zc h).toArray 60));have hbA:Below w.heap.size w W0:=by rw [hW0];exact (Below.refl _ w).alloc (Nat.le_refl _) _
 have hb0:BlkL W0 w.heap.size 60 (zc h):=by rw [hW0];exact BlkL.new w _ _
 have HW0:Hid (w.alloc (.cells (zc h).toArray 60)=W0):=KZ9 hW0.symm;have hsz:W0.heap.size=w.heap.size+1:=by rw [hW0];simp
 have B0:=hB.below hbA;have HV:=KZ9 (jB h W0 B0.1 hw hn);have HI:=KZ9 (xI hw.1);have HB0:=KZ9 hb0;clear hW0 hB;go_enter Tryz.func49,Tryz.ntmps49
 go_upto_region 1 with fail
 rw [HW0.out];clear HW0;go_wp2_with (refine wpList_load_row rfl 60 (.tmp 1) rfl w.heap.size rfl 60 _ _ _ HB0.out Tryz.underlying60 rfl HI.out ?_)
 refine HV.out.mono ?_;rintro e w1 ⟨rfl,hb1⟩;have HALL:=KZ9 (hbA.trans (hb1.mono (by omega)));have B1:=B0.below hb1;have hb2:=hb0.below (by omega) hb1;clear hb1 HB0 hb0 HV hbA;obtain ⟨ok,hok⟩:=KZ6 (zT h);rw [←hok];cases ok
 ·have hfin:=KZ9 (Wq hok.symm);clear hok;go_wp2;go_ret;rw [hfin.out];exact ⟨rfl,HALL.out⟩
 obtain ⟨kind,name,v4,v6⟩:=h;simp only at hn;have c0:=hb2.c 0 _ (wG _).1;have c1:=hb2.c 1 _ (wG _).2.1;have c2:=hb2.c 2 _ (wG _).2.2.1;simp only at c0 c1 c2;rcases tb hok.symm with rfl | rfl | rfl
 ·have hfin:=KZ9 (Th hok.symm);clear hok hb2;go_wp2;go_ret;rw [hfin.out];exact ⟨rfl,HALL.out⟩
 ·have hfin:=KZ9 (Tg hok.symm);have HF:=KZ9 (Sw v4 w1 B1.1 hw.2.2);clear hok hb2;go_wp2_with fail
  refine HF.out.mono ?_;rintro e w2 ⟨rfl,hb3⟩;go_wp2;go_ret;rw [hfin.out];exact ⟨rfl,HALL.out.trans (hb3.mono (by have:=HALL.out.size;omega))⟩
 have hfin:=KZ9 (Tf hok.symm);have HF:=KZ9 (Sv v6 w1 B1 hw.1 hw.2.1);have hln:=pi v6 ⟨hw.1,hw.2.1⟩;have HR:=KZ9 (hb2.range 3 (zg v6) (fun j v hj=>by rw [(wG _).2.2.2 j];exact hj));have HIA:=KZ9 (show (Tryz.prog.info? 58).map (·.size)=some (zg v6).length by rw [zC,yc,hw.1]);clear hok hb2;go_wp2_with (refine wpList_load_mid rfl 58 (.tmp 20) rfl w.heap.size 3 rfl (zg v6) _ HR.out Tryz.underlying58 rfl HIA.out ?_)
 refine HF.out.mono ?_;rintro e w2 ⟨rfl,hb3⟩;have hs2:(mk (vM v6)).size≤44:=by rw [zh];exact hln
 go_wp2
 all_goals try omega
 go_ret;rw [hfin.out];exact ⟨rfl,HALL.out.trans (hb3.mono (by have:=HALL.out.size;omega))⟩
theorem XB (n:Nat) (w:World) (hn:n<65536):Calls Tryz.prog 202 #[.int .u16 (n:Int)] w fun e w'=>e= .returned (.string (mk (xJ n)))∧w=w':=by
 have HN:=KZ9 (tN n hn);go_enter Tryz.func202,Tryz.ntmps202
 go_wp2;go_loop [3,4] (fun sv mv=>∃ (S:ByteArray) (m:Nat),sv= .string S∧mv= .int .u16 m∧m<65536∧S.size≤4∧Hid (DigSt 16 n (un S) m)) (fun sv mv=>(intOf mv).toNat+(1 - px sv))
 case atStart=>exact ⟨⟨#[]⟩,n,rfl,rfl,by omega,by decide,KZ9 (.inl ⟨rfl,rfl⟩)⟩
 case round =>
  obtain ⟨S,m,rfl,rfl,hm,hS,hst⟩:=hrel;have l0:0≤(m:Int) % 16:=by omega
  have l1:(m:Int) % 16+1≤16:=by omega
  have l2:((m:Int) % 16).toNat=m % 16:=by omega
  have l3:((m:Int) % 16+1).toNat=m % 16+1:=by omega
  have l4:(m:Int) % 16≤(m:Int) % 16+1:=by omega
  have LH:=KZ9 (Px (m % 16) (by omega));have hsz:(mk [uL (m % 16)]).size=1:=by rw [zh];rfl
  have hgo:(0<m∨un S=[])→DigSt 16 n (uL (m % 16)::un S) (m / 16):=fun h=>hst.out.step (by decide) h;have hszz:(0<m∨un S=[])→S.size+1≤4:=fun h=>by have h1:=(hgo h).len;have h2:(wO 16 n).length≤4:=HN.out;rw [List.length_cons,zb] at h1;omega
  by_cases hm0:0<m
  ·have g1:decide ((0:Int)<(m:Int))=true:=KZ7 (by omega);have hs2:=hszz (.inl hm0);have hst2:Hid (DigSt 16 n (un (mk [uL (m % 16)]++S)) (m / 16)):=KZ9 (by rw [yo,zj];exact hgo (.inl hm0));have hs3:(mk [uL (m % 16)]++S).size≤4:=by rw [ByteArray.size_append,hsz];omega
   clear hgo hszz hst;go_wp2
   all_goals try omega
   (try rw [LH.out])
   go_round
   case rel=>exact ⟨_,m / 16,rfl,by go_num,by omega,hs3,hst2⟩
   case measure=>simp [intOf,px];omega
  obtain rfl:m=0:=by omega
  cases he:(un S).isEmpty
  ·have hne:S.toList.isEmpty=false:=by rw [zl];exact he
   have hfin:Hid (S=mk (wO 16 n)):=KZ9 (sJ (by rw [zj];exact hst.out.fin (by intro e;rw [e] at he;simp at he)));clear hgo hszz hst he LH;go_wp2_with fail
   all_goals try omega
   go_ret;exact ⟨by rw [hfin.out];rfl,rfl⟩
  have hne:S.toList.isEmpty=true:=by rw [zl];exact he
  have hS0:un S=[]:=by simpa using he
  have hSs:S.size=0:=by rw [←zb,hS0];rfl
  have hs2:=hszz (.inr hS0);have hst2:Hid (DigSt 16 n (un (mk [uL (0 % 16)]++S)) (0 / 16)):=KZ9 (by rw [yo,zj];exact hgo (.inr hS0));have hs3:(mk [uL (0 % 16)]++S).size≤4:=by rw [ByteArray.size_append,hsz];omega
  clear hgo hszz hst he hS0;go_wp2
  all_goals try omega
  (try rw [LH.out])
  go_round
  case rel=>exact ⟨_,0,rfl,by go_num,by omega,hs3,hst2⟩
  case measure=>simp [intOf,px];omega
theorem UC {l:List Nat} {k:Nat} (h:k<l.length) (b:Int × Nat):vg (l.drop k) k b=vg (l.drop (k+1)) (k+1) (if b.2<wd (l.drop k) then ((k:Int),wd (l.drop k)) else b):=by
 rw [List.drop_eq_getElem_cons h,vg]
theorem Ur (S:ByteArray):S.size=0∨∃ h:S.size - 1<S.size,(S[S.size - 1]'h=58∧(un S).getLast? =some 58)∨(S[S.size - 1]'h≠58∧un S≠[]∧(un S).getLast? ≠some 58):=by
 by_cases h0:S.size=0
 ·exact .inl h0
 refine .inr ⟨by omega,?_⟩;have hl:(un S).getLast? =some (S[S.size - 1]'(by omega)):=by
  rw [List.getLast?_eq_getElem?,zb,List.getElem?_eq_getElem (by rw [zb];omega)];rfl
 by_cases h:S[S.size - 1]'(by omega)=58
 ·exact .inl ⟨h,by rw [hl,h]⟩
 refine .inr ⟨h,?_,?_⟩
 ·intro e;have:=zb S;rw [e] at this;exact h0 this.symm
 rw [hl];exact fun e=>h (Option.some.inj e)
set_option maxHeartbeats 8000000
theorem VK (l:List Nat) (w:World) (h8:l.length=8) (hl:∀ x∈l,x<65536):Calls Tryz.prog 159 #[.agg (zg l).toArray] w fun e w'=>e= .returned (.string (mk (vM l)))∧Below w.heap.size w w':=by
 have hcell:=Tj w 58 l;have hbA:Below w.heap.size w (w.alloc (.cells (zg l).toArray 58)):=(Below.refl _ w).alloc (Nat.le_refl _) _;have hszA:w.heap.size<(w.alloc (.cells (zg l).toArray 58)).heap.size:=by simp
 have HA:=KZ9 (And.intro hbA (And.intro hszA hcell));have H8:=KZ9 h8;obtain ⟨fr,n,at',hbest,hn1,hn8,hfr8,hcase,hout⟩:=Rz l h8;have HBEST:=KZ9 hbest;have HOUT:=KZ9 hout;have HT:=KZ9 (fun g W hg=>XB g W hg);clear hcell hbA hszA hbest hout;go_enter Tryz.func159,Tryz.ntmps159
 go_wp2;go_loopw [3,4,5] (fun av mv iv wr=>∃ (k m:Nat) (a:Int),iv= .int .i64 k∧k≤8∧av= .int .i64 a∧mv= .int .i64 m∧ -1≤a∧a≤8∧m≤8∧Hid (vg l 0 (-1,1)=vg (l.drop k) k (a,m))∧Below (w.alloc (.cells (zg l).toArray 58)).heap.size (w.alloc (.cells (zg l).toArray 58)) wr) (fun _ _ iv _=>8 - (intOf iv).toNat)
 case atStart=>exact ⟨0,1,-1,rfl,by omega,rfl,rfl,by omega,by omega,by omega,KZ9 rfl,Below.refl _ _⟩
 case round =>
  obtain ⟨k,m,a,rfl,hk,rfl,rfl,ha0,ha,hm,hst,hnx⟩:=hrel;by_cases hlt:k<8
  ·have hkl:k<l.length:=by rw [H8.out];exact hlt
   have hst2:Hid (vg l 0 (-1,1)=vg (l.drop (k+1)) (k+1) (if m<wd (l.drop k) then ((k:Int),wd (l.drop k)) else (a,m))):=KZ9 (by rw [hst.out,UC hkl]);have hw1:w.heap.size<wr.heap.size:=Nat.lt_of_lt_of_le HA.out.2.1 hnx.size;have HCR:Hid (∀ j (hj:j<l.length),wr.cell? ⟨w.heap.size,j,none⟩=some (.int .u16 (l[j]:Int))):=KZ9 (fun j hj=>((yA hnx).1 w.heap.size j HA.out.2.1).trans (HA.out.2.2 j hj));clear hst;go_wp2;go_loopw [6] (fun nv wq=>∃ (j:Nat),nv= .int .i64 j∧k+j≤8∧Hid (wd (l.drop k)=j+wd (l.drop (k+j)))∧Below wr.heap.size wr wq) (fun nv _=>8 - (intOf nv).toNat)
   case atStart=>exact ⟨0,rfl,by omega,KZ9 (by simp),Below.refl _ _⟩
   case round =>
    obtain ⟨j,rfl,hj,hrun,hnq⟩:=hrel;by_cases hjl:k+j<8
    ·have hjl2:k+j<l.length:=by rw [H8.out];exact hjl
     have g1:decide ((k:Int)+(j:Int)<8)=true:=KZ7 (by omega);have c0:=((yA hnq).1 w.heap.size (k+j) hw1).trans (HCR.out (k+j) hjl2);have hx:=hl l[k+j] (List.getElem_mem hjl2);by_cases h0:l[k+j]=0
     ·have hr2:Hid (wd (l.drop k)=(j+1)+wd (l.drop (k+(j+1)))):=KZ9 (by rw [hrun.out,sP hjl2 h0];simp only [←Nat.add_assoc];omega);rw [h0] at c0;clear hrun h0 hx;go_wp2
      all_goals try omega
      go_roundw
      case rel=>exact ⟨j+1,by go_num,by omega,hr2,hnq⟩
      case measure=>simp [intOf];omega
     obtain ⟨x,hxx⟩:=KZ6 (l[k+j]);have hfin:Hid (wd (l.drop k)=j):=KZ9 (by rw [hrun.out,rN hjl2 h0,Nat.add_zero]);rw [←hxx] at c0 h0 hx;have g2:((x:Int)==0)=false:=by simp;omega
     clear hrun hxx;by_cases hmj:m<j
     ·have hst3:Hid (vg l 0 (-1,1)=vg (l.drop (k+1)) (k+1) ((k:Int),j)):=KZ9 (by rw [hst2.out,hfin.out,if_pos hmj]);clear hst2 hfin;have g3:decide ((m:Int)<(j:Int))=true:=KZ7 (by omega);go_wp2
      all_goals try omega
      go_roundw
      case rel=>exact ⟨k+1,j,(k:Int),by go_num,by omega,rfl,rfl,by omega,by omega,by omega,hst3,hnx.trans (hnq.mono hnx.size)⟩
      case measure=>simp [intOf];omega
     have hst3:Hid (vg l 0 (-1,1)=vg (l.drop (k+1)) (k+1) (a,m)):=KZ9 (by rw [hst2.out,hfin.out,if_neg hmj]);clear hst2 hfin;have g3:decide ((m:Int)<(j:Int))=false:=KZ8 (by omega);go_wp2
     all_goals try omega
     go_roundw
     case rel=>exact ⟨k+1,m,a,by go_num,by omega,rfl,rfl,by omega,by omega,by omega,hst3,hnx.trans (hnq.mono hnx.size)⟩
     case measure=>simp [intOf];omega
    have hfin:Hid (wd (l.drop k)=j):=KZ9 (by rw [hrun.out,List.drop_of_length_le (by rw [H8.out];omega)];rfl);have g1:decide ((k:Int)+(j:Int)<8)=false:=KZ8 (by omega);clear hrun;by_cases hmj:m<j
    ·have hst3:Hid (vg l 0 (-1,1)=vg (l.drop (k+1)) (k+1) ((k:Int),j)):=KZ9 (by rw [hst2.out,hfin.out,if_pos hmj]);clear hst2 hfin;have g3:decide ((m:Int)<(j:Int))=true:=KZ7 (by omega);go_wp2
     all_goals try omega
     go_roundw
     case rel=>exact ⟨k+1,j,(k:Int),by go_num,by omega,rfl,rfl,by omega,by omega,by omega,hst3,hnx.trans (hnq.mono hnx.size)⟩
     case measure=>simp [intOf];omega
    have hst3:Hid (vg l 0 (-1,1)=vg (l.drop (k+1)) (k+1) (a,m)):=KZ9 (by rw [hst2.out,hfin.out,if_neg hmj]);clear hst2 hfin;have g3:decide ((m:Int)<(j:Int))=false:=KZ8 (by omega);go_wp2
    all_goals try omega
    go_roundw
    case rel=>exact ⟨k+1,m,a,by go_num,by omega,rfl,rfl,by omega,by omega,by omega,hst3,hnx.trans (hnq.mono hnx.size)⟩
    case measure=>simp [intOf];omega
  have hend:(at',n)=(a,m):=by rw [←HBEST.out,hst.out,List.drop_of_length_le (by rw [H8.out];omega)];rfl
  injection hend with e1 e2
  subst e1;subst e2;have HCR:Hid (∀ j (hj:j<l.length),wr.cell? ⟨w.heap.size,j,none⟩=some (.int .u16 (l[j]:Int))):=KZ9 (fun j hj=>((yA hnx).1 w.heap.size j HA.out.2.1).trans (HA.out.2.2 j hj));have hall:=HA.out.1.trans (hnx.mono HA.out.1.size);have hw1:w.heap.size<wr.heap.size:=Nat.lt_of_lt_of_le HA.out.2.1 hnx.size;have HALL:=KZ9 hall;have HL:=KZ9 hl;clear hst hnx hall HBEST hl;go_wp2;go_loop [7,8] (fun sv iv=>∃ (S:ByteArray) (k:Nat),sv= .string S∧iv= .int .i64 k∧k≤8∧S.size≤82∧(k≤fr∨fr+n≤k)∧Hid (un S=vI l fr n k)) (fun _ iv=>8 - (intOf iv).toNat)
  case atStart=>exact ⟨⟨#[]⟩,0,rfl,rfl,by omega,by decide,.inl (by omega),KZ9 (by rw [Se];rfl)⟩
  case round =>
   obtain ⟨S,j,rfl,rfl,hj,hS,hkf,hst⟩:=hrel;by_cases hlt2:j<8
   ·by_cases hgap:j=fr
    ·have hfr:at'=(fr:Int)∧fr+n≤8:=by
      rcases hcase with ⟨h1,h2⟩ | h
      ·omega
      exact h
     have g1:((j:Int)==at')=true:=by simp;omega
     have hlen:=XR l fr n (fr+n) HL.out H8.out;have hnx2:Hid (un (S++(⟨#[58,58]⟩:ByteArray))=vI l fr n (fr+n)):=KZ9 (by rw [yo,hst.out,Ry l fr n (by omega),hgap];rfl);have hsz:(S++(⟨#[58,58]⟩:ByteArray)).size≤82:=by rw [←zb,hnx2.out];exact hlen
     have hw:(j:Int)+((n:Int) - 1)=((fr+n - 1:Nat):Int):=by omega
     clear hlen hst;go_wp2
     all_goals try omega
     go_round
     case rel=>exact ⟨_,fr+n,rfl,by go_num,by omega,hsz,.inr (by omega),hnx2⟩
     case measure=>simp [intOf];omega
    have g1:((j:Int)==at')=false:=by
     simp;rcases hcase with ⟨h1,h2⟩ | ⟨h1,h2⟩<;>omega
    have hkl:j<l.length:=by rw [H8.out];exact hlt2
    have c0:=HCR.out j hkl;have hx:=HL.out l[j] (List.getElem_mem hkl);have hstep:=Sf l fr n j hkl (by omega);have hlen:=XR l fr n (j+1) HL.out H8.out;rw [hstep] at hlen;obtain ⟨x,hxx⟩:=KZ6 (l[j]);rw [←hxx] at c0 hx hstep hlen;rw [←hst.out] at hstep hlen;have HX:=KZ9 (fun W=>HT.out x W hx);have hlx:(xJ x).length≤4:=tN x hx;rcases Ur S with h0 | ⟨hlast,⟨h58,hl58⟩ | ⟨h58,hne,hl58⟩⟩
    ·have hun:un S=[]:=List.eq_nil_of_length_eq_zero (by rw [zb];exact h0);have g2:S.toList.isEmpty=true:=by rw [zl,hun];rfl
     rw [if_neg (fun h=>h.1 hun)] at hstep hlen;have hnx2:Hid (un (S++mk (xJ x))=vI l fr n (j+1)):=KZ9 (by rw [yo,zj,hstep];rfl);have hsz:(S++mk (xJ x)).size≤82:=by rw [ByteArray.size_append,zh];simp at hlen;omega
     clear hstep hlen hst hxx hun;go_wp2_with fail
     all_goals try omega
     refine (HX.out _).mono ?_;rintro e w2 ⟨rfl,rfl⟩;go_wp2
     all_goals try omega
     go_round
     case rel=>exact ⟨_,j+1,rfl,by go_num,by omega,hsz,by omega,hnx2⟩
     case measure=>simp [intOf];omega
    ·have hun:un S≠[]:=by intro e;rw [e] at hl58;cases hl58
     have g2:S.toList.isEmpty=false:=by
      rw [zl];cases hu:un S with
      | nil=>exact absurd hu hun
      | cons a b=>rfl
     have hS0:0<S.size:=by omega
     have g3:(((S[S.size - 1]'hlast).toNat:Int) != 58)=false:=by rw [h58];rfl
     rw [if_neg (fun h=>h.2 hl58)] at hstep hlen;have hnx2:Hid (un (S++mk (xJ x))=vI l fr n (j+1)):=KZ9 (by rw [yo,zj,hstep];rfl);have hsz:(S++mk (xJ x)).size≤82:=by rw [ByteArray.size_append,zh];simp at hlen;omega
     clear hstep hlen hst hxx hun hl58 h58;go_wp2_with fail
     all_goals try omega
     refine (HX.out _).mono ?_;rintro e w2 ⟨rfl,rfl⟩;go_wp2
     all_goals try omega
     go_round
     case rel=>exact ⟨_,j+1,rfl,by go_num,by omega,hsz,by omega,hnx2⟩
     case measure=>simp [intOf];omega
    have g2:S.toList.isEmpty=false:=by
     rw [zl];cases hu:un S with
     | nil=>exact absurd hu hne
     | cons a b=>rfl
    have hS0:0<S.size:=by omega
    have g3:(((S[S.size - 1]'hlast).toNat:Int) != 58)=true:=by
     have:(S[S.size - 1]'hlast).toNat≠58:=fun e=>h58 (UInt8.toNat_inj.1 (by rw [e];rfl));simp;omega
    rw [if_pos ⟨hne,hl58⟩] at hstep hlen;have hnx2:Hid (un (S++(⟨#[58]⟩:ByteArray)++mk (xJ x))=vI l fr n (j+1)):=KZ9 (by rw [yo,yo,zj,hstep,List.append_assoc];rfl);have hsz:(S++(⟨#[58]⟩:ByteArray)++mk (xJ x)).size≤82:=by rw [←zb,hnx2.out,hstep];exact hlen
    clear hstep hlen hst hxx hne hl58 h58;go_wp2_with fail
    all_goals try omega
    refine (HX.out _).mono ?_;rintro e w2 ⟨rfl,rfl⟩;go_wp2
    all_goals try omega
    go_round
    case rel=>exact ⟨_,j+1,rfl,by go_num,by omega,hsz,by omega,hnx2⟩
    case measure=>simp [intOf];omega
   obtain rfl:j=8:=by omega
   have hfin:Hid (S=mk (vM l)):=KZ9 (sJ (by rw [zj,hst.out,HOUT.out]));clear hst;go_wp2
   all_goals try omega
   go_ret;rw [hfin.out];exact ⟨rfl,HALL.out⟩
theorem Jm:∀ v∈zg xj,v.oneCell'=true:=by decide
theorem pE (h:HostP) (w:World) (hw:ym h) (hn:h.name.length≤100000):Calls Tryz.prog 53 #[.agg (zc h).toArray] w fun e w'=>e= .returned (.bool (zT h))∧Below w.heap.size w w':=by
 obtain ⟨W0,hW0⟩:=KZ6 (((w.alloc (.cells (zc h).toArray 60)).alloc (.cells (zg xj).toArray 58)).setRow (w.heap.size+1) (zg xj).toArray);have hbA:Below w.heap.size w W0:=by rw [hW0];exact below_setRow (((Below.refl _ w).alloc (Nat.le_refl _) _).alloc (by simp) _) (by omega) _
 have hb0:BlkL W0 w.heap.size 60 (zc h):=by rw [hW0];exact ((BlkL.new w _ _).alloc _).setRow_other (by omega) _
 have hz0:BlkL W0 (w.heap.size+1) 58 (zg xj):=by
  rw [hW0];have:=(BlkL.new (w.alloc (.cells (zc h).toArray 60)) 58 (zg xj)).setRow (zg xj)
  simpa using this
 have HW0:Hid (((w.alloc (.cells (zc h).toArray 60)).alloc (.cells #[.int .u16 0,.int .u16 0,.int .u16 0,.int .u16 0,.int .u16 0,.int .u16 0,.int .u16 0,.int .u16 0] 58)).setRow (w.heap.size+1) (zg xj).toArray=W0):=KZ9 hW0.symm;have hsz:W0.heap.size=w.heap.size+2:=by rw [hW0];simp [World.setRow]
 clear hW0;go_enter Tryz.func53,Tryz.ntmps53
 have HZ8:=KZ9 (show ((w.alloc (.cells (zc h).toArray 60)).alloc (.cells (zg xj).toArray 58)).heap[w.heap.size+1]? =some (.cells (zg xj).toArray 58 (0,0)) by have:=heap_alloc_new (w.alloc (.cells (zc h).toArray 60)) (.cells (zg xj).toArray 58);simpa using this);go_upto_region 2 with (refine wpList_store_row rfl 58 (.tmp 3) (.tmp 4) rfl (w.heap.size+1) (zg xj).toArray rfl rfl 58 _ HZ8.out zC rfl (ze Jm) ?_)
 rw [HW0.out];clear HW0;obtain ⟨kind,name,v4,v6⟩:=h;obtain ⟨a,b,c,d,e,f,g,i,rfl⟩:=si hw.1;have hq:∀ W,(Op.equalIn 10000 58 (.agg #[.int .u16 (a:Int),.int .u16 (b:Int),.int .u16 (c:Int),.int .u16 (d:Int),.int .u16 (e:Int),.int .u16 (f:Int),.int .u16 (g:Int),.int .u16 (i:Int)]) (.agg #[.int .u16 0,.int .u16 0,.int .u16 0,.int .u16 0,.int .u16 0,.int .u16 0,.int .u16 0,.int .u16 0])).run Tryz.prog W= .ok (decide ([a,b,c,d,e,f,g,i]=xj)) W:=jE [a,b,c,d,e,f,g,i] xj rfl rfl;have HOK:=KZ9 (sn kind name v4 [a,b,c,d,e,f,g,i]);obtain ⟨qv,hqv⟩:=KZ6 (decide ([a,b,c,d,e,f,g,i]=xj));rw [←hqv] at hq HOK;clear hqv hw;simp only at hn;obtain ⟨c0,c1,c2,c3,c4,c5,c6,c7,c8,c9,c10⟩:=BlkL.cs11 hb0;obtain ⟨z0,z1,z2,z3,z4,z5,z6,z7⟩:=BlkL.cs8 hz0;by_cases k1:kind=1
 ·subst k1;have HOK2:Hid (zT ⟨1,name,v4,[a,b,c,d,e,f,g,i]⟩=(zJ name&&decide (v4=0)&&qv)):=KZ9 (HOK.out.trans (if_pos rfl));have hv:=vQ (mk name) W0 (by rw [zh];omega);rw [zj] at hv;obtain ⟨nv,hnv⟩:=KZ6 (zJ name);rw [←hnv] at hv HOK2;have HV:=KZ9 hv;clear hv hnv HOK;go_wp2_with fail
  all_goals try omega
  refine HV.out.mono ?_;rintro e w1 ⟨rfl,hb1⟩;have HALL:=KZ9 (hbA.trans (hb1.mono (by omega)));have hb2:=hb0.below (by omega) hb1;have hz2:=hz0.below (by omega) hb1;clear c0 c1 c2 c3 c4 c5 c6 c7 c8 c9 c10 z0 z1 z2 z3 z4 z5 z6 z7;have c2:=hb2.c 2 _ rfl;have c3:=hb2.c 3 _ rfl;have c4:=hb2.c 4 _ rfl;have c5:=hb2.c 5 _ rfl;have c6:=hb2.c 6 _ rfl;have c7:=hb2.c 7 _ rfl;have c8:=hb2.c 8 _ rfl;have c9:=hb2.c 9 _ rfl;have c10:=hb2.c 10 _ rfl;obtain ⟨z0,z1,z2,z3,z4,z5,z6,z7⟩:=BlkL.cs8 hz2;clear hb1 hb2 hz2 hb0 hz0 HV hbA;cases nv
  ·go_wp2
   all_goals try omega
   go_ret;rw [HOK2.out];exact ⟨rfl,HALL.out⟩
  by_cases hv4:v4=0
  ·subst hv4;go_wp2
   all_goals try omega
   go_ret;rw [HOK2.out];exact ⟨by simp,HALL.out⟩
  have g2:((v4:Int)==0)=false:=by simp;omega
  go_wp2
  all_goals try omega
  go_ret;rw [HOK2.out,KZ8 hv4];exact ⟨by simp,HALL.out⟩
 have g1:((kind:Int)==1)=false:=by simp;omega
 clear hb0 hz0;have HBA:=KZ9 hbA;have hem:((mk name).toList==([]:Bs))=decide (name=[]):=by rw [toList_mk'];cases name<;>rfl
 obtain ⟨ne,hne⟩:=KZ6 (decide (name=[]));rw [←hne] at hem HOK;clear hbA hne;by_cases k2:kind=2
 ·subst k2;have HOK2:Hid (zT ⟨2,name,v4,[a,b,c,d,e,f,g,i]⟩=(ne&&qv)):=KZ9 (HOK.out.trans ((if_neg (by decide)).trans (if_pos rfl)));clear HOK;cases ne
  ·go_wp2
   all_goals try omega
   go_ret;rw [HOK2.out];exact ⟨rfl,HBA.out⟩
  go_wp2
  all_goals try omega
  go_ret;rw [HOK2.out];exact ⟨by simp,HBA.out⟩
 have g2:((kind:Int)==2)=false:=by simp;omega
 by_cases k3:kind=3
 ·subst k3;have HOK2:Hid (zT ⟨3,name,v4,[a,b,c,d,e,f,g,i]⟩=(ne&&decide (v4=0))):=KZ9 (HOK.out.trans ((if_neg (by decide)).trans ((if_neg (by decide)).trans (if_pos rfl))));clear HOK;cases ne
  ·go_wp2
   all_goals try omega
   go_ret;rw [HOK2.out];exact ⟨rfl,HBA.out⟩
  by_cases hv4:v4=0
  ·subst hv4;go_wp2
   all_goals try omega
   go_ret;rw [HOK2.out];exact ⟨by simp,HBA.out⟩
  have g3:((v4:Int)==0)=false:=by simp;omega
  go_wp2
  all_goals try omega
  go_ret;rw [HOK2.out,KZ8 hv4];exact ⟨by simp,HBA.out⟩
 have g3:((kind:Int)==3)=false:=by simp;omega
 have HOK2:Hid (zT ⟨kind,name,v4,[a,b,c,d,e,f,g,i]⟩=false):=KZ9 (HOK.out.trans ((if_neg k1).trans ((if_neg k2).trans (if_neg k3))));clear HOK;go_wp2
 all_goals try omega
 go_ret;rw [HOK2.out];exact ⟨rfl,HBA.out⟩
theorem VG (h:HostP) (w:World) (hw:ym h) (hn:h.name.length≤100000):Calls Tryz.prog 96 #[.agg (zc h).toArray] w fun e w'=>e= .returned (.string (mk (yf h)))∧Below w.heap.size w w':=by
 obtain ⟨W0,hW0⟩:=KZ6 (w.alloc (.cells (zc h).toArray 60));have hbA:Below w.heap.size w W0:=by rw [hW0];exact (Below.refl _ w).alloc (Nat.le_refl _) _
 have hb0:BlkL W0 w.heap.size 60 (zc h):=by rw [hW0];exact BlkL.new w _ _
 have HW0:Hid (w.alloc (.cells (zc h).toArray 60)=W0):=KZ9 hW0.symm;have hsz:W0.heap.size=w.heap.size+1:=by rw [hW0];simp
 have HV:=KZ9 (pE h W0 hw hn);have HI:=KZ9 (xI hw.1);have HB0:=KZ9 hb0;clear hW0;go_enter Tryz.func96,Tryz.ntmps96
 go_upto_region 1 with fail
 rw [HW0.out];clear HW0;go_wp2_with (refine wpList_load_row rfl 60 (.tmp 1) rfl w.heap.size rfl 60 _ _ _ HB0.out Tryz.underlying60 rfl HI.out ?_)
 refine HV.out.mono ?_;rintro e w1 ⟨rfl,hb1⟩;have HALL:=KZ9 (hbA.trans (hb1.mono (by omega)));have hb2:=hb0.below (by omega) hb1;clear hb1 HB0 hb0 HV hbA;obtain ⟨ok,hok⟩:=KZ6 (zT h);rw [←hok];cases ok
 ·have hfin:=KZ9 (Wq hok.symm);clear hok;go_wp2;go_ret;rw [hfin.out];exact ⟨rfl,HALL.out⟩
 obtain ⟨kind,name,v4,v6⟩:=h;simp only at hn;have c0:=hb2.c 0 _ (wG _).1;have c1:=hb2.c 1 _ (wG _).2.1;have c2:=hb2.c 2 _ (wG _).2.2.1;simp only at c0 c1 c2;rcases tb hok.symm with rfl | rfl | rfl
 ·have hfin:=KZ9 (Th hok.symm);clear hok hb2;go_wp2;go_ret;rw [hfin.out];exact ⟨rfl,HALL.out⟩
 ·have hfin:=KZ9 (Tg hok.symm);have HF:=KZ9 (VM v4 w1 hw.2.2);clear hok hb2;go_wp2_with fail
  refine HF.out.mono ?_;rintro e w2 ⟨rfl,hb3⟩;go_wp2;go_ret;rw [hfin.out];exact ⟨rfl,HALL.out.trans (hb3.mono (by have:=HALL.out.size;omega))⟩
 have hfin:=KZ9 (Tf hok.symm);have HF:=KZ9 (VK v6 w1 hw.1 hw.2.1);have hln:=pi v6 ⟨hw.1,hw.2.1⟩;have HR:=KZ9 (hb2.range 3 (zg v6) (fun j v hj=>by rw [(wG _).2.2.2 j];exact hj));have HIA:=KZ9 (show (Tryz.prog.info? 58).map (·.size)=some (zg v6).length by rw [zC,yc,hw.1]);clear hok hb2;go_wp2_with (refine wpList_load_mid rfl 58 (.tmp 17) rfl w.heap.size 3 rfl (zg v6) _ HR.out Tryz.underlying58 rfl HIA.out ?_)
 refine HF.out.mono ?_;rintro e w2 ⟨rfl,hb3⟩;have hs2:(mk (vM v6)).size≤44:=by rw [zh];exact hln
 go_wp2
 all_goals try omega
 go_ret;rw [hfin.out];exact ⟨rfl,HALL.out.trans (hb3.mono (by have:=HALL.out.size;omega))⟩
theorem vu {P : Program} (d : Nat) (xs ys : Array Value) (f : Field) (fs : List Field) (W : World) (va vb : Value) (r : Bool) (hn : f.name ≠ "_") (ha : (part f.type xs f.offset).run P W = .ok va W) (hb : (part f.type ys f.offset).run P W = .ok vb W) (he : (Op.equalIn d f.type va vb).run P W = .ok r W) :
  (Op.eqFields d xs ys (f::fs)).run P W=if r=true then (Op.eqFields d xs ys fs).run P W else .ok false W:=by
 rw [Op.eqFields,if_pos hn];simp only [Sem.run_bind,ha,hb,he,Result.andThen_ok];cases r<;>simp
theorem ui {P:Program} {t:TypeId} {d:TypeDesc} {n:Nat} (hu:P.underlying t=some d) (hd:d.isRow=true) (hi:(P.info? t).map (·.size)=some n) (cs:Array Value) (off:Nat) (W:World):(part t cs off).run P W= .ok (.agg (cs.extract off (off+n))) W:=by
 cases hq:P.info? t with
 | none=>simp [hq] at hi
 | some i =>
  have hs:i.size=n:=by simpa [hq] using hi
  have hagg:(isAgg t).run P W= .ok true W:=by
   unfold isAgg;rw [Sem.run_bind,run_underlying hu W];cases d<;>simp_all
  simp [part,Sem.run_bind,hagg,sizeOf,typeInfo,hq,hs]
theorem QP (d:Nat) (a b:List Nat) (ha:a.length=8) (hb:b.length=8) (W:World):(Op.equalIn (d+2) 58 (.agg (zg a).toArray) (.agg (zg b).toArray)).run Tryz.prog W= .ok (decide (a=b)) W:=by
 obtain ⟨i,hi,_⟩:=Option.map_eq_some_iff.1 tI;have h:=run_equalIn_array W (d+1) (zg a).toArray (zg b).toArray Tryz.underlying58 hi;rw [Tt,YS d a b W _ (fun j hj=>by have:=List.mem_range.1 hj;omega)] at h;refine h.trans ?_;have key:(∀ i∈List.range 8,a[i]? =b[i]?)↔a=b:=by
  constructor
  ·intro hh;apply List.ext_getElem?;intro j;by_cases hj:j<8
   ·exact hh j (List.mem_range.2 hj)
   rw [List.getElem?_eq_none (by omega),List.getElem?_eq_none (by omega)]
  intro e j _;rw [e]
 rw [decide_eq_decide.2 key]
theorem Uj:Tryz.prog.underlying 60=some (.struct (Tryz.prog.fieldsOf 60)):=by kernel_rfl
theorem TG:Tryz.prog.underlying 62=some (.struct (Tryz.prog.fieldsOf 62)):=by kernel_rfl
theorem Qf (h:HostP) (h8:h.v6.length=8):(zc h).toArray.extract 3 (3+8)=(zg h.v6).toArray:=by
 apply Array.ext';rw [Array.toList_extract];have:((zc h).drop 3)=zg h.v6:=rfl;simp only [List.extract_eq_take_drop];show ((zc h).drop 3).take (3+8 - 3)=_;rw [this];exact List.take_of_length_le (by simp [h8])
theorem WD (u:UrlP) (h8:u.host.v6.length=8):(za u).toArray.extract 2 (2+11)=(zc u.host).toArray:=by
 apply Array.ext';rw [Array.toList_extract];simp only [List.extract_eq_take_drop];show ((za u).drop 2).take (2+11 - 2)=_;have:(za u).drop 2=zc u.host++[.int .i64 u.port,.string (mk u.rest)]:=rfl;rw [this,List.take_left' (by rw [xR h8])]
theorem YL (a b:Bs):((mk a).toList==(mk b).toList)=decide (a=b):=by
 rw [toList_mk',toList_mk'];by_cases h:a=b<;>simp [h]
theorem PB : (Tryz.prog.fieldsOf 60).toList.map (fun f => (f.name, f.type, f.offset)) = [("Kind", 3, 0), ("Name", 9, 1), ("V4", 56, 2), ("V6", 58, 3)] := by kernel_rfl
theorem QZ : (Tryz.prog.fieldsOf 62).toList.map (fun f => (f.name, f.type, f.offset)) = [("Scheme", 9, 0), ("User", 9, 1), ("Host", 60, 2), ("Port", 3, 13), ("Rest", 9, 14)] := by kernel_rfl
theorem xt {α β:Type} {f:α→β} {l:List α} {b:β} {r:List β} (h:l.map f=b::r):∃ a t,l=a::t∧f a=b∧t.map f=r:=by
 cases l with
 | nil=>cases h
 | cons a t=>simp at h;exact ⟨a,t,rfl,h.1,h.2⟩
theorem R4 (d:Nat) (a b:HostP) (ha:a.v6.length=8) (hb:b.v6.length=8) (W:World):(Op.equalIn (d+4) 60 (.agg (zc a).toArray) (.agg (zc b).toArray)).run Tryz.prog W= .ok (decide (a=b)) W:=by
 rw [run_equalIn_struct W (d+3) _ _ _ Uj (by kernel_rfl)];have hl:=PB;generalize (Tryz.prog.fieldsOf 60).toList=L at hl;obtain ⟨f0,t0,rfl,e0,hl⟩:=xt hl;obtain ⟨f1,t1,rfl,e1,hl⟩:=xt hl;obtain ⟨f2,t2,rfl,e2,hl⟩:=xt hl;obtain ⟨f3,t3,rfl,e3,hl⟩:=xt hl;obtain rfl:t3=[]:=by simpa using hl
 simp only [Prod.mk.injEq] at e0 e1 e2 e3;obtain ⟨k0,v0,x0,g0⟩:=a;obtain ⟨k1,v1,x1,g1⟩:=b;simp only at ha hb;rw [vu _ _ _ f0 _ W (.int .i64 (k0:Int)) (.int .i64 (k1:Int)) (decide (k0=k1)) (by rw [e0.1];decide) (by rw [e0.2.1,e0.2.2];exact run_part_plain W (by kernel_rfl) rfl) (by rw [e0.2.1,e0.2.2];exact run_part_plain W (by kernel_rfl) rfl) (by rw [e0.2.1,run_equalIn_int W (d+2) _ .i64 .i64 _ _ Tryz.underlying3];congr 1;by_cases h:k0=k1<;>simp [h]<;>omega)];rw [vu _ _ _ f1 _ W (.string (mk v0)) (.string (mk v1)) (decide (v0=v1)) (by rw [e1.1];decide) (by rw [e1.2.1,e1.2.2];exact run_part_plain W (by kernel_rfl) rfl) (by rw [e1.2.1,e1.2.2];exact run_part_plain W (by kernel_rfl) rfl) (by rw [e1.2.1,run_equalIn_string W (d+2) _ _ _ Tryz.underlying9,YL])]
 rw [vu _ _ _ f2 _ W (.int .u32 (x0:Int)) (.int .u32 (x1:Int)) (decide (x0=x1)) (by rw [e2.1];decide) (by rw [e2.2.1,e2.2.2];exact run_part_plain W (by kernel_rfl) rfl) (by rw [e2.2.1,e2.2.2];exact run_part_plain W (by kernel_rfl) rfl) (by rw [e2.2.1,run_equalIn_int W (d+2) _ .u32 .u32 _ _ Tryz.underlying56];congr 1;by_cases h:x0=x1<;>simp [h]<;>omega)];rw [vu _ _ _ f3 _ W (.agg (zg g0).toArray) (.agg (zg g1).toArray) (decide (g0=g1)) (by rw [e3.1];decide) (by rw [e3.2.1,e3.2.2,ui Tryz.underlying58 rfl zC];congr 2;exact Qf ⟨k0,v0,x0,g0⟩ ha) (by rw [e3.2.1,e3.2.2,ui Tryz.underlying58 rfl zC];congr 2;exact Qf ⟨k1,v1,x1,g1⟩ hb) (by rw [e3.2.1];exact QP (d+1) g0 g1 ha hb W)];simp only [Op.eqFields,Sem.run_pure,HostP.mk.injEq];by_cases h0:k0=k1<;>by_cases h1:v0=v1<;>by_cases h2:x0=x1<;>by_cases h3:g0=g1<;>simp [h0,h1,h2,h3]
theorem QX (d:Nat) (a b:UrlP) (ha:a.host.v6.length=8) (hb:b.host.v6.length=8) (W:World):(Op.equalIn (d+5) 62 (.agg (za a).toArray) (.agg (za b).toArray)).run Tryz.prog W= .ok (decide (a=b)) W:=by
 rw [run_equalIn_struct W (d+4) _ _ _ TG (by kernel_rfl)];have hl:=QZ;generalize (Tryz.prog.fieldsOf 62).toList=L at hl;obtain ⟨f0,t0,rfl,e0,hl⟩:=xt hl;obtain ⟨f1,t1,rfl,e1,hl⟩:=xt hl;obtain ⟨f2,t2,rfl,e2,hl⟩:=xt hl;obtain ⟨f3,t3,rfl,e3,hl⟩:=xt hl;obtain ⟨f4,t4,rfl,e4,hl⟩:=xt hl;obtain rfl:t4=[]:=by simpa using hl
 simp only [Prod.mk.injEq] at e0 e1 e2 e3 e4;have p3:∀ u:UrlP,u.host.v6.length=8→(za u).toArray[13]? =some (.int .i64 u.port)∧(za u).toArray[14]? =some (.string (mk u.rest)):=fun u h8=>by
  have e6:za u=([.string (mk u.scheme),.string (mk u.user)]++zc u.host)++[.int .i64 u.port,.string (mk u.rest)]:=by simp [za]
  constructor
  ·rw [List.getElem?_toArray,e6,List.getElem?_append_right (by simp [xR h8])];simp [xR h8]
  rw [List.getElem?_toArray,e6,List.getElem?_append_right (by simp [xR h8])];simp [xR h8]
 have pa:=p3 a ha;have pb:=p3 b hb;rw [vu _ _ _ f0 _ W (.string (mk a.scheme)) (.string (mk b.scheme)) (decide (a.scheme=b.scheme)) (by rw [e0.1];decide) (by rw [e0.2.1,e0.2.2];exact run_part_plain W (by kernel_rfl) rfl) (by rw [e0.2.1,e0.2.2];exact run_part_plain W (by kernel_rfl) rfl) (by rw [e0.2.1,run_equalIn_string W (d+3) _ _ _ Tryz.underlying9,YL])];rw [vu _ _ _ f1 _ W (.string (mk a.user)) (.string (mk b.user)) (decide (a.user=b.user)) (by rw [e1.1];decide) (by rw [e1.2.1,e1.2.2];exact run_part_plain W (by kernel_rfl) rfl) (by rw [e1.2.1,e1.2.2];exact run_part_plain W (by kernel_rfl) rfl) (by rw [e1.2.1,run_equalIn_string W (d+3) _ _ _ Tryz.underlying9,YL])]
 rw [vu _ _ _ f2 _ W (.agg (zc a.host).toArray) (.agg (zc b.host).toArray) (decide (a.host=b.host)) (by rw [e2.1];decide) (by rw [e2.2.1,e2.2.2,ui Tryz.underlying60 rfl zx];congr 2;exact WD a ha) (by rw [e2.2.1,e2.2.2,ui Tryz.underlying60 rfl zx];congr 2;exact WD b hb) (by rw [e2.2.1];exact R4 d a.host b.host ha hb W)];rw [vu _ _ _ f3 _ W (.int .i64 a.port) (.int .i64 b.port) (decide (a.port=b.port)) (by rw [e3.1];decide) (by rw [e3.2.1,e3.2.2];exact run_part_plain W (by kernel_rfl) pa.1) (by rw [e3.2.1,e3.2.2];exact run_part_plain W (by kernel_rfl) pb.1) (by rw [e3.2.1,run_equalIn_int W (d+3) _ .i64 .i64 _ _ Tryz.underlying3];rfl)]
 rw [vu _ _ _ f4 _ W (.string (mk a.rest)) (.string (mk b.rest)) (decide (a.rest=b.rest)) (by rw [e4.1];decide) (by rw [e4.2.1,e4.2.2];exact run_part_plain W (by kernel_rfl) pa.2) (by rw [e4.2.1,e4.2.2];exact run_part_plain W (by kernel_rfl) pb.2) (by rw [e4.2.1,run_equalIn_string W (d+3) _ _ _ Tryz.underlying9,YL])];simp only [Op.eqFields,Sem.run_pure];obtain ⟨s0,r0,h0,q0,z0⟩:=a;obtain ⟨s1,r1,h1,q1,z1⟩:=b;simp only [UrlP.mk.injEq];by_cases c0:s0=s1<;>by_cases c1:r0=r1<;>by_cases c2:h0=h1<;>by_cases c3:q0=q1<;>by_cases c4:z0=z1<;>simp [c0,c1,c2,c3,c4]
theorem SZ (a b:UrlP) (ha:a.host.v6.length=8) (hb:b.host.v6.length=8) (W:World):(Op.equalIn 10000 62 (.agg (za a).toArray) (.agg (za b).toArray)).run Tryz.prog W= .ok (decide (a=b)) W:=QX 9995 a b ha hb W
theorem kF {l:Bs} {v:UrlP} (h:yG l=some v):ym v.host:=by
 unfold yG at h;split at h
 ·cases h
 split at h
 ·cases h
 split at h
 ·unfold xX at h;split at h
  ·cases h;exact vV
  split at h
  ·exact ky h
  cases h
 cases h
theorem Yn (s:ByteArray) (w:World) (hB:Base w) (hs:s.size≤100000) (hT:okT (un s)):Calls Tryz.prog 35 #[.string s] w (uS (sI (un s)) w.heap.size w):=by
 have hlen:(un s).length=s.size:=zb s;obtain ⟨W0,hW0⟩:=KZ6 (w.alloc (.cells (za zu).toArray 62));have hbA:Below w.heap.size w W0:=by rw [hW0];exact (Below.refl _ w).alloc (Nat.le_refl _) _
 have hr0:BlkL W0 w.heap.size 62 (za zu):=by rw [hW0];exact BlkL.new w _ _
 have HW0:Hid (w.alloc (.cells #[.string ⟨#[]⟩,.string ⟨#[]⟩,.int .i64 0,.string ⟨#[]⟩,.int .u32 0,.int .u16 0,.int .u16 0,.int .u16 0,.int .u16 0,.int .u16 0,.int .u16 0,.int .u16 0,.int .u16 0,.int .i64 0,.string ⟨#[]⟩] 62)=W0):=KZ9 hW0.symm;have hsz:W0.heap.size=w.heap.size+1:=by rw [hW0];simp
 have HP:=KZ9 (UN s W0 (hB.below hbA) hs hT);have HBA:=KZ9 hbA;have HR0:=KZ9 hr0;clear hW0 hbA hr0;by_cases hbig:2048<s.size
 ·have hfin:Hid (sI (un s)=none):=KZ9 (if_pos (by omega));have g1:decide ((2048:Int)<(s.size:Int))=true:=KZ7 (by omega);go_enter Tryz.func35,Tryz.ntmps35
  go_upto_region 1 with fail
  rw [HW0.out];clear HW0 HP;go_wp2_with (first
   | refine wpList_store_row rfl 62 (.tmp 2) (.tmp 7) rfl w.heap.size (za zu).toArray rfl rfl 62 _ HR0.out zN rfl (ze (yk zu)) ?_)
  all_goals try omega
  refine bodyPost_ret (zf rfl _ _ w.heap.size 62 _ _ rfl (HR0.out.setRow (za zu)) Tryz.underlying62 rfl zN) rfl ?_;exact ⟨⟨zu,3,rfl,.inr ⟨by decide,rfl,hfin.out⟩⟩,below_setRow HBA.out (Nat.le_refl _) _⟩
 have hfin:Hid (sI (un s)=yG (un s)):=KZ9 (if_neg (by omega));have g1:decide ((2048:Int)<(s.size:Int))=false:=KZ8 (by omega);go_enter Tryz.func35,Tryz.ntmps35
 go_upto_region 1 with fail
 rw [HW0.out];clear HW0;go_wp2_with fail
 all_goals try omega
 refine HP.out.mono ?_;rintro e w7 ⟨⟨v,c,rfl,hres⟩,hb7⟩;have hw:ym v.host:=by
  rcases hres with ⟨_,h2⟩ | ⟨_,h2,_⟩
  ·exact kF h2
  rw [h2];exact vV
 have HI:=KZ9 (zV hw.1);have HSZ:=KZ9 (show (za zu).toArray.size=(za v).toArray.size by rw [List.size_toArray,List.size_toArray,xo hw.1];rfl);have HR8:=KZ9 (HR0.out.below (by omega) hb7);have HA8:=KZ9 (HBA.out.trans (hb7.mono (by omega)));have HRES:=KZ9 hres;clear hb7 hres hw HP HR0 HBA;go_wp2_with (first
  | refine wpList_store_row rfl 62 (.tmp 2) (.tmp 10) rfl w.heap.size (za v).toArray rfl rfl 62 _ HR8.out HI.out HSZ.out (ze (yk v)) ?_)
 all_goals try omega
 refine bodyPost_ret (zf rfl _ _ w.heap.size 62 _ _ rfl (HR8.out.setRow (za v)) Tryz.underlying62 rfl HI.out) rfl ?_;refine ⟨⟨v,c,rfl,?_⟩,below_setRow HA8.out (Nat.le_refl _) _⟩;rw [hfin.out];exact HRES.out
def tS (u:UrlP):Prop:=u.scheme.length≤20000∧u.user.length≤20000∧u.host.name.length≤20000∧u.rest.length≤20000∧(u.port= -1∨∃ n:Nat,u.port=(n:Int)∧n≤65535)
def wl (u:UrlP):Bs:=if u.user=[] then [] else u.user++[64]
def qH (u:UrlP):Bs:=if u.port= -1 then [] else 58::Lib.itoa u.port
theorem sK {u:UrlP} (h:zv u.scheme<0):xd u=u.scheme++58::u.rest:=if_pos h
theorem textU_spec {u:UrlP} (h:¬ zv u.scheme<0):xd u=u.scheme++([58,47,47]++(wl u++(yf u.host++(qH u++u.rest)))):=if_neg h
theorem k9 (n:Nat):Lib.itoa (n:Int)=Lib.decDigits n:=by unfold Lib.itoa;rw [if_neg (by omega)];simp
theorem pr (u:UrlP):(za u)[0]? =some (.string (mk u.scheme))∧(za u)[1]? =some (.string (mk u.user)):=⟨rfl,rfl⟩
theorem vP (u:UrlP) (h8:u.host.v6.length=8):(za u)[13]? =some (.int .i64 u.port)∧(za u)[14]? =some (.string (mk u.rest))∧∀ j v,(zc u.host)[j]? =some v→(za u)[2+j]? =some v:=by
 have e6:za u=([.string (mk u.scheme),.string (mk u.user)]++zc u.host)++[.int .i64 u.port,.string (mk u.rest)]:=by simp [za]
 refine ⟨?_,?_,fun j v hj=> ?_⟩
 ·rw [e6,List.getElem?_append_right (by simp [xR h8])];simp [xR h8]
 ·rw [e6,List.getElem?_append_right (by simp [xR h8])];simp [xR h8]
 have hjl:=(List.getElem?_eq_some_iff.1 hj).1;have e7:za u=[.string (mk u.scheme),.string (mk u.user)]++(zc u.host++[.int .i64 u.port,.string (mk u.rest)]):=rfl;rw [e7,List.getElem?_append_right (by simp),List.getElem?_append_left (by simp;omega)]
 simpa using hj
theorem pR {h:HostP} (hw:ym h) (hn:h.name.length≤20000):(yf h).length≤20000:=by
 unfold yf;split
 ·split
  ·exact hn
  ·have:=Wz h.v4 4;rw [gt] at this;simp at this;omega
  have:=pi h.v6 ⟨hw.1,hw.2.1⟩;simp;omega
 simp
theorem S0 (u:UrlP) (w:World) (hB:Base6 w) (hw:ym u.host) (hb:tS u):Calls Tryz.prog 110 #[.agg (za u).toArray] w fun e w'=>e= .returned (.string (mk (xd u)))∧Below w.heap.size w w':=by
 obtain ⟨W0,hW0⟩:=KZ6 (w.alloc (.cells (za u).toArray 62));have hbA:Below w.heap.size w W0:=by rw [hW0];exact (Below.refl _ w).alloc (Nat.le_refl _) _
 have hb0:BlkL W0 w.heap.size 62 (za u):=by rw [hW0];exact BlkL.new w _ _
 have HW0:Hid (w.alloc (.cells (za u).toArray 62)=W0):=KZ9 hW0.symm;have hsz:W0.heap.size=w.heap.size+1:=by rw [hW0];simp
 have B0:=hB.below hbA;have HF:=KZ9 (gh u.host W0 B0 hw (by have:=hb.2.2.1;omega));have hhl:=pR hw hb.2.2.1;obtain ⟨hb1,hb2,hb3,hb4,hb5⟩:=hb;have g:=pr u;have g2:=vP u hw.1;have c0:=hb0.c 0 _ g.1;have c1:=hb0.c 1 _ g.2;have c13:=hb0.c 13 _ g2.1;have c14:=hb0.c 14 _ g2.2.1;have HRG:=KZ9 (hb0.range 2 (zc u.host) g2.2.2);have HIH:=KZ9 (show (Tryz.prog.info? 60).map (·.size)=some (zc u.host).length by rw [zx,xR hw.1]);have HBA:=KZ9 hbA;have HB0:=KZ9 hb0;have HBB:=KZ9 hB;have hs1:(mk u.scheme).size≤20000:=by rw [zh];exact hb1
 have hs2:(mk u.user).size≤20000:=by rw [zh];exact hb2
 have hs4:(mk u.rest).size≤20000:=by rw [zh];exact hb4
 have hs5:(mk (yf u.host)).size≤20000:=by rw [zh];exact hhl
 have hsp:=fun W=>tB (mk u.scheme) W;simp only [zj] at hsp;have hpc:=yr u.scheme;clear hW0 hbA hb0 hB g g2;by_cases hp:zv u.scheme<0
 ·have hfin:=KZ9 (sK hp);have hdec:decide (0<zv u.scheme)=false:=KZ8 (by omega);simp only [hdec] at hsp;have HSP:=KZ9 hsp;clear hsp hdec hpc hp;go_enter Tryz.func110,Tryz.ntmps110
  go_upto_region 1 with fail
  rw [HW0.out];clear HW0;go_wp2_with fail
  refine (HSP.out _).mono ?_;rintro e w5 ⟨rfl,rfl⟩;go_wp2
  all_goals try omega
  go_ret;refine ⟨?_,HBA.out⟩;rw [hfin.out];have:mk (u.scheme++58::u.rest)=(mk u.scheme++⟨#[58]⟩)++mk u.rest:=by
   rw [show u.scheme++58::u.rest=(u.scheme++[58])++u.rest by simp,zK,zK];rfl
  rw [this];rfl
 have hfin:=KZ9 (textU_spec hp);have hdec:decide (0<zv u.scheme)=true:=KZ7 (by omega);simp only [hdec] at hsp;have HSP:=KZ9 hsp;clear hsp hdec hpc hp;have hem:((mk u.user).toList==([]:Bs))=decide (u.user=[]):=by rw [toList_mk'];cases u.user<;>rfl
 obtain ⟨ue,hue⟩:=KZ6 (decide (u.user=[]));rw [←hue] at hem;have HUE:=KZ9 hue;clear hue;go_enter Tryz.func110,Tryz.ntmps110
 go_upto_region 1 with fail
 rw [HW0.out];clear HW0;go_wp2_with fail
 refine (HSP.out _).mono ?_;rintro e w5 ⟨rfl,rfl⟩;go_upto_if 19 with fail
 all_goals try omega
 go_cut [3] (fun s3 wx=>s3= .string (mk (u.scheme++([58,47,47]++wl u)))∧wx=W0)
 case first =>
  cases ue
  ·have hu:wl u=u.user++[64]:=if_neg (of_decide_eq_false HUE.out.symm);have HU:=KZ9 hu;clear hu;go_wp2
   all_goals try omega
   go_meet;refine ⟨?_,rfl⟩;rw [HU.out,show u.scheme++([58,47,47]++(u.user++[64]))=(u.scheme++[58,47,47])++(u.user++[64]) by simp,zK,zK,zK];rfl
  have hu:wl u=[]:=if_pos (of_decide_eq_true HUE.out.symm);have HU:=KZ9 hu;clear hu;go_wp2
  all_goals try omega
  go_meet;refine ⟨?_,rfl⟩;rw [HU.out,List.append_nil,zK];rfl
 case rest =>
 obtain ⟨rfl,rfl⟩:=hcut;have hul:(mk (u.scheme++([58,47,47]++wl u))).size≤50000:=by
  rw [zh];unfold wl;split<;>simp<;>omega
 obtain ⟨pre,hpre⟩:=KZ6 (u.scheme++([58,47,47]++wl u));rw [←hpre] at hul ⊢;have HPRE:=KZ9 hpre;clear hpre hem HSP;go_wp2_with (first
  | refine wpList_load_mid rfl 60 (.tmp 26) rfl w.heap.size 2 rfl (zc u.host) _ HRG.out Tryz.underlying60 rfl HIH.out ?_)
 all_goals try omega
 refine HF.out.mono ?_;rintro e w6 ⟨rfl,hb6⟩;have HB6:=KZ9 (HB0.out.below (by omega) hb6);have HA6:=KZ9 (HBA.out.trans (hb6.mono (by omega)));have g2:=vP u hw.1;have d13:=HB6.out.c 13 _ g2.1;have d14:=HB6.out.c 14 _ g2.2.1;have hit:=fun n h=>tG n w6 (HBB.out.1.below HA6.out) h;have HIT:=KZ9 hit;have hz1:(mk pre++mk (yf u.host)).size≤70000:=by rw [ByteArray.size_append];omega
 clear hb6 HF g2 c0 c1 c13 c14 hit;rcases hb5 with hm1 | ⟨n,hn,hn2⟩
 ·have hpt:qH u=[]:=if_pos hm1;have HPT:=KZ9 hpt;have g5:(u.port != -1)=false:=by simpa using hm1
  clear hm1 hpt;go_wp2
  all_goals try omega
  go_ret;refine ⟨?_,HA6.out⟩;rw [hfin.out,HPT.out,List.nil_append,show u.scheme++([58,47,47]++(wl u++(yf u.host++u.rest)))=((u.scheme++([58,47,47]++wl u))++yf u.host)++u.rest by simp,←HPRE.out,zK,zK];rfl
 have hpt:qH u=58::Lib.decDigits n:=by unfold qH;rw [if_neg (by omega),hn,k9]
 have HPT:=KZ9 hpt;have g5:(u.port != -1)=true:=by simp;omega
 have hdl:(mk (Lib.decDigits n)).size≤100:=by rw [zh];have:=zX n (by omega);omega
 rw [hn] at d13;have g6:((n:Int) != -1)=true:=by simp
 have hdl2:(Lib.decDigits n).length≤100:=by have:=zX n (by omega);omega
 have hz3:((⟨#[58]⟩:ByteArray)++mk (Lib.decDigits n)).size≤200:=by
  rw [ByteArray.size_append];have:(⟨#[58]⟩:ByteArray).size=1:=rfl;omega
 have hz2:(mk pre++mk (yf u.host)++((⟨#[58]⟩:ByteArray)++mk (Lib.decDigits n))).size≤71000:=by
  rw [ByteArray.size_append,ByteArray.size_append (a:=(⟨#[58]⟩:ByteArray))];have:(⟨#[58]⟩:ByteArray).size=1:=rfl;omega
 clear hpt hn g5;go_wp2_with fail
 all_goals try omega
 refine (HIT.out n (by omega)).mono ?_;rintro e w7 ⟨rfl,hb7⟩;have e14:=(HB6.out.below (by have:=HB6.out.lt;omega) hb7).c 14 _ (vP u hw.1).2.1;have HA7:=KZ9 (HA6.out.trans (hb7.mono HA6.out.size));clear hb7;go_wp2
 all_goals try omega
 go_ret;refine ⟨?_,HA7.out⟩;rw [hfin.out,HPT.out,show u.scheme++([58,47,47]++(wl u++(yf u.host++(58::Lib.decDigits n++u.rest))))=(((u.scheme++([58,47,47]++wl u))++yf u.host)++([58]++Lib.decDigits n))++u.rest by simp,←HPRE.out,zK,zK,zK,zK];rfl
theorem Xy (u:UrlP) (w:World) (hw:ym u.host) (hb:tS u):Calls Tryz.prog 58 #[.agg (za u).toArray] w fun e w'=>e= .returned (.string (mk (xd u)))∧Below w.heap.size w w':=by
 obtain ⟨W0,hW0⟩:=KZ6 (w.alloc (.cells (za u).toArray 62));have hbA:Below w.heap.size w W0:=by rw [hW0];exact (Below.refl _ w).alloc (Nat.le_refl _) _
 have hb0:BlkL W0 w.heap.size 62 (za u):=by rw [hW0];exact BlkL.new w _ _
 have HW0:Hid (w.alloc (.cells (za u).toArray 62)=W0):=KZ9 hW0.symm;have hsz:W0.heap.size=w.heap.size+1:=by rw [hW0];simp
 have HF:=KZ9 (VG u.host W0 hw (by have:=hb.2.2.1;omega));have hhl:=pR hw hb.2.2.1;obtain ⟨hb1,hb2,hb3,hb4,hb5⟩:=hb;have g:=pr u;have g2:=vP u hw.1;have c0:=hb0.c 0 _ g.1;have c1:=hb0.c 1 _ g.2;have c13:=hb0.c 13 _ g2.1;have c14:=hb0.c 14 _ g2.2.1;have HRG:=KZ9 (hb0.range 2 (zc u.host) g2.2.2);have HIH:=KZ9 (show (Tryz.prog.info? 60).map (·.size)=some (zc u.host).length by rw [zx,xR hw.1]);have HBA:=KZ9 hbA;have HB0:=KZ9 hb0;have hs1:(mk u.scheme).size≤20000:=by rw [zh];exact hb1
 have hs2:(mk u.user).size≤20000:=by rw [zh];exact hb2
 have hs4:(mk u.rest).size≤20000:=by rw [zh];exact hb4
 have hs5:(mk (yf u.host)).size≤20000:=by rw [zh];exact hhl
 have hsp:=fun W=>jb (mk u.scheme) W;simp only [zj] at hsp;have hpc:=yr u.scheme;clear hW0 hbA hb0 g g2;by_cases hp:zv u.scheme<0
 ·have hfin:=KZ9 (sK hp);have hdec:decide (0<zv u.scheme)=false:=KZ8 (by omega);simp only [hdec] at hsp;have HSP:=KZ9 hsp;clear hsp hdec hpc hp;go_enter Tryz.func58,Tryz.ntmps58
  go_upto_region 1 with fail
  rw [HW0.out];clear HW0;go_wp2_with fail
  refine (HSP.out _).mono ?_;rintro e w5 ⟨rfl,rfl⟩;go_wp2
  all_goals try omega
  go_ret;refine ⟨?_,HBA.out⟩;rw [hfin.out];have:mk (u.scheme++58::u.rest)=(mk u.scheme++⟨#[58]⟩)++mk u.rest:=by
   rw [show u.scheme++58::u.rest=(u.scheme++[58])++u.rest by simp,zK,zK];rfl
  rw [this];rfl
 have hfin:=KZ9 (textU_spec hp);have hdec:decide (0<zv u.scheme)=true:=KZ7 (by omega);simp only [hdec] at hsp;have HSP:=KZ9 hsp;clear hsp hdec hpc hp;have hem:((mk u.user).toList==([]:Bs))=decide (u.user=[]):=by rw [toList_mk'];cases u.user<;>rfl
 obtain ⟨ue,hue⟩:=KZ6 (decide (u.user=[]));rw [←hue] at hem;have HUE:=KZ9 hue;clear hue;go_enter Tryz.func58,Tryz.ntmps58
 go_upto_region 1 with fail
 rw [HW0.out];clear HW0;go_wp2_with fail
 refine (HSP.out _).mono ?_;rintro e w5 ⟨rfl,rfl⟩;go_upto_if 19 with fail
 all_goals try omega
 go_cut [3] (fun s3 wx=>s3= .string (mk (u.scheme++([58,47,47]++wl u)))∧wx=W0)
 case first =>
  cases ue
  ·have hu:wl u=u.user++[64]:=if_neg (of_decide_eq_false HUE.out.symm);have HU:=KZ9 hu;clear hu;go_wp2
   all_goals try omega
   go_meet;refine ⟨?_,rfl⟩;rw [HU.out,show u.scheme++([58,47,47]++(u.user++[64]))=(u.scheme++[58,47,47])++(u.user++[64]) by simp,zK,zK,zK];rfl
  have hu:wl u=[]:=if_pos (of_decide_eq_true HUE.out.symm);have HU:=KZ9 hu;clear hu;go_wp2
  all_goals try omega
  go_meet;refine ⟨?_,rfl⟩;rw [HU.out,List.append_nil,zK];rfl
 case rest =>
 obtain ⟨rfl,rfl⟩:=hcut;have hul:(mk (u.scheme++([58,47,47]++wl u))).size≤50000:=by
  rw [zh];unfold wl;split<;>simp<;>omega
 obtain ⟨pre,hpre⟩:=KZ6 (u.scheme++([58,47,47]++wl u));rw [←hpre] at hul ⊢;have HPRE:=KZ9 hpre;clear hpre hem HSP;go_wp2_with (first
  | refine wpList_load_mid rfl 60 (.tmp 26) rfl w.heap.size 2 rfl (zc u.host) _ HRG.out Tryz.underlying60 rfl HIH.out ?_)
 all_goals try omega
 refine HF.out.mono ?_;rintro e w6 ⟨rfl,hb6⟩;have HB6:=KZ9 (HB0.out.below (by omega) hb6);have HA6:=KZ9 (HBA.out.trans (hb6.mono (by omega)));have g2:=vP u hw.1;have d13:=HB6.out.c 13 _ g2.1;have d14:=HB6.out.c 14 _ g2.2.1;have hit:=fun (n:Nat) (h:(n:Int)≤9999999999)=>jk (n+1) (n:Int) w6 (by omega) (by omega) h;have HIT:=KZ9 hit;have hz1:(mk pre++mk (yf u.host)).size≤70000:=by rw [ByteArray.size_append];omega
 clear hb6 HF g2 c0 c1 c13 c14 hit;rcases hb5 with hm1 | ⟨n,hn,hn2⟩
 ·have hpt:qH u=[]:=if_pos hm1;have HPT:=KZ9 hpt;have g5:decide ((0:Int)≤u.port)=false:=KZ8 (by omega);have g5b:decide (u.port< -1)=false:=KZ8 (by omega);clear hm1 hpt;go_wp2
  all_goals try omega
  go_ret;refine ⟨?_,HA6.out⟩;rw [hfin.out,HPT.out,List.nil_append,show u.scheme++([58,47,47]++(wl u++(yf u.host++u.rest)))=((u.scheme++([58,47,47]++wl u))++yf u.host)++u.rest by simp,←HPRE.out,zK,zK];rfl
 have hpt:qH u=58::Lib.decDigits n:=by unfold qH;rw [if_neg (by omega),hn,k9]
 have HPT:=KZ9 hpt;have hdl:(mk (Lib.decDigits n)).size≤100:=by rw [zh];have:=zX n (by omega);omega
 rw [hn] at d13;have g6:decide ((0:Int)≤(n:Int))=true:=KZ7 (by omega);have hdl2:(Lib.decDigits n).length≤100:=by have:=zX n (by omega);omega
 have hz3:((⟨#[58]⟩:ByteArray)++mk (Lib.decDigits n)).size≤200:=by
  rw [ByteArray.size_append];have:(⟨#[58]⟩:ByteArray).size=1:=rfl;omega
 have hz2:(mk pre++mk (yf u.host)++((⟨#[58]⟩:ByteArray)++mk (Lib.decDigits n))).size≤71000:=by
  rw [ByteArray.size_append,ByteArray.size_append (a:=(⟨#[58]⟩:ByteArray))];have:(⟨#[58]⟩:ByteArray).size=1:=rfl;omega
 clear hpt hn;go_wp2_with fail
 all_goals try omega
 refine (HIT.out n (by omega)).mono ?_;rintro e w7 ⟨rfl,hb7⟩;have e14:=(HB6.out.below (by have:=HB6.out.lt;omega) hb7).c 14 _ (vP u hw.1).2.1;have HA7:=KZ9 (HA6.out.trans (hb7.mono HA6.out.size));clear hb7;go_wp2
 all_goals try omega
 go_ret;refine ⟨?_,HA7.out⟩;rw [hfin.out,HPT.out,show u.scheme++([58,47,47]++(wl u++(yf u.host++(58::Lib.decDigits n++u.rest))))=(((u.scheme++([58,47,47]++wl u))++yf u.host)++([58]++Lib.decDigits n))++u.rest by simp,←HPRE.out,zK,zK,zK,zK];rfl
theorem Zj {u:UrlP} (hw:ym u.host) (hb:tS u):(xd u).length≤90000:=by
 obtain ⟨h1,h2,h3,h4,h5⟩:=hb;have hh:=pR hw h3;by_cases hp:zv u.scheme<0
 ·rw [sK hp];simp;omega
 rw [textU_spec hp];have hu:(wl u).length≤20001:=by unfold wl;split<;>simp<;>omega
 have hpt:(qH u).length≤20:=by
  unfold qH;rcases h5 with h | ⟨n,hn,hn2⟩
  ·rw [if_pos h];simp
  rw [if_neg (by omega),hn,k9];have:=zX n (by omega);simp;omega
 simp;omega
theorem JH {l:Bs} {v:UrlP} (h:yG l=some v):ym v.host:=kF h
theorem Ym (u:UrlP) (w:World) (hB:Base6 w) (hw:ym u.host) (hb:tS u) (hT:okT (xd u)):Calls Tryz.prog 71 #[.agg (za u).toArray] w fun e w'=>e= .returned (.bool (yR u))∧Below w.heap.size w w':=by
 obtain ⟨W0,hW0⟩:=KZ6 (w.alloc (.cells (za u).toArray 62));have hbA:Below w.heap.size w W0:=by rw [hW0];exact (Below.refl _ w).alloc (Nat.le_refl _) _
 have hb0:BlkL W0 w.heap.size 62 (za u):=by rw [hW0];exact BlkL.new w _ _
 have HW0:Hid (w.alloc (.cells (za u).toArray 62)=W0):=KZ9 hW0.symm;have hsz:W0.heap.size=w.heap.size+1:=by rw [hW0];simp
 have B0:=hB.below hbA;have HTX:=KZ9 (S0 u W0 B0 hw hb);have htl:=Zj hw hb;have hpar:=fun W hb=>UN (mk (xd u)) W hb (by rw [zh];omega) (by rw [zj];exact hT);simp only [zj] at hpar;have HPAR:=KZ9 hpar;have HI0:=KZ9 (zV hw.1);have HB0:=KZ9 hb0;have HBA:=KZ9 hbA;have HBB:=KZ9 hB;have hdef:yR u=decide (yG (xd u)=some u):=rfl;obtain ⟨o,ho⟩:=KZ6 (yG (xd u));rw [←ho] at hdef;simp only [←ho] at HPAR;obtain ⟨tx,htx⟩:=KZ6 (xd u);rw [←htx] at HTX;simp only [←htx] at HPAR;have HDEF:=KZ9 hdef;have HO:=KZ9 ho;clear hW0 hbA hb0 hB hpar hdef ho htx htl hT;go_enter Tryz.func71,Tryz.ntmps71
 go_upto_region 1 with fail
 rw [HW0.out];clear HW0;go_wp2_with (refine wpList_load_row rfl 62 (.tmp 1) rfl w.heap.size rfl 62 _ _ _ HB0.out Tryz.underlying62 rfl HI0.out ?_)
 refine HTX.out.mono ?_;rintro e w1 ⟨rfl,hb1⟩;have hs1:=hb1.size;have HB1:=KZ9 (HB0.out.below (by omega) hb1);have HA1:=KZ9 (HBA.out.trans (hb1.mono (by omega)));clear hb1 HTX HB0 HBA;go_wp2_with fail
 refine (HPAR.out _ (HBB.out.1.below HA1.out)).mono ?_;rintro e w2 ⟨⟨v,c,rfl,hres⟩,hb2⟩;have hs2:=hb2.size;have hv8:v.host.v6.length=8:=by
  rcases hres with ⟨_,h2⟩ | ⟨_,h2,_⟩
  ·exact (JH (HO.out.symm.trans h2)).1
  rw [h2];rfl
 have HI:=KZ9 (zV hv8);have HSZ:=KZ9 (show (za zu).toArray.size=(za v).toArray.size by rw [List.size_toArray,List.size_toArray,xo hv8];rfl);have HN2:=KZ9 (heap_alloc_new w2 (.cells (za zu).toArray 62));have hY4:=(BlkL.new w2 62 (za zu)).setRow (za v);have hb4:=((HB1.out.below (by omega) hb2).alloc (.cells (za zu).toArray 62)).setRow_other (show w.heap.size≠w2.heap.size by omega) (za v).toArray;have hA4:=below_setRow ((HA1.out.trans (hb2.mono (by omega))).alloc (by omega) (.cells (za zu).toArray 62)) (show w.heap.size≤w2.heap.size by omega) (za v).toArray;obtain ⟨W4,hW4⟩:=KZ6 ((w2.alloc (.cells (za zu).toArray 62)).setRow w2.heap.size (za v).toArray);rw [←hW4] at hY4 hb4 hA4
 have HW4:Hid ((w2.alloc (.cells #[.string ⟨#[]⟩,.string ⟨#[]⟩,.int .i64 0,.string ⟨#[]⟩,.int .u32 0,.int .u16 0,.int .u16 0,.int .u16 0,.int .u16 0,.int .u16 0,.int .u16 0,.int .u16 0,.int .u16 0,.int .i64 0,.string ⟨#[]⟩] 62)).setRow w2.heap.size (za v).toArray=W4):=KZ9 hW4.symm;have HA4:=KZ9 hA4;have HB4:=KZ9 hb4;have HY4:=KZ9 hY4;have HRES:=KZ9 hres;have hqq:=SZ u v hw.1 hv8;have HQ:=KZ9 hqq;clear hb2 HPAR HB1 HA1 hW4 hY4 hb4 hA4 hres hqq;go_upto_region 2 with (refine wpList_store_row rfl 62 (.tmp 3) (.tmp 9) rfl w2.heap.size (za v).toArray rfl rfl 62 _ HN2.out HI.out HSZ.out (ze (yk v)) ?_)
 all_goals try omega
 rw [HW4.out];clear HW4 HN2 HI HSZ HI0 hs1 hs2 hsz;rcases HRES.out with ⟨rfl,hok⟩ | ⟨hc,hv0,hno⟩
 ·have hfin:yR u=decide (u=v):=by
   rw [HDEF.out,hok,decide_eq_decide];exact ⟨fun h=>(Option.some.inj h).symm,fun h=>by rw [h]⟩
  have HFIN:=KZ9 hfin;clear hfin hok HDEF HRES HBB hb;obtain ⟨sc,us,⟨kd,nm,va,v6⟩,pt,rs⟩:=u;obtain ⟨scq,usq,⟨kdq,nmq,vaq,v6q⟩,ptq,rsq⟩:=v;obtain ⟨a,b,c,d,e,f,g,i,rfl⟩:=si hw.1;obtain ⟨aq,bq,cq,dq,eq,fq,gq,iq,rfl⟩:=si hv8
  have hq:∀ W,(Op.equalIn 10000 62 (.agg #[.string (mk sc),.string (mk us),.int .i64 (kd:Int),.string (mk nm),.int .u32 (va:Int),.int .u16 (a:Int),.int .u16 (b:Int),.int .u16 (c:Int),.int .u16 (d:Int),.int .u16 (e:Int),.int .u16 (f:Int),.int .u16 (g:Int),.int .u16 (i:Int),.int .i64 pt,.string (mk rs)]) (.agg #[.string (mk scq),.string (mk usq),.int .i64 (kdq:Int),.string (mk nmq),.int .u32 (vaq:Int),.int .u16 (aq:Int),.int .u16 (bq:Int),.int .u16 (cq:Int),.int .u16 (dq:Int),.int .u16 (eq:Int),.int .u16 (fq:Int),.int .u16 (gq:Int),.int .u16 (iq:Int),.int .i64 ptq,.string (mk rsq)])).run Tryz.prog W= .ok (decide ((⟨sc,us,⟨kd,nm,va,[a,b,c,d,e,f,g,i]⟩,pt,rs⟩:UrlP)=⟨scq,usq,⟨kdq,nmq,vaq,[aq,bq,cq,dq,eq,fq,gq,iq]⟩,ptq,rsq⟩)) W:=HQ.out
  obtain ⟨qv,hqv⟩:=KZ6 (decide ((⟨sc,us,⟨kd,nm,va,[a,b,c,d,e,f,g,i]⟩,pt,rs⟩:UrlP)=⟨scq,usq,⟨kdq,nmq,vaq,[aq,bq,cq,dq,eq,fq,gq,iq]⟩,ptq,rsq⟩));rw [←hqv] at hq HFIN;clear hqv HQ hw hv8;obtain ⟨c0,c1,c2,c3,c4,c5,c6,c7,c8,c9,c10,c11,c12,c13,c14⟩:=BlkL.cs15 HB4.out;obtain ⟨z0,z1,z2,z3,z4,z5,z6,z7,z8,z9,z10,z11,z12,z13,z14⟩:=BlkL.cs15 HY4.out;go_wp2
  all_goals try omega
  go_ret;rw [HFIN.out];exact ⟨rfl,HA4.out⟩
 have hfin:yR u=false:=by rw [HDEF.out,hno];rfl
 have HFIN:=KZ9 hfin;have g1:(c==0)=false:=by simpa using hc
 clear hfin hno HDEF HRES hc hv0;go_wp2
 all_goals try omega
 go_ret;rw [HFIN.out];exact ⟨rfl,HA4.out⟩
end Go.Proofs.YtjbciamhhfcdoaaGreatDoor
namespace Hs
open Go
theorem Xl {u:UrlP} (h:zv u.scheme≠80):yd u=u:=if_neg h
theorem Yj {u:UrlP} (h:zv u.scheme=80):yd u=⟨yp u.scheme,u.user,u.host,if u.port=zv (yp u.scheme) then -1 else u.port,u.rest⟩:=if_pos h
theorem jl {u:UrlP} (h:yR u=true):yW u=xd u:=if_pos h
theorem gr {u:UrlP} (h:yR u=false):yW u=[]:=if_neg (by rw [h];simp)
end Hs
namespace Go.Proofs.YtjbciamhhfcdoaaGreatDoor
open Go.RowKit Go.Maps Hs
set_option maxRecDepth 20000
set_option maxHeartbeats 4000000
theorem Xm (u:UrlP) (w:World) (hB:Base6 w) (hw:ym u.host) (hb:tS u) (hT:okT (xd u)):Calls Tryz.prog 112 #[.agg (za u).toArray] w fun e w'=>e= .returned (.string (mk (yW u)))∧Below w.heap.size w w':=by
 obtain ⟨W0,hW0⟩:=KZ6 (w.alloc (.cells (za u).toArray 62));have hbA:Below w.heap.size w W0:=by rw [hW0];exact (Below.refl _ w).alloc (Nat.le_refl _) _
 have hb0:BlkL W0 w.heap.size 62 (za u):=by rw [hW0];exact BlkL.new w _ _
 have HW0:Hid (w.alloc (.cells (za u).toArray 62)=W0):=KZ9 hW0.symm;have hsz:W0.heap.size=w.heap.size+1:=by rw [hW0];simp
 have hv:=Ym u W0 (hB.below hbA) hw hb hT;have hf1:=@jl u;have hf2:=@gr u;obtain ⟨ok,hok⟩:=KZ6 (yR u);rw [←hok] at hv hf1 hf2;have HV:=KZ9 hv;have HF1:=KZ9 hf1;have HF2:=KZ9 hf2;have HTX:=KZ9 (fun W hb'=>S0 u W hb' hw hb);have HI0:=KZ9 (zV hw.1);have HB0:=KZ9 hb0;have HBA:=KZ9 hbA;have HBB:=KZ9 hB;clear hW0 hbA hb0 hB hv hf1 hf2 hok;go_enter Tryz.func112,Tryz.ntmps112
 go_upto_region 1 with fail
 rw [HW0.out];clear HW0;go_wp2_with (refine wpList_load_row rfl 62 (.tmp 1) rfl w.heap.size rfl 62 _ _ _ HB0.out Tryz.underlying62 rfl HI0.out ?_)
 refine HV.out.mono ?_;rintro e w1 ⟨rfl,hb1⟩;have HB1:=KZ9 (HB0.out.below (by omega) hb1);have HA1:=KZ9 (HBA.out.trans (hb1.mono (by omega)));clear hb1 HV HB0 HBA;cases ok
 ·have hfin:=KZ9 (HF2.out rfl);go_wp2;go_ret;rw [hfin.out];exact ⟨rfl,HA1.out⟩
 have hfin:=KZ9 (HF1.out rfl);go_wp2_with (refine wpList_load_row rfl 62 (.tmp 1) rfl w.heap.size rfl 62 _ _ _ HB1.out Tryz.underlying62 rfl HI0.out ?_)
 refine (HTX.out _ (HBB.out.below HA1.out)).mono ?_;rintro e w2 ⟨rfl,hb2⟩;go_wp2;go_ret;rw [hfin.out];exact ⟨rfl,HA1.out.trans (hb2.mono (by have:=HA1.out.size;omega))⟩
theorem jL (u:UrlP) (w:World):Calls Tryz.prog 111 #[.agg (za u).toArray] w fun e w'=>e= .returned (.bool (decide (zv u.scheme=80)))∧Below w.heap.size w w':=by
 obtain ⟨W0,hW0⟩:=KZ6 (w.alloc (.cells (za u).toArray 62));have hbA:Below w.heap.size w W0:=by rw [hW0];exact (Below.refl _ w).alloc (Nat.le_refl _) _
 have hb0:BlkL W0 w.heap.size 62 (za u):=by rw [hW0];exact BlkL.new w _ _
 have HW0:Hid (w.alloc (.cells (za u).toArray 62)=W0):=KZ9 hW0.symm;have c0:=hb0.c 0 _ rfl;have hd:=rq (mk u.scheme) W0;rw [zj] at hd;obtain ⟨p,hp⟩:=KZ6 (zv u.scheme);rw [←hp] at hd ⊢;have HD:=KZ9 hd;have HBA:=KZ9 hbA;have hpb:(p==80)=decide (p=80):=by by_cases h:p=80<;>simp [h]
 have HPB:=KZ9 hpb;clear hW0 hbA hb0 hp hd hpb;go_enter Tryz.func111,Tryz.ntmps111
 go_upto_region 1 with fail
 rw [HW0.out];clear HW0;go_wp2_with fail
 refine HD.out.mono ?_;rintro e w1 ⟨rfl,rfl⟩;go_wp2;go_ret;rw [←HPB.out];exact ⟨rfl,HBA.out⟩
def qA (v:Value):Option (DataW Unit × List MemPlace):=match v with
 | .string s=>some (.lit (.string (un s)),[])
 | _=>none
theorem Xq {v:Value} {b:Bs} {ps:List MemPlace} (h:qA v=some (.lit (.string b),ps)):v= .string (mk b):=by
 unfold qA at h;split at h
 ·simp only [Option.some.injEq,Prod.mk.injEq,DataW.lit.injEq,Lit.string.injEq] at h;rw [←h.1,vd]
 cases h
def mapU1:DataW Unit:=(DataW.map []).put (.string yQ) (.lit (.string zG))
def mapU2:DataW Unit:=mapU1.put (.string bWs) (.lit (.string rK))
theorem mapU1_tidy:Tidy mapU1:=Tidy.put tidy_empty (qX _) _
theorem Pu {s:Bs} (h:s=yQ∨s=bWs):mapU2.atKey (.string s) (.lit (.string []))= .lit (.string (yp s)):=by
 unfold mapU2;rcases h with rfl | rfl
 ·rw [atKey_put_other (by simp [yQ,bWs])];unfold mapU1;rw [atKey_put_same tidy_empty.isMap (qX _)];rfl
 rw [atKey_put_same mapU1_tidy.isMap (qX _)];rfl
theorem SU (w:World):(zeroValue 9).run Tryz.prog w= .ok (.string ⟨#[]⟩) w:=by kernel_rfl
theorem po {w:World} {ops:Array Oper} {rest:List Oper} {o:Oper} {a:Act} {Q:Exit→Act→World→Prop} (hg:o.guard=none) (m x:Operand) (hop:o.op=Op.lookup 193 m x false)
  (b n:Nat) (hm:a.eval m= .map (some b)) (hown:w.ownsMap Tryz.prog 9 qA b n mapU2) (s:Bs) (hx:a.eval x= .string (mk s)) (hs:s=yQ∨s=bWs)
  (hK:wpList Tryz.prog ops Q rest (a.put o.dst (.string (mk (yp s)))) w):wpList Tryz.prog ops Q (o::rest) a w:=by
 have hsl:s.length≤maxLen:=by rcases hs with rfl | rfl<;>simp [yQ,bWs,maxLen]
 have hkey:keyOf Tryz.prog 9 (.string (mk s))=some (.string s):=by rw [WideMaps.keyOf_string_mk Tryz.underlying9 (by rw [zh];exact hsl)];exact congrArg some (congrArg Lit.string (zj s))
 refine wpList_plain hg fun K' hK'=> ?_;obtain ⟨v,ps,hrun,hv⟩:=hown.lookup qz Tryz.underlying193 (SU w) (zd:= .lit (.string [])) (zp:=[]) rfl hkey;rw [Pu hs] at hv;obtain rfl:=Xq hv;unfold Oper.wp;simp [execOp,hop,hm,hx,hrun,Result.andThen];exact hK' _ _ hK
end Go.Proofs.YtjbciamhhfcdoaaGreatDoor
namespace Hs
open Go
theorem Yi {l:Bs} {u:UrlP} (h:sI l=some u):CanU u∧(u.scheme.length+u.user.length)+u.rest.length≤l.length+1:=by
 unfold sI at h;split at h
 ·cases h
 exact Sb h
theorem P9 (u:UrlP):((yd u).scheme.length+(yd u).user.length)+(yd u).rest.length≤(u.scheme.length+u.user.length)+u.rest.length+5:=by
 unfold yd;split
 ·rename_i h;have:(yp u.scheme).length≤u.scheme.length+5:=by
   unfold yp;split<;>simp [zG,rK]<;>omega
  show ((yp u.scheme).length+u.user.length)+u.rest.length≤_;omega
 omega
theorem Vb {u:UrlP} (h:CanU u):u.port= -1∨∃ n:Nat,u.port=(n:Int)∧n≤65535:=by
 rcases yr u.scheme with ⟨e,_⟩ | ⟨e,_⟩ | ⟨e,_⟩
 ·rcases (h.spec (by omega)).2.2.1 with e | ⟨n,e,l,_⟩
  ·exact .inl e
  exact .inr ⟨n,e,by omega⟩
 ·rcases (h.spec (by omega)).2.2.1 with e | ⟨n,e,l,_⟩
  ·exact .inl e
  exact .inr ⟨n,e,by omega⟩
 exact .inl (h.plain (by omega)).2.2
theorem pn {u:UrlP} (h:CanU u):u.host.name.length≤253:=by
 rcases yr u.scheme with ⟨e,_⟩ | ⟨e,_⟩ | ⟨e,_⟩
 ·exact (h.spec (by omega)).2.1.name
 ·exact (h.spec (by omega)).2.1.name
 rw [(h.plain (by omega)).2.1];simp [zk]
theorem gH {u:UrlP} (h:CanU u):u.host.v6.length=8∧(∀ x∈u.host.v6,x<65536)∧u.host.v4<4294967296:=by
 rcases yr u.scheme with ⟨e,_⟩ | ⟨e,_⟩ | ⟨e,_⟩
 ·exact (h.spec (by omega)).2.1.v6
 ·exact (h.spec (by omega)).2.1.v6
 rw [(h.plain (by omega)).2.1];exact ⟨rfl,by decide,by decide⟩
theorem yX (a b:Bs):(a==b)=decide (a=b):=by by_cases h:a=b<;>simp [h]
theorem Wf {h:HostP} (hv:zT h=false):ta h=false:=by unfold ta;rw [hv];rfl
theorem Tb {n:Bs} {v:Nat} {x:List Nat} (hv:zT ⟨1,n,v,x⟩=true):ta ⟨1,n,v,x⟩=xM QN n:=by unfold ta;rw [hv];rfl
theorem Ta {n:Bs} {v:Nat} {x:List Nat} (hv:zT ⟨2,n,v,x⟩=true):ta ⟨2,n,v,x⟩=decide (v / 16777216=127):=by unfold ta;rw [hv];rfl
theorem U9 {n:Bs} {v:Nat} {x:List Nat} (hv:zT ⟨3,n,v,x⟩=true):ta ⟨3,n,v,x⟩=decide (x=[0,0,0,0,0,0,0,1]):=by unfold ta;rw [hv];rfl
theorem Zi {u:UrlP} (h:yR u=false):yv u=false:=by unfold yv;rw [h];rfl
theorem vE {u:UrlP} (h:yR u=true) (hs:u.scheme=zG∨u.scheme=rK∨u.scheme=gM):yv u=true:=by unfold yv;rw [h,if_pos hs];rfl
theorem qt {u:UrlP} (h:yR u=true) (hs:u.scheme=sC):yv u=decide (u.rest=ro∨u.rest=th):=by
 unfold yv;rw [h,if_neg (by rw [hs];decide),if_pos hs];rfl
theorem uW {u:UrlP} (h:yR u=true) (h1:¬ (u.scheme=zG∨u.scheme=rK∨u.scheme=gM)) (h2:u.scheme≠sC):yv u=(decide (0<zv u.scheme)&&ta u.host):=by
 unfold yv;rw [h,if_neg h1,if_neg h2];rfl
end Hs
namespace Go.Proofs.YtjbciamhhfcdoaaGreatDoor
open Go.RowKit Hs
set_option maxRecDepth 20000
set_option maxHeartbeats 4000000
theorem VX (h:HostP) (w:World) (hB:Base w) (hw:ym h) (hn:h.name.length≤100000):Calls Tryz.prog 87 #[.agg (zc h).toArray] w fun e w'=>e= .returned (.bool (ta h))∧Below w.heap.size w w':=by
 obtain ⟨W0,hW0⟩:=KZ6 (w.alloc (.cells (zc h).toArray 60));have hbA:Below w.heap.size w W0:=by rw [hW0];exact (Below.refl _ w).alloc (Nat.le_refl _) _
 have hb0:BlkL W0 w.heap.size 60 (zc h):=by rw [hW0];exact BlkL.new w _ _
 have HW0:Hid (w.alloc (.cells (zc h).toArray 60)=W0):=KZ9 hW0.symm;have hsz:W0.heap.size=w.heap.size+1:=by rw [hW0];simp
 have HV:=KZ9 (jB h W0 (hB.below hbA) hw hn);have HI:=KZ9 (xI hw.1);have HB0:=KZ9 hb0;have HBB:=KZ9 hB;clear hW0 hB;go_enter Tryz.func87,Tryz.ntmps87
 go_upto_region 1 with fail
 rw [HW0.out];clear HW0;go_wp2_with (refine wpList_load_row rfl 60 (.tmp 1) rfl w.heap.size rfl 60 _ _ _ HB0.out Tryz.underlying60 rfl HI.out ?_)
 refine HV.out.mono ?_;rintro e w1 ⟨rfl,hb1⟩;have HALL:=KZ9 (hbA.trans (hb1.mono (by omega)));have hb2:=hb0.below (by omega) hb1;clear hb1 HB0 hb0 HV hbA;obtain ⟨ok,hok⟩:=KZ6 (zT h);rw [←hok];cases ok
 ·have hfin:=KZ9 (Wf hok.symm);clear hok;go_wp2;go_ret;rw [hfin.out];exact ⟨rfl,HALL.out⟩
 obtain ⟨kind,name,v4,v6⟩:=h;simp only at hn;have c0:=hb2.c 0 _ (wG _).1;have c1:=hb2.c 1 _ (wG _).2.1;have c2:=hb2.c 2 _ (wG _).2.2.1;simp only at c0 c1 c2;rcases tb hok.symm with rfl | rfl | rfl
 ·have hfin:=KZ9 (Tb hok.symm);have hcv:=Qb ⟨#[108,111,99,97,108,104,111,115,116]⟩ (mk name) w1 (HBB.out.below HALL.out) (by decide) (by rw [zh];omega);rw [zj] at hcv;have HC:=KZ9 hcv;clear hok hb2 hcv;go_wp2_with fail
  refine HC.out.mono ?_;rintro e w2 ⟨rfl,hb3⟩;go_wp2;go_ret;rw [hfin.out];exact ⟨rfl,HALL.out.trans (hb3.mono (by have:=HALL.out.size;omega))⟩
 ·have hfin:=KZ9 (Ta hok.symm);have hv4:=hw.2.2;simp only at hv4;have e1:(v4:Int) / 16777216=((v4 / 16777216:Nat):Int):=by omega
  obtain ⟨b,hb⟩:=KZ6 (decide (v4 / 16777216=127));rw [←hb] at hfin;have e2:((v4:Int) / 16777216==127)=b:=by
   rw [hb,e1];by_cases h:v4 / 16777216=127
   ·rw [h];rfl
   rw [KZ8 h];simp;omega
  clear hok hb2 hb e1 hv4;go_wp2
  all_goals try omega
  go_ret;rw [hfin.out];exact ⟨rfl,HALL.out⟩
 have hfin:=KZ9 (U9 hok.symm);have HR:=KZ9 (hb2.range 3 (zg v6) (fun j v hj=>by rw [(wG _).2.2.2 j];exact hj));have HIA:=KZ9 (show (Tryz.prog.info? 58).map (·.size)=some (zg v6).length by rw [zC,yc,hw.1]);have hq:∀ W,(Op.equalIn 10000 58 (.agg (zg v6).toArray) (.agg #[.int .u16 0,.int .u16 0,.int .u16 0,.int .u16 0,.int .u16 0,.int .u16 0,.int .u16 0,.int .u16 1])).run Tryz.prog W= .ok (decide (v6=[0,0,0,0,0,0,0,1])) W:=jE v6 [0,0,0,0,0,0,0,1] hw.1 rfl;obtain ⟨b,hb⟩:=KZ6 (decide (v6=[0,0,0,0,0,0,0,1]));rw [←hb] at hfin hq;clear hok hb2 hb;go_wp2_with (refine wpList_load_mid rfl 58 (.tmp 16) rfl w.heap.size 3 rfl (zg v6) _ HR.out Tryz.underlying58 rfl HIA.out ?_)
 all_goals try omega
 go_ret;rw [hfin.out];exact ⟨rfl,HALL.out⟩
theorem YI (u:UrlP) (w:World) (hB:Base6 w) (hw:ym u.host) (hb:tS u) (hT:okT (xd u)):Calls Tryz.prog 48 #[.agg (za u).toArray] w fun e w'=>e= .returned (.bool (yv u))∧Below w.heap.size w w':=by
 obtain ⟨W0,hW0⟩:=KZ6 (w.alloc (.cells (za u).toArray 62));have hbA:Below w.heap.size w W0:=by rw [hW0];exact (Below.refl _ w).alloc (Nat.le_refl _) _
 have hb0:BlkL W0 w.heap.size 62 (za u):=by rw [hW0];exact BlkL.new w _ _
 have HW0:Hid (w.alloc (.cells (za u).toArray 62)=W0):=KZ9 hW0.symm;have hsz:W0.heap.size=w.heap.size+1:=by rw [hW0];simp
 have HV:=KZ9 (Ym u W0 (hB.below hbA) hw hb hT);have HI0:=KZ9 (zV hw.1);have HB0:=KZ9 hb0;have HBA:=KZ9 hbA;have HBB:=KZ9 hB;have hn:=hb.2.2.1;clear hW0 hbA hb0 hB hT hb;go_enter Tryz.func48,Tryz.ntmps48
 go_upto_region 1 with fail
 rw [HW0.out];clear HW0;go_wp2_with (refine wpList_load_row rfl 62 (.tmp 1) rfl w.heap.size rfl 62 _ _ _ HB0.out Tryz.underlying62 rfl HI0.out ?_)
 refine HV.out.mono ?_;rintro e w1 ⟨rfl,hb1⟩;have hb2:=HB0.out.below (by omega) hb1;have HA1:=KZ9 (HBA.out.trans (hb1.mono (by omega)));clear hb1 HV HB0 HBA;obtain ⟨ok,hok⟩:=KZ6 (yR u);rw [←hok];cases ok
 ·have hfin:=KZ9 (Zi hok.symm);clear hok;go_wp2;go_ret;rw [hfin.out];exact ⟨rfl,HA1.out⟩
 have c0:=hb2.c 0 _ (pr u).1;have e1:((mk u.scheme).toList==([104,116,116,112,115]:Bs))=decide (u.scheme=zG):=by rw [toList_mk'];exact yX _ _
 have e2:((mk u.scheme).toList==([119,115,115]:Bs))=decide (u.scheme=rK):=by rw [toList_mk'];exact yX _ _
 have e3:((mk u.scheme).toList==([102,105,108,101]:Bs))=decide (u.scheme=gM):=by rw [toList_mk'];exact yX _ _
 have e4:((mk u.scheme).toList==([97,98,111,117,116]:Bs))=decide (u.scheme=sC):=by rw [toList_mk'];exact yX _ _
 by_cases h1:u.scheme=zG
 ·have hfin:=KZ9 (vE hok.symm (.inl h1));rw [KZ7 h1] at e1;clear hok h1 e2 e3 e4;go_wp2;go_ret;rw [hfin.out];exact ⟨rfl,HA1.out⟩
 rw [KZ8 h1] at e1;by_cases h2:u.scheme=rK
 ·have hfin:=KZ9 (vE hok.symm (.inr (.inl h2)));rw [KZ7 h2] at e2;clear hok h1 h2 e3 e4;go_wp2;go_ret;rw [hfin.out];exact ⟨rfl,HA1.out⟩
 rw [KZ8 h2] at e2;by_cases h3:u.scheme=gM
 ·have hfin:=KZ9 (vE hok.symm (.inr (.inr h3)));rw [KZ7 h3] at e3;clear hok h1 h2 h3 e4;go_wp2;go_ret;rw [hfin.out];exact ⟨rfl,HA1.out⟩
 rw [KZ8 h3] at e3;by_cases h4:u.scheme=sC
 ·have hfin:=KZ9 (qt hok.symm h4);rw [KZ7 h4] at e4;have c14:=hb2.c 14 _ (vP u hw.1).2.1;have q1:((mk u.rest).toList==([98,108,97,110,107]:Bs))=decide (u.rest=ro):=by rw [toList_mk'];exact yX _ _
  have q2:((mk u.rest).toList==([115,114,99,100,111,99]:Bs))=decide (u.rest=th):=by rw [toList_mk'];exact yX _ _
  obtain ⟨r1,hr1⟩:=KZ6 (decide (u.rest=ro));obtain ⟨r2,hr2⟩:=KZ6 (decide (u.rest=th));have hor:decide (u.rest=ro∨u.rest=th)=(r1||r2):=by rw [hr1,hr2,Bool.decide_or]
  rw [hor] at hfin;rw [←hr1] at q1;rw [←hr2] at q2;clear hok h1 h2 h3 h4 hr1 hr2 hor;cases r1
  all_goals
   go_wp2
   all_goals try omega
   go_ret;rw [hfin.out];exact ⟨by first | rfl | simp,HA1.out⟩
 have hfin:=KZ9 (uW hok.symm (by rintro (h | h | h)<;>contradiction) h4);rw [KZ8 h4] at e4;have hsp:=fun W=>tB (mk u.scheme) W;simp only [zj] at hsp;have HLB:=KZ9 (VX u.host w1 (HBB.out.1.below HA1.out) hw (by omega));obtain ⟨sp,hs⟩:=KZ6 (decide (0<zv u.scheme));rw [←hs] at hfin;simp only [←hs] at hsp;have HSP:=KZ9 hsp;clear hok h1 h2 h3 h4 hs hsp;go_wp2_with fail
 all_goals try omega
 refine (HSP.out _).mono ?_;rintro e w2 ⟨rfl,rfl⟩;cases sp
 ·go_wp2
  all_goals try omega
  go_ret;rw [hfin.out];exact ⟨rfl,HA1.out⟩
 obtain ⟨sc,us,⟨kd,nm,va,v6⟩,pt,rs⟩:=u;obtain ⟨a,b,c,d,e,f,g,i,rfl⟩:=si hw.1;have c2:=hb2.c 2 _ rfl;have c3:=hb2.c 3 _ rfl;have c4:=hb2.c 4 _ rfl;have c5:=hb2.c 5 _ rfl;have c6:=hb2.c 6 _ rfl;have c7:=hb2.c 7 _ rfl;have c8:=hb2.c 8 _ rfl;have c9:=hb2.c 9 _ rfl;have c10:=hb2.c 10 _ rfl;have c11:=hb2.c 11 _ rfl;have c12:=hb2.c 12 _ rfl;go_wp2_with fail
 all_goals try omega
 refine HLB.out.mono ?_;rintro e w2 ⟨rfl,hb3⟩;go_wp2
 all_goals try omega
 go_ret;rw [hfin.out];exact ⟨by simp,HA1.out.trans (hb3.mono (by have:=HA1.out.size;omega))⟩
theorem TT (s:ByteArray) (w:World) (hs:s.size≤100000):Calls Tryz.prog 19 #[.string s] w (uS (sI (un s)) w.heap.size w):=by
 have hlen:(un s).length=s.size:=zb s;obtain ⟨W0,hW0⟩:=KZ6 (w.alloc (.cells (za zu).toArray 62));have hbA:Below w.heap.size w W0:=by rw [hW0];exact (Below.refl _ w).alloc (Nat.le_refl _) _
 have hr0:BlkL W0 w.heap.size 62 (za zu):=by rw [hW0];exact BlkL.new w _ _
 have HW0:Hid (w.alloc (.cells #[.string ⟨#[]⟩,.string ⟨#[]⟩,.int .i64 0,.string ⟨#[]⟩,.int .u32 0,.int .u16 0,.int .u16 0,.int .u16 0,.int .u16 0,.int .u16 0,.int .u16 0,.int .u16 0,.int .u16 0,.int .i64 0,.string ⟨#[]⟩] 62)=W0):=KZ9 hW0.symm;have hsz:W0.heap.size=w.heap.size+1:=by rw [hW0];simp
 have HP:=KZ9 (Zt s W0 hs);have HBA:=KZ9 hbA;have HR0:=KZ9 hr0;clear hW0 hbA hr0;by_cases hbig:2048<s.size
 ·have hfin:Hid (sI (un s)=none):=KZ9 (if_pos (by omega));have g1:decide ((2048:Int)<(s.size:Int))=true:=KZ7 (by omega);go_enter Tryz.func19,Tryz.ntmps19
  go_upto_region 1 with fail
  rw [HW0.out];clear HW0 HP;go_wp2_with (first
   | refine wpList_store_row rfl 62 (.tmp 2) (.tmp 7) rfl w.heap.size (za zu).toArray rfl rfl 62 _ HR0.out zN rfl (ze (yk zu)) ?_)
  all_goals try omega
  refine bodyPost_ret (zf rfl _ _ w.heap.size 62 _ _ rfl (HR0.out.setRow (za zu)) Tryz.underlying62 rfl zN) rfl ?_;exact ⟨⟨zu,3,rfl,.inr ⟨by decide,rfl,hfin.out⟩⟩,below_setRow HBA.out (Nat.le_refl _) _⟩
 have hfin:Hid (sI (un s)=yG (un s)):=KZ9 (if_neg (by omega));have g1:decide ((2048:Int)<(s.size:Int))=false:=KZ8 (by omega);go_enter Tryz.func19,Tryz.ntmps19
 go_upto_region 1 with fail
 rw [HW0.out];clear HW0;go_wp2_with fail
 all_goals try omega
 refine HP.out.mono ?_;rintro e w7 ⟨⟨v,c,rfl,hres⟩,hb7⟩;have hw:ym v.host:=by
  rcases hres with ⟨_,h2⟩ | ⟨_,h2,_⟩
  ·exact kF h2
  rw [h2];exact vV
 have HI:=KZ9 (zV hw.1);have HSZ:=KZ9 (show (za zu).toArray.size=(za v).toArray.size by rw [List.size_toArray,List.size_toArray,xo hw.1];rfl);have HR8:=KZ9 (HR0.out.below (by omega) hb7);have HA8:=KZ9 (HBA.out.trans (hb7.mono (by omega)));have HRES:=KZ9 hres;clear hb7 hres hw HP HR0 HBA;go_wp2_with (first
  | refine wpList_store_row rfl 62 (.tmp 2) (.tmp 10) rfl w.heap.size (za v).toArray rfl rfl 62 _ HR8.out HI.out HSZ.out (ze (yk v)) ?_)
 all_goals try omega
 refine bodyPost_ret (zf rfl _ _ w.heap.size 62 _ _ rfl (HR8.out.setRow (za v)) Tryz.underlying62 rfl HI.out) rfl ?_;refine ⟨⟨v,c,rfl,?_⟩,below_setRow HA8.out (Nat.le_refl _) _⟩;rw [hfin.out];exact HRES.out
set_option maxHeartbeats 8000000
theorem Zs (u:UrlP) (w:World) (hw:ym u.host) (hb:tS u):Calls Tryz.prog 56 #[.agg (za u).toArray] w fun e w'=>e= .returned (.bool (yR u))∧Below w.heap.size w w':=by
 obtain ⟨W0,hW0⟩:=KZ6 (w.alloc (.cells (za u).toArray 62));have hbA:Below w.heap.size w W0:=by rw [hW0];exact (Below.refl _ w).alloc (Nat.le_refl _) _
 have hb0:BlkL W0 w.heap.size 62 (za u):=by rw [hW0];exact BlkL.new w _ _
 have HW0:Hid (w.alloc (.cells (za u).toArray 62)=W0):=KZ9 hW0.symm;have hsz:W0.heap.size=w.heap.size+1:=by rw [hW0];simp
 have HTX:=KZ9 (Xy u W0 hw hb);have htl:=Zj hw hb;have hpar:=fun W=>Zt (mk (xd u)) W (by rw [zh];omega);simp only [zj] at hpar;have HPAR:=KZ9 hpar;have HI0:=KZ9 (zV hw.1);have HB0:=KZ9 hb0;have HBA:=KZ9 hbA;have hdef:yR u=decide (yG (xd u)=some u):=rfl;obtain ⟨o,ho⟩:=KZ6 (yG (xd u));rw [←ho] at hdef;simp only [←ho] at HPAR;obtain ⟨tx,htx⟩:=KZ6 (xd u);rw [←htx] at HTX;simp only [←htx] at HPAR;have HDEF:=KZ9 hdef;have HO:=KZ9 ho;clear hW0 hbA hb0 hpar hdef ho htx htl;go_enter Tryz.func56,Tryz.ntmps56
 go_upto_region 1 with fail
 rw [HW0.out];clear HW0;go_wp2_with (refine wpList_load_row rfl 62 (.tmp 1) rfl w.heap.size rfl 62 _ _ _ HB0.out Tryz.underlying62 rfl HI0.out ?_)
 refine HTX.out.mono ?_;rintro e w1 ⟨rfl,hb1⟩;have hs1:=hb1.size;have HB1:=KZ9 (HB0.out.below (by omega) hb1);have HA1:=KZ9 (HBA.out.trans (hb1.mono (by omega)));clear hb1 HTX HB0 HBA;go_wp2_with fail
 refine (HPAR.out _).mono ?_;rintro e w2 ⟨⟨v,c,rfl,hres⟩,hb2⟩;have hs2:=hb2.size;have hv8:v.host.v6.length=8:=by
  rcases hres with ⟨_,h2⟩ | ⟨_,h2,_⟩
  ·exact (JH (HO.out.symm.trans h2)).1
  rw [h2];rfl
 have HI:=KZ9 (zV hv8);have HSZ:=KZ9 (show (za zu).toArray.size=(za v).toArray.size by rw [List.size_toArray,List.size_toArray,xo hv8];rfl);have HN2:=KZ9 (heap_alloc_new w2 (.cells (za zu).toArray 62));have hY4:=(BlkL.new w2 62 (za zu)).setRow (za v);have hb4:=((HB1.out.below (by omega) hb2).alloc (.cells (za zu).toArray 62)).setRow_other (show w.heap.size≠w2.heap.size by omega) (za v).toArray;have hA4:=below_setRow ((HA1.out.trans (hb2.mono (by omega))).alloc (by omega) (.cells (za zu).toArray 62)) (show w.heap.size≤w2.heap.size by omega) (za v).toArray;obtain ⟨W4,hW4⟩:=KZ6 ((w2.alloc (.cells (za zu).toArray 62)).setRow w2.heap.size (za v).toArray);rw [←hW4] at hY4 hb4 hA4
 have HW4:Hid ((w2.alloc (.cells #[.string ⟨#[]⟩,.string ⟨#[]⟩,.int .i64 0,.string ⟨#[]⟩,.int .u32 0,.int .u16 0,.int .u16 0,.int .u16 0,.int .u16 0,.int .u16 0,.int .u16 0,.int .u16 0,.int .u16 0,.int .i64 0,.string ⟨#[]⟩] 62)).setRow w2.heap.size (za v).toArray=W4):=KZ9 hW4.symm;have HA4:=KZ9 hA4;have HB4:=KZ9 hb4;have HY4:=KZ9 hY4;have HRES:=KZ9 hres;have hqq:=SZ v u hv8 hw.1;have HQ:=KZ9 hqq;clear hb2 HPAR HB1 HA1 hW4 hY4 hb4 hA4 hres hqq;go_upto_region 2 with (refine wpList_store_row rfl 62 (.tmp 3) (.tmp 9) rfl w2.heap.size (za v).toArray rfl rfl 62 _ HN2.out HI.out HSZ.out (ze (yk v)) ?_)
 all_goals try omega
 rw [HW4.out];clear HW4 HN2 HI HSZ HI0 hs1 hs2 hsz;rcases HRES.out with ⟨rfl,hok⟩ | ⟨hc,hv0,hno⟩
 ·have hfin:yR u=decide (v=u):=by
   rw [HDEF.out,hok,decide_eq_decide];exact ⟨fun h=>Option.some.inj h,fun h=>by rw [h]⟩
  have HFIN:=KZ9 hfin;clear hfin hok HDEF HRES hb;obtain ⟨sc,us,⟨kd,nm,va,v6⟩,pt,rs⟩:=u;obtain ⟨scq,usq,⟨kdq,nmq,vaq,v6q⟩,ptq,rsq⟩:=v;obtain ⟨a,b,c,d,e,f,g,i,rfl⟩:=si hw.1;obtain ⟨aq,bq,cq,dq,eq,fq,gq,iq,rfl⟩:=si hv8
  have hq:∀ W,(Op.equalIn 10000 62 (.agg #[.string (mk scq),.string (mk usq),.int .i64 (kdq:Int),.string (mk nmq),.int .u32 (vaq:Int),.int .u16 (aq:Int),.int .u16 (bq:Int),.int .u16 (cq:Int),.int .u16 (dq:Int),.int .u16 (eq:Int),.int .u16 (fq:Int),.int .u16 (gq:Int),.int .u16 (iq:Int),.int .i64 ptq,.string (mk rsq)]) (.agg #[.string (mk sc),.string (mk us),.int .i64 (kd:Int),.string (mk nm),.int .u32 (va:Int),.int .u16 (a:Int),.int .u16 (b:Int),.int .u16 (c:Int),.int .u16 (d:Int),.int .u16 (e:Int),.int .u16 (f:Int),.int .u16 (g:Int),.int .u16 (i:Int),.int .i64 pt,.string (mk rs)])).run Tryz.prog W= .ok (decide ((⟨scq,usq,⟨kdq,nmq,vaq,[aq,bq,cq,dq,eq,fq,gq,iq]⟩,ptq,rsq⟩:UrlP)=⟨sc,us,⟨kd,nm,va,[a,b,c,d,e,f,g,i]⟩,pt,rs⟩)) W:=HQ.out
  obtain ⟨qv,hqv⟩:=KZ6 (decide ((⟨scq,usq,⟨kdq,nmq,vaq,[aq,bq,cq,dq,eq,fq,gq,iq]⟩,ptq,rsq⟩:UrlP)=⟨sc,us,⟨kd,nm,va,[a,b,c,d,e,f,g,i]⟩,pt,rs⟩));rw [←hqv] at hq HFIN;clear hqv HQ hw hv8;obtain ⟨c0,c1,c2,c3,c4,c5,c6,c7,c8,c9,c10,c11,c12,c13,c14⟩:=BlkL.cs15 HB4.out;obtain ⟨z0,z1,z2,z3,z4,z5,z6,z7,z8,z9,z10,z11,z12,z13,z14⟩:=BlkL.cs15 HY4.out;go_wp2
  all_goals try omega
  go_ret;rw [HFIN.out];exact ⟨rfl,HA4.out⟩
 have hfin:yR u=false:=by rw [HDEF.out,hno];rfl
 have HFIN:=KZ9 hfin;have g1:(c==0)=false:=by simpa using hc
 clear hfin hno HDEF HRES hc hv0;go_wp2
 all_goals try omega
 go_ret;rw [HFIN.out];exact ⟨rfl,HA4.out⟩
theorem kf (u:UrlP) (w:World) (hw:ym u.host) (hb:tS u):Calls Tryz.prog 24 #[.agg (za u).toArray] w fun e w'=>e= .returned (.string (mk (yW u)))∧Below w.heap.size w w':=by
 obtain ⟨W0,hW0⟩:=KZ6 (w.alloc (.cells (za u).toArray 62));have hbA:Below w.heap.size w W0:=by rw [hW0];exact (Below.refl _ w).alloc (Nat.le_refl _) _
 have hb0:BlkL W0 w.heap.size 62 (za u):=by rw [hW0];exact BlkL.new w _ _
 have HW0:Hid (w.alloc (.cells (za u).toArray 62)=W0):=KZ9 hW0.symm;have hsz:W0.heap.size=w.heap.size+1:=by rw [hW0];simp
 have hv:=Zs u W0 hw hb;have hf1:=@jl u;have hf2:=@gr u;obtain ⟨ok,hok⟩:=KZ6 (yR u);rw [←hok] at hv hf1 hf2;have HV:=KZ9 hv;have HF1:=KZ9 hf1;have HF2:=KZ9 hf2;have HTX:=KZ9 (fun W=>Xy u W hw hb);have HI0:=KZ9 (zV hw.1);have HB0:=KZ9 hb0;have HBA:=KZ9 hbA;clear hW0 hbA hb0 hv hf1 hf2 hok;go_enter Tryz.func24,Tryz.ntmps24
 go_upto_region 1 with fail
 rw [HW0.out];clear HW0;go_wp2_with (refine wpList_load_row rfl 62 (.tmp 1) rfl w.heap.size rfl 62 _ _ _ HB0.out Tryz.underlying62 rfl HI0.out ?_)
 refine HV.out.mono ?_;rintro e w1 ⟨rfl,hb1⟩;have HB1:=KZ9 (HB0.out.below (by omega) hb1);have HA1:=KZ9 (HBA.out.trans (hb1.mono (by omega)));clear hb1 HV HB0 HBA;cases ok
 ·have hfin:=KZ9 (HF2.out rfl);go_wp2;go_ret;rw [hfin.out];exact ⟨rfl,HA1.out⟩
 have hfin:=KZ9 (HF1.out rfl);go_wp2_with (refine wpList_load_row rfl 62 (.tmp 1) rfl w.heap.size rfl 62 _ _ _ HB1.out Tryz.underlying62 rfl HI0.out ?_)
 refine (HTX.out _).mono ?_;rintro e w2 ⟨rfl,hb2⟩;go_wp2;go_ret;rw [hfin.out];exact ⟨rfl,HA1.out.trans (hb2.mono (by have:=HA1.out.size;omega))⟩
theorem tV (u:UrlP) (w:World):Calls Tryz.prog 22 #[.agg (za u).toArray] w fun e w'=>e= .returned (.bool (decide (zv u.scheme=80)))∧Below w.heap.size w w':=by
 obtain ⟨W0,hW0⟩:=KZ6 (w.alloc (.cells (za u).toArray 62));have hbA:Below w.heap.size w W0:=by rw [hW0];exact (Below.refl _ w).alloc (Nat.le_refl _) _
 have hb0:BlkL W0 w.heap.size 62 (za u):=by rw [hW0];exact BlkL.new w _ _
 have HW0:Hid (w.alloc (.cells (za u).toArray 62)=W0):=KZ9 hW0.symm;have c0:=hb0.c 0 _ (pr u).1;have e1:((mk u.scheme).toList==([104,116,116,112]:Bs))=decide (u.scheme=yQ):=by rw [toList_mk'];exact yX _ _
 have e2:((mk u.scheme).toList==([119,115]:Bs))=decide (u.scheme=bWs):=by rw [toList_mk'];exact yX _ _
 have hd:decide (zv u.scheme=80)=(decide (u.scheme=yQ)||decide (u.scheme=bWs)):=by
  rcases yr u.scheme with ⟨h1,h2⟩ | ⟨h1,h2⟩ | ⟨h1,h2,h3⟩
  ·rw [h1,KZ7 rfl];rcases h2 with h | h
   ·rw [KZ7 h];rfl
   rw [KZ7 h,Bool.or_true]
  ·rw [h1];rcases h2 with h | h<;>rw [h]<;>decide
  rw [h1,KZ8 (fun h=>h2 (.inl h)),KZ8 (fun h=>h2 (.inr h))];rfl
 obtain ⟨x1,hx1⟩:=KZ6 (decide (u.scheme=yQ));obtain ⟨x2,hx2⟩:=KZ6 (decide (u.scheme=bWs));rw [←hx1] at e1 hd;rw [←hx2] at e2 hd;have HD:=KZ9 hd;have HBA:=KZ9 hbA;clear hW0 hbA hb0 hx1 hx2 hd;go_enter Tryz.func22,Tryz.ntmps22
 go_upto_region 1 with fail
 rw [HW0.out];clear HW0;cases x1
 all_goals
  go_wp2
  all_goals try omega
  go_ret;rw [HD.out];exact ⟨by first | rfl | simp,HBA.out⟩
end Go.Proofs.YtjbciamhhfcdoaaGreatDoor
