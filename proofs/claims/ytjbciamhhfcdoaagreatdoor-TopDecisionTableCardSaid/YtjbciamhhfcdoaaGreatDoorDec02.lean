/- What the proof of TopDecisionTable uses, part Dec02. -/
import Derived.Test.YtjbciamhhfcdoaaGreatDoorDec01
import Derived.Deep.DeepCutAuto
import Derived.Deep.RegionLaw
import Derived.Lib.SmallJoins
set_option linter.unusedSimpArgs false
set_option linter.unusedVariables false
namespace Go.Proofs.YtjbciamhhfcdoaaGreatDoor
open Go.RowKit Hs
theorem vp:(Tryz.prog.info? 5).map (fun i=>(i.zero,i.size,i.bytes))=some (some (.int .u8 0),1,1):=by kernel_rfl
theorem qY:(Tryz.prog.info? 9).map (fun i=>(i.zero,i.size,i.bytes))=some (some (.string ByteArray.empty),1,16):=by kernel_rfl
theorem kS (s:ByteArray) (k:Nat) (hk:k<s.size) (x:Int) (hx:(65≤(s[k].toNat:Int)∧(s[k].toNat:Int)≤90∧x=(s[k].toNat:Int)+32)∨(¬ (65≤(s[k].toNat:Int)∧(s[k].toNat:Int)≤90)∧x=(s[k].toNat:Int))) :
  yb (zt ((un s).take k))++[.int .u8 x]=yb (zt ((un s).take (k+1))):=by
 have e:x=((we s[k]).toNat:Int):=by
  have h:(s[k]+32).toNat=(s[k].toNat+32) % 256:=UInt8.toNat_add s[k] 32;rcases hx with ⟨h1,h2,rfl⟩ | ⟨h1,rfl⟩
  ·have e:we s[k]=s[k]+32:=by unfold we wi;rw [if_pos (by rw [decide_eq_true_eq];omega)]
   rw [e,h];omega
  have e:we s[k]=s[k]:=by unfold we wi;rw [if_neg (by rw [decide_eq_true_eq];omega)]
  rw [e]
 subst e;rw [V5 (un s) k (by simpa using hk),zU];rfl
set_option maxHeartbeats 800000
theorem ti (s:ByteArray) (w:World) (hs:s.size≤100000000):Calls Tryz.prog 105 #[.string s] w fun e w'=>e= .returned (.string (mk (zt (un s))))∧Below w.heap.size w w':=by
 obtain ⟨iB0,iB⟩:=info_parts vp;go_enter Tryz.func105,Tryz.ntmps105
 go_wp2_with (at_make;refine wpList_make_own _ rfl _ _ 32 rfl w.heap.size 5 iB0 (.int .u8 0) 1 Tryz.underlying32 iB.1 iB.2.1 iB.2.2.1 .i64 .i64 _ s.size rfl rfl (by omega) (by rw [iB.2.2.2];omega) (by unfold maxLen;omega) (Nat.le_refl _) ?_;intro w0 hown0 hgrow0)
 go_loopw [3,11] (fun v i wr=>∃ k:Nat,k≤s.size∧i= .int .i64 k∧wr.ownsRow w.heap.size 5 1 v k (yb (zt ((un s).take k)))∧Below w.heap.size w wr)
  (fun _ i _=>s.size - (intOf i).toNat)
 case atStart=>exact ⟨0,Nat.zero_le _,rfl,hown0,(Below.refl _ _).grown hgrow0 (Nat.le_refl _) (fun k h=>by cases h)⟩
 case round =>
  obtain ⟨k,hk,rfl,hown,hnx⟩:=hrel;have hsize:=hnx.size;by_cases hlt:k<s.size
  ·go_wp2_with (at_builtin;refine wpList_append_own _ rfl (.tmp 25) (.tmp 27) 32 rfl (w.heap.size) 5 iB0 (.int .u8 0) 1 1 Tryz.underlying32 iB.1 iB.2.1 iB.2.2.1 iB.2.2.2 rfl (by decide) _ _ _ rfl (hown.alloc _) ⟨wr.heap.size,0,none⟩ 1 1 [_] rfl rfl (cell_one_new _ _ _) (by intro u hu;simp at hu;subst hu;rfl) (by unfold maxLen;omega) (by omega) (by simp;omega) ?_;intro v1 w1 hown1 hgrow1 hnil1)
   all_goals
    go_roundw
    case rel =>
     refine ⟨k+1,by omega,by go_num,?_,(hnx.alloc (by omega) _).grown hgrow1 (by simp;omega) (fun j hj=>(hown.lt j hj).1)⟩;have e:=hown1;rw [kS s k hlt] at e
     ·exact e
     omega
    case measure=>simp [intOf];omega
  obtain rfl:k=s.size:=by omega
  rw [List.take_of_length_le (by simp)] at hown;have hcv:=yI (P:=Tryz.prog) (Row.owned hown) (src:=32) (dst:=9) Tryz.underlying32 Tryz.underlying5 Tryz.underlying9;go_wp2;go_ret;exact ⟨rfl,hnx⟩
theorem ja (s:ByteArray) (w:World) (hs:s.size≤100000000):Calls Tryz.prog 153 #[.string s] w fun e w'=>e= .returned (.string (mk (zt (un s))))∧Below w.heap.size w w':=by
 obtain ⟨iB0,iB⟩:=info_parts vp;go_enter Tryz.func153,Tryz.ntmps153
 go_wp2;go_loopw [3,4] (fun v i wr=>∃ k:Nat,k≤s.size∧i= .int .i64 k∧wr.ownsRow w.heap.size 5 1 v k (yb (zt ((un s).take k)))∧Below w.heap.size w wr)
  (fun _ i _=>s.size - (intOf i).toNat)
 case atStart=>exact ⟨0,Nat.zero_le _,rfl,World.ownsRow_nil _ _ _ _,Below.refl _ _⟩
 case round =>
  obtain ⟨k,hk,rfl,hown,hnx⟩:=hrel;have hsize:=hnx.size;by_cases hlt:k<s.size
  ·go_wp2_with (at_builtin;refine wpList_append_own _ rfl (.tmp 23) (.tmp 25) 32 rfl (w.heap.size) 5 iB0 (.int .u8 0) 1 1 Tryz.underlying32 iB.1 iB.2.1 iB.2.2.1 iB.2.2.2 rfl (by decide) _ _ _ rfl (hown.alloc _) ⟨wr.heap.size,0,none⟩ 1 1 [_] rfl rfl (cell_one_new _ _ _) (by intro u hu;simp at hu;subst hu;rfl) (by unfold maxLen;omega) (by omega) (by simp;omega) ?_;intro v1 w1 hown1 hgrow1 hnil1)
   all_goals
    go_roundw
    case rel =>
     refine ⟨k+1,by omega,by go_num,?_,(hnx.alloc (by omega) _).grown hgrow1 (by simp;omega) (fun j hj=>(hown.lt j hj).1)⟩;have e:=hown1;rw [kS s k hlt] at e
     ·exact e
     omega
    case measure=>simp [intOf];omega
  obtain rfl:k=s.size:=by omega
  rw [List.take_of_length_le (by simp)] at hown;have hcv:=yI (P:=Tryz.prog) (Row.owned hown) (src:=32) (dst:=9) Tryz.underlying32 Tryz.underlying5 Tryz.underlying9;go_wp2;go_ret;exact ⟨rfl,hnx⟩
theorem Yx (s:ByteArray) (w:World):Calls Tryz.prog 61 #[.string s] w fun e w'=>e= .returned (.int .i64 (zv (un s)))∧w=w':=by
 have hc:=yr (un s);obtain ⟨v,hv⟩:=KZ6 (zv (un s));rw [←hv] at hc ⊢;clear hv;rcases hc with ⟨rfl,h | h⟩ | ⟨rfl,h | h⟩ | ⟨rfl,h1,h2⟩
 ·have ebHttp:(s.toList==[104,116,116,112])=true:=(zF s _).trans (by rw [h];decide);have ebWs:(s.toList==[119,115])=false:=(zF s _).trans (by rw [h];decide);have ebHttps:(s.toList==[104,116,116,112,115])=false:=(zF s _).trans (by rw [h];decide);have ebWss:(s.toList==[119,115,115])=false:=(zF s _).trans (by rw [h];decide);clear h;go_enter Tryz.func61,Tryz.ntmps61
  go_wp2;go_ret;exact ⟨rfl,rfl⟩
 ·have ebHttp:(s.toList==[104,116,116,112])=false:=(zF s _).trans (by rw [h];decide);have ebWs:(s.toList==[119,115])=true:=(zF s _).trans (by rw [h];decide);have ebHttps:(s.toList==[104,116,116,112,115])=false:=(zF s _).trans (by rw [h];decide);have ebWss:(s.toList==[119,115,115])=false:=(zF s _).trans (by rw [h];decide);clear h;go_enter Tryz.func61,Tryz.ntmps61
  go_wp2;go_ret;exact ⟨rfl,rfl⟩
 ·have ebHttp:(s.toList==[104,116,116,112])=false:=(zF s _).trans (by rw [h];decide);have ebWs:(s.toList==[119,115])=false:=(zF s _).trans (by rw [h];decide);have ebHttps:(s.toList==[104,116,116,112,115])=true:=(zF s _).trans (by rw [h];decide);have ebWss:(s.toList==[119,115,115])=false:=(zF s _).trans (by rw [h];decide);clear h;go_enter Tryz.func61,Tryz.ntmps61
  go_wp2;go_ret;exact ⟨rfl,rfl⟩
 ·have ebHttp:(s.toList==[104,116,116,112])=false:=(zF s _).trans (by rw [h];decide);have ebWs:(s.toList==[119,115])=false:=(zF s _).trans (by rw [h];decide);have ebHttps:(s.toList==[104,116,116,112,115])=false:=(zF s _).trans (by rw [h];decide);have ebWss:(s.toList==[119,115,115])=true:=(zF s _).trans (by rw [h];decide);clear h;go_enter Tryz.func61,Tryz.ntmps61
  go_wp2;go_ret;exact ⟨rfl,rfl⟩
 have ebHttp:(s.toList==[104,116,116,112])=false:=(zF s _).trans (KZ8 (fun e=>h1 (.inl e)));have ebWs:(s.toList==[119,115])=false:=(zF s _).trans (KZ8 (fun e=>h1 (.inr e)));have ebHttps:(s.toList==[104,116,116,112,115])=false:=(zF s _).trans (KZ8 (fun e=>h2 (.inl e)));have ebWss:(s.toList==[119,115,115])=false:=(zF s _).trans (KZ8 (fun e=>h2 (.inr e)));clear h1 h2;go_enter Tryz.func61,Tryz.ntmps61
 go_wp2;go_ret;exact ⟨rfl,rfl⟩
theorem jb (s:ByteArray) (w:World):Calls Tryz.prog 92 #[.string s] w fun e w'=>e= .returned (.bool (decide (0<zv (un s))))∧w=w':=by
 have hc:=yr (un s);obtain ⟨v,hv⟩:=KZ6 (zv (un s));rw [←hv] at hc ⊢;clear hv;rcases hc with ⟨rfl,h | h⟩ | ⟨rfl,h | h⟩ | ⟨rfl,h1,h2⟩
 ·have ebHttp:(s.toList==[104,116,116,112])=true:=(zF s _).trans (by rw [h];decide);have ebHttps:(s.toList==[104,116,116,112,115])=false:=(zF s _).trans (by rw [h];decide);have ebWs:(s.toList==[119,115])=false:=(zF s _).trans (by rw [h];decide);have ebWss:(s.toList==[119,115,115])=false:=(zF s _).trans (by rw [h];decide);clear h;go_enter Tryz.func92,Tryz.ntmps92
  go_wp2
  all_goals try omega
  go_ret;exact ⟨rfl,rfl⟩
 ·have ebHttp:(s.toList==[104,116,116,112])=false:=(zF s _).trans (by rw [h];decide);have ebHttps:(s.toList==[104,116,116,112,115])=false:=(zF s _).trans (by rw [h];decide);have ebWs:(s.toList==[119,115])=true:=(zF s _).trans (by rw [h];decide);have ebWss:(s.toList==[119,115,115])=false:=(zF s _).trans (by rw [h];decide);clear h;go_enter Tryz.func92,Tryz.ntmps92
  go_wp2
  all_goals try omega
  go_ret;exact ⟨rfl,rfl⟩
 ·have ebHttp:(s.toList==[104,116,116,112])=false:=(zF s _).trans (by rw [h];decide);have ebHttps:(s.toList==[104,116,116,112,115])=true:=(zF s _).trans (by rw [h];decide);have ebWs:(s.toList==[119,115])=false:=(zF s _).trans (by rw [h];decide);have ebWss:(s.toList==[119,115,115])=false:=(zF s _).trans (by rw [h];decide);clear h;go_enter Tryz.func92,Tryz.ntmps92
  go_wp2
  all_goals try omega
  go_ret;exact ⟨rfl,rfl⟩
 ·have ebHttp:(s.toList==[104,116,116,112])=false:=(zF s _).trans (by rw [h];decide);have ebHttps:(s.toList==[104,116,116,112,115])=false:=(zF s _).trans (by rw [h];decide);have ebWs:(s.toList==[119,115])=false:=(zF s _).trans (by rw [h];decide);have ebWss:(s.toList==[119,115,115])=true:=(zF s _).trans (by rw [h];decide);clear h;go_enter Tryz.func92,Tryz.ntmps92
  go_wp2
  all_goals try omega
  go_ret;exact ⟨rfl,rfl⟩
 have ebHttp:(s.toList==[104,116,116,112])=false:=(zF s _).trans (KZ8 (fun e=>h1 (.inl e)));have ebHttps:(s.toList==[104,116,116,112,115])=false:=(zF s _).trans (KZ8 (fun e=>h2 (.inl e)));have ebWs:(s.toList==[119,115])=false:=(zF s _).trans (KZ8 (fun e=>h1 (.inr e)));have ebWss:(s.toList==[119,115,115])=false:=(zF s _).trans (KZ8 (fun e=>h2 (.inr e)));clear h1 h2;go_enter Tryz.func92,Tryz.ntmps92
 go_wp2
 all_goals try omega
 go_ret;exact ⟨rfl,rfl⟩
theorem TV (b:UInt8) (w:World):Calls Tryz.prog 160 #[.int .u8 (b.toNat:Int)] w fun e w'=>e= .returned (.int .i64 (pvI b))∧w=w':=by
 have hc:=kt b;have hb:=b.toNat_lt;have hv:Hid (pvI b=if pv b=99 then -1 else (pv b:Int)):=KZ9 rfl;obtain ⟨x,hx⟩:=KZ6 b.toNat;rw [←hx] at hc hb ⊢;obtain ⟨v,hvv⟩:=KZ6 (pv b);rw [←hvv] at hc hv;clear hx hvv;rcases hc with ⟨h1,h2,h3⟩ | ⟨h1,h2,h3⟩ | ⟨h1,h2,h3⟩ | ⟨h1,h2,h3,h4⟩
 ·have hr:=KZ9 (show pvI b=(x:Int) - 97 by rw [hv.out,if_neg (by omega)];omega);clear hv h3;go_enter Tryz.func160,Tryz.ntmps160
  go_wp2
  all_goals try omega
  go_ret;rw [hr.out];exact ⟨rfl,rfl⟩
 ·have hr:=KZ9 (show pvI b=(x:Int) - 65 by rw [hv.out,if_neg (by omega)];omega);clear hv h3;go_enter Tryz.func160,Tryz.ntmps160
  go_wp2
  all_goals try omega
  go_ret;rw [hr.out];exact ⟨rfl,rfl⟩
 ·have hr:=KZ9 (show pvI b=(x:Int) - 48+26 by rw [hv.out,if_neg (by omega)];omega);clear hv h3;go_enter Tryz.func160,Tryz.ntmps160
  go_wp2
  all_goals try omega
  go_ret;rw [hr.out];exact ⟨rfl,rfl⟩
 have hr:=KZ9 (show pvI b= -1 by rw [hv.out,if_pos (by omega)]);clear hv h4;go_enter Tryz.func160,Tryz.ntmps160
 go_wp2
 all_goals try omega
 all_goals
  go_ret;rw [hr.out];exact ⟨rfl,rfl⟩
theorem rx (d:Nat) (w:World) (hd:d<36):Calls Tryz.prog 164 #[.int .i64 (d:Int)] w fun e w'=>e= .returned (.int .u8 ((pd d).toNat:Int))∧w=w':=by
 have hv:=KZ9 (Rv d hd);by_cases h:d<26
 ·have g1:decide ((d:Int)<26)=true:=KZ7 (by omega);go_enter Tryz.func164,Tryz.ntmps164
  go_wp2
  all_goals try omega
  go_ret;rw [hv.out,if_pos h];exact ⟨by go_num,rfl⟩
 have g1:decide ((d:Int)<26)=false:=KZ8 (by omega);go_enter Tryz.func164,Tryz.ntmps164
 go_wp2
 all_goals try omega
 go_ret;rw [hv.out,if_neg h];exact ⟨by go_num,rfl⟩
theorem uo (n:Nat) (w:World) (hn:n≤1152921504606846976):Calls Tryz.prog 163 #[.int .i64 (n:Int)] w fun e w'=>e= .returned (.bool (xl n))∧w=w':=by
 have hv:Hid (xl n=decide (n≤1114111∧(n<55296∨57343<n))):=KZ9 rfl;have hc:(n≤1114111∧n<55296)∨(n≤1114111∧55296≤n∧n≤57343)∨(n≤1114111∧57343<n)∨1114111<n:=by omega
 have g0:decide ((0:Int)≤(n:Int))=true:=KZ7 (by omega);rcases hc with ⟨h1,h2⟩ | ⟨h1,h2,h3⟩ | ⟨h1,h2⟩ | h1
 ·have g1:decide ((n:Int)≤1114111)=true:=KZ7 (by omega);have g2:decide ((n:Int)<55296)=true:=KZ7 (by omega);go_enter Tryz.func163,Tryz.ntmps163
  go_wp2
  all_goals try omega
  go_ret;rw [hv.out,KZ7 (by omega)];exact ⟨rfl,rfl⟩
 ·have g1:decide ((n:Int)≤1114111)=true:=KZ7 (by omega);have g2:decide ((n:Int)<55296)=false:=KZ8 (by omega);have g3:decide ((57343:Int)<(n:Int))=false:=KZ8 (by omega);go_enter Tryz.func163,Tryz.ntmps163
  go_wp2
  all_goals try omega
  go_ret;rw [hv.out,KZ8 (by omega)];exact ⟨rfl,rfl⟩
 ·have g1:decide ((n:Int)≤1114111)=true:=KZ7 (by omega);have g2:decide ((n:Int)<55296)=false:=KZ8 (by omega);have g3:decide ((57343:Int)<(n:Int))=true:=KZ7 (by omega);go_enter Tryz.func163,Tryz.ntmps163
  go_wp2
  all_goals try omega
  go_ret;rw [hv.out,KZ7 (by omega)];exact ⟨rfl,rfl⟩
 have g1:decide ((n:Int)≤1114111)=false:=KZ8 (by omega);go_enter Tryz.func163,Tryz.ntmps163
 go_wp2
 all_goals try omega
 go_ret;rw [hv.out,KZ8 (by omega)];exact ⟨rfl,rfl⟩
set_option maxHeartbeats 1600000
theorem pG (delta count:Nat) (first:Bool) (w:World) (hd:delta≤1099511627776) (hc0:0<count) (hc:count≤1048576):Calls Tryz.prog 162 #[.int .i64 (delta:Int),.int .i64 (count:Int),.bool first] w fun e w'=>e= .returned (.int .i64 (xV delta count first))∧w=w':=by
 have hv:Hid (xV delta count first=wf ((if first=true then delta / 700 else delta / 2)+(if first=true then delta / 700 else delta / 2) / count) 0):=KZ9 rfl;have h1:(if first=true then delta / 700 else delta / 2)≤549755813888:=by split<;>omega
 obtain ⟨d0,hd0⟩:=KZ6 ((if first=true then delta / 700 else delta / 2));rw [←hd0] at hv h1;have h2:d0 / count≤d0:=Nat.div_le_self _ _;obtain ⟨q,hq⟩:=KZ6 (d0 / count);rw [←hq] at hv h2;have hqi:(d0:Int) / (count:Int)=(q:Int):=by rw [hq];exact (Int.natCast_ediv d0 count).symm
 have hqt:(d0:Int).tdiv (count:Int)=(q:Int):=by rw [Int.tdiv_eq_ediv_of_nonneg (by omega)];exact hqi
 have hcz:((count:Int)==0)=false:=by simp;omega
 have hcn:(count:Int)≠0:=by omega
 have h35:d0+q<456*35 ^ 8:=by
  have:(35:Nat) ^ 8=2251875390625:=by decide
  omega
 have H35:=KZ9 h35;clear hq h35;cases first
 all_goals
  simp only [if_true,Bool.false_eq_true,if_false] at hd0
  (first | have hdi:(delta:Int) / 700=(d0:Int):=by omega | have hdi:(delta:Int) / 2=(d0:Int):=by omega)
  (first | have hdt:(delta:Int).tdiv 700=(d0:Int):=by rw [Int.tdiv_eq_ediv_of_nonneg (by omega)];exact hdi | have hdt:(delta:Int).tdiv 2=(d0:Int):=by rw [Int.tdiv_eq_ediv_of_nonneg (by omega)];exact hdi)
  clear hd0;go_enter Tryz.func162,Tryz.ntmps162
  go_wp2
  all_goals try omega
  go_loop [0,7] (fun dv kv=>∃ e k:Nat,dv= .int .i64 e∧kv= .int .i64 k∧e≤1099511627776∧k≤288∧Hid (wf (d0+q) 0=wf e k)∧Hid (∃ j,e<456*35 ^ j∧k+36*j≤288)) (fun dv _=>(intOf dv).toNat)
  case atStart=>exact ⟨d0+q,0,by go_num,rfl,by omega,by omega,KZ9 rfl,KZ9 ⟨8,H35.out,by omega⟩⟩
  case round =>
   obtain ⟨e,k,rfl,rfl,he,hk,hst,hj⟩:=hrel;by_cases hlt:455<e
   ·have g1:decide ((455:Int)<(e:Int))=true:=KZ7 (by omega);have hst2:Hid (wf (d0+q) 0=wf (e / 35) (k+36)):=KZ9 (by rw [hst.out,qs hlt]);have hj2:Hid (∃ j,e / 35<456*35 ^ j∧k+36+36*j≤288):=KZ9 (by
     obtain ⟨j,h1,h2⟩:=hj.out;cases j with
     | zero=>simp at h1;omega
     | succ j=>exact ⟨j,by rw [Nat.pow_succ,←Nat.mul_assoc] at h1;exact Nat.div_lt_of_lt_mul (by rw [Nat.mul_comm];exact h1),by omega⟩)
    have hk2:k+36≤288:=by obtain ⟨j,_,h⟩:=hj2.out;omega
    clear hst hj;go_wp2
    all_goals try omega
    go_round
    case rel=>exact ⟨e / 35,k+36,by go_num,by go_num,by omega,hk2,hst2,hj2⟩
    case measure=>simp [intOf];omega
   have g1:decide ((455:Int)<(e:Int))=false:=KZ8 (by omega);obtain ⟨r,hr⟩:=KZ6 (36*e / (e+38));have hfin:Hid (xV delta count _=k+r):=KZ9 (by rw [hv.out,hst.out,um hlt,hr]);have hri:36*(e:Int) / ((e:Int)+38)=(r:Int):=by rw [hr];push_cast;rfl
   have hrt:(36*(e:Int)).tdiv ((e:Int)+38)=(r:Int):=by rw [Int.tdiv_eq_ediv_of_nonneg (by omega)];exact hri
   have hr36:r≤36:=by
    rw [hr];apply Nat.le_of_lt_succ;rw [Nat.div_lt_iff_lt_mul (by omega)];omega
   have hez:(e:Int)+38≠0:=by omega
   clear hst hj hr;go_wp2
   all_goals try omega
   go_ret;rw [hfin.out];exact ⟨by go_num,rfl⟩
end Go.Proofs.YtjbciamhhfcdoaaGreatDoor
namespace Hs
open Go Go.RowKit
def zq (l:List Nat):List Value:=l.map fun (n:Nat)=> .int .i64 (n:Int)
@[simp] theorem tq (l:List Nat):(zq l).length=l.length:=by simp [zq]
theorem xH (a b:List Nat):zq (a++b)=zq a++zq b:=by simp [zq]
def Nums (w:World) (v:Value) (l:List Nat):Prop:=Row w v 1 l.length (zq l)
theorem Nums.open {w:World} {v:Value} {l:List Nat} (h:Nums w v l):∃ a cap,v= .slice a l.length cap∧l.length≤cap∧cap≤maxLen ∧
  ∀ (hn:0<l.length),∃ b off,a=some ⟨b,off,none⟩∧b<w.heap.size∧∀ j (hj:j<l.length),w.cell? ⟨b,off+j,none⟩=some (.int .i64 (l[j]:Int)):=by
 obtain ⟨hl,a,cap,rfl,hn,hm,h⟩:=h;refine ⟨a,cap,rfl,hn,hm,fun h0=> ?_⟩;rcases h with h | ⟨b,off,ha,hlt,hc⟩
 ·omega
 exact ⟨b,off,ha,hlt,fun j hj=>hc j _ (by simp [zq,List.getElem?_eq_getElem hj])⟩
theorem yw {w:World} {base:Nat} {e:TypeId} {size n:Nat} {v:Value} {xs:List Value} (h:w.ownsRow base e size v n xs):∃ a cap,v= .slice a n cap:=by
 rcases h.2 with ⟨rfl,rfl⟩ | ⟨g,cap,cur,rfl,_⟩
 ·exact ⟨none,0,rfl⟩
 exact ⟨_,cap,rfl⟩
theorem rm {l:List Nat} {p:Nat} (h:p<128):zD (l++[p])=zD l++[UInt8.ofNat p]:=by
 unfold zD;rw [List.filter_append,List.map_append]
 congr 1
 rw [List.filter_cons,if_pos (by simpa using h)];rfl
theorem rn {l:List Nat} {p:Nat} (h:¬ p<128):zD (l++[p])=zD l:=by
 unfold zD;rw [List.filter_append,List.map_append,List.filter_cons,if_neg (by simpa using h)];simp
theorem Vc (p:Nat) (h:p<256):(((UInt8.ofNat p).toNat:Nat):Int)=(p:Int):=by
 rw [UInt8.toNat_ofNat',Nat.mod_eq_of_lt h]
theorem vT {n D p:Nat} {r:List Nat} (h:n≤p):zz n D (p::r)=min p (zz n D r):=by rw [zz,if_pos h]
theorem vS {n D p:Nat} {r:List Nat} (h:¬ n≤p):zz n D (p::r)=zz n D r:=by rw [zz,if_neg h]
theorem tj (l:List Nat) (h:l.all xl=true):∀ p∈l,p≤1114111:=by
 intro p hp;have:=List.all_eq_true.1 h p hp;exact (of_decide_eq_true this).1
theorem WJ (l:List Nat) (f:Nat→Bool) (k:Nat) (h:k<l.length):(l.drop k).all f=(f l[k]&&(l.drop (k+1)).all f):=by
 rw [List.drop_eq_getElem_cons h,List.all_cons]
end Hs
namespace Go.Proofs.YtjbciamhhfcdoaaGreatDoor
open Go.RowKit Hs
theorem tm (k bias:Nat) (w:World) (hk:k≤2000000000) (hb:bias≤1048576):Calls Tryz.prog 161 #[.int .i64 (k:Int),.int .i64 (bias:Int)] w fun e w'=>e= .returned (.int .i64 (thr k bias))∧w=w':=by
 have h1:=KZ9 (show (thr k bias:Int)=max 1 (min 26 (36*((k:Int)+1) - (bias:Int))) by unfold thr;omega);go_enter Tryz.func161,Tryz.ntmps161
 go_wp2
 all_goals try omega
 all_goals
  go_ret;rw [h1.out];refine ⟨congrArg Ending.returned ?_,rfl⟩;show Value.int .i64 _=Value.int .i64 _
  congr 1
  omega
set_option maxRecDepth 20000
set_option maxHeartbeats 16000000
theorem kj (v:Value) (pts:List Nat) (w:World) (hst:Nums w v pts) (hl:pts.length≤100000) (hbig:∀ p∈pts,p≤1152921504606846976):Calls Tryz.prog 101 #[v] w fun e w'=>(∃ s c,e= .returned (.tuple #[.string s,.int .i64 c])∧((c=0∧sx pts=some (un s))∨(c≠0∧s=⟨#[]⟩∧sx pts=none)))∧Below w.heap.size w w':=by
 obtain ⟨iB0,iB⟩:=info_parts vp;have hdef:Hid (sx pts=if 256<pts.length then none else if pts.all xl=false then none else some (qq pts (zD pts).length pts.length 128 (zD pts++if (zD pts).length=0 then [] else [45]) 0 72 (zD pts).length)):=KZ9 rfl;obtain ⟨a,c,rfl,hn,hm,hc⟩:=hst.open;unfold maxLen at hm;have HC:=KZ9 hc;have HBIG:=KZ9 hbig;clear hc hst hbig;obtain ⟨n,hn0⟩:∃ n,pts.length=n:=⟨_,rfl⟩;rw [hn0] at hn hl hdef ⊢;have HN:=KZ9 hn0;clear hn0;by_cases hlong:256<n
 ·have g1:decide ((256:Int)<(n:Int))=true:=KZ7 (by omega);have hend:Hid (sx pts=none):=KZ9 (by rw [hdef.out,if_pos hlong]);clear hdef;go_enter Tryz.func101,Tryz.ntmps101
  go_wp2
  all_goals try omega
  go_ret2;exact ⟨⟨_,_,rfl,.inr ⟨by decide,rfl,hend.out⟩⟩,Below.refl _ _⟩
 have g1:decide ((256:Int)<(n:Int))=false:=KZ8 (by omega);have hdef2:=KZ9 (hdef.out.trans (if_neg hlong));clear hdef;go_enter Tryz.func101,Tryz.ntmps101
 go_wp2
 all_goals try omega
 go_loopw [4,5] (fun ov iv wr=>∃ (k m:Nat),iv= .int .i64 k∧k≤n∧m≤k∧wr.ownsRow w.heap.size 5 1 ov m (yb (zD (pts.take k)))∧Hid (pts.all xl=(pts.drop k).all xl)∧Below w.heap.size w wr) (fun _ iv _=>n - (intOf iv).toNat)
 case atStart=>exact ⟨0,0,rfl,by omega,by omega,World.ownsRow_nil _ _ _ _,KZ9 (by rw [List.drop_zero]),Below.refl _ _⟩
 case round =>
  obtain ⟨k,m,rfl,hk,hmk,hown,hall,hnx⟩:=hrel;have hsz:=hnx.size;by_cases hlt:k<n
  ·obtain ⟨b,off,rfl,hb1,hcell⟩:=HC.out (by rw [HN.out];omega);have hkl:k<pts.length:=by rw [HN.out];exact hlt
   have c0w:=hcell k hkl;have c0:=((yA hnx).1 b (off+k) hb1).trans c0w;have hp:=HBIG.out pts[k] (List.getElem_mem hkl);have htk:Hid (pts.take (k+1)=pts.take k++[pts[k]]):=KZ9 (List.take_succ_eq_append_getElem hkl);have hda:=WJ pts xl k hkl;obtain ⟨p,hpp⟩:=KZ6 (pts[k]);rw [←hpp] at c0 c0w hp htk hda;have hpt:=fun W=>uo p W hp;obtain ⟨ok,hok⟩:=KZ6 (xl p);rw [←hok] at hda;simp only [←hok] at hpt;have HP:=KZ9 hpt;have c1:∀ o,(wr.alloc o).cell? ⟨b,off+k,none⟩=some (.int .i64 (p:Int)):=fun o=>((yA ((Below.refl wr.heap.size wr).alloc (Nat.le_refl _) o)).1 b (off+k) (by omega)).trans c0;clear hcell hpp hok hpt hkl c0w;cases ok
   ·have hend:Hid (sx pts=none):=KZ9 (by rw [hdef2.out,hall.out,hda];rfl);clear hall hda;go_wp2_with fail
    refine (HP.out _).mono ?_;rintro e w2 ⟨rfl,rfl⟩;go_wp2
    all_goals try omega
    go_ret2;exact ⟨⟨_,_,rfl,.inr ⟨by decide,rfl,hend.out⟩⟩,hnx⟩
   have hall2:Hid (pts.all xl=(pts.drop (k+1)).all xl):=KZ9 (by rw [hall.out,hda,Bool.true_and]);clear hall hda;by_cases hp128:p<128
   ·have g2:decide ((p:Int)<128)=true:=KZ7 (by omega);have hbb:=Vc p (by omega);go_wp2_with fail
    refine (HP.out _).mono ?_;rintro e w2 ⟨rfl,rfl⟩;go_wp2_with (first | (at_builtin;refine wpList_append_own _ rfl (.tmp 37) (.tmp 43) 32 rfl (w.heap.size) 5 iB0 (.int .u8 0) 1 1 Tryz.underlying32 iB.1 iB.2.1 iB.2.2.1 iB.2.2.2 rfl (by decide) _ _ _ rfl (hown.alloc _) ⟨wr.heap.size,0,none⟩ 1 1 [_] rfl rfl (cell_one_new _ _ _) (by intro u hu;simp at hu;subst hu;rfl) (by unfold maxLen;omega) (by omega) (by simp;omega) ?_;intro v1 w3 hown1 hgrow1 hnil1))
    all_goals try omega
    go_roundw
    case rel =>
     refine ⟨k+1,m+1,by go_num,by omega,by omega,?_,hall2,(hnx.alloc (by omega) _).grown hgrow1 (by simp;omega) (fun j hj=>(hown.lt j hj).1)⟩;rw [htk.out,rm hp128,zU];have e:yb [UInt8.ofNat p]=[.int .u8 (p:Int)]:=by show [Value.int .u8 _]=_;rw [hbb]
     rw [e];exact hown1
    case measure=>simp [intOf];omega
   have g2:decide ((p:Int)<128)=false:=KZ8 (by omega);go_wp2_with fail
   refine (HP.out _).mono ?_;rintro e w2 ⟨rfl,rfl⟩;go_wp2
   all_goals try omega
   go_roundw
   case rel=>exact ⟨k+1,m,by go_num,by omega,by omega,by rw [htk.out,rn hp128];exact hown,hall2,hnx⟩
   case measure=>simp [intOf];omega
  skip
  have hk9:pts.take k=pts:=List.take_of_length_le (by rw [HN.out];omega);have hall9:pts.all xl=true:=by rw [hall.out,List.drop_of_length_le (by rw [HN.out];omega)];rfl
  have HOK:=KZ9 (tj pts hall9);rw [hk9] at hown;have hm9:m=(zD pts).length:=by have:=hown.1;simp at this;omega
  have hes0:=ZX pts (by rw [HN.out];omega);have hdef3:sx pts=some (qq pts (zD pts).length pts.length 128 (zD pts++if (zD pts).length=0 then [] else [45]) 0 72 (zD pts).length):=by rw [hdef2.out,hall9,HN.out];rfl
  obtain ⟨R,hR⟩:=KZ6 (qq pts (zD pts).length pts.length 128 (zD pts++if (zD pts).length=0 then [] else [45]) 0 72 (zD pts).length);rw [←hR] at hes0 hdef3;rw [←hm9] at hes0;have HR:=KZ9 hdef3;obtain ⟨a2,c2,rfl⟩:=yw hown;clear hall hall9 hk9 hdef2 hdef3 hR;rcases Nat.eq_zero_or_pos m with h0 | h0
  ·obtain ⟨OUT0,hO⟩:=KZ6 (zD pts++if m=0 then ([]:Bs) else [45]);rw [←hO] at hes0;have hOe:OUT0=zD pts:=by rw [hO,if_pos h0,List.append_nil]
   have HES:=KZ9 hes0;have HOWN0:=KZ9 (show wr.ownsRow w.heap.size 5 1 (.slice a2 m c2) OUT0.length (yb OUT0) by rw [hOe,←hm9];exact hown);have HNX0:=KZ9 hnx;have g2:decide ((0:Int)<(m:Int))=false:=KZ8 (by omega);have g2n:decide (0<m)=false:=KZ8 (by omega);have h00:m≤0:=by omega
   clear hO hOe hes0 hown hm9 h0 hnx;go_wp2
   all_goals try omega
   go_loopw [4,6,8,9,10] (fun ov dnv nv dv bv wr=>∃ (out:Bs) (dn nn dl bi:Nat),dnv= .int .i64 dn∧nv= .int .i64 nn∧dv= .int .i64 dl∧bv= .int .i64 bi∧dn≤n∧nn≤1114112∧dl≤257∧bi≤324∧out.length≤257+11*dn∧wr.ownsRow w.heap.size 5 1 ov out.length (yb out)∧Hid (EncSt pts m R nn out dl bi dn)∧Below w.heap.size w wr) (fun _ dnv _ _ _ _=>n - (intOf dnv).toNat)
   case atStart=>exact ⟨OUT0,m,128,0,72,rfl,rfl,rfl,rfl,by omega,by omega,by omega,by omega,HES.out.fits,HOWN0.out,HES,HNX0.out⟩
   case round =>
    obtain ⟨out,dn,nn,dl,bi,rfl,rfl,rfl,rfl,hdn,hnn,hdl,hbi,hol,hown,hes,hnx⟩:=hrel;by_cases hlt:dn<n
    ·have hmore:=hes.out.more (by rw [HN.out];exact hlt) HOK.out;obtain ⟨M,hM⟩:=KZ6 (zz nn 1114112 pts);rw [←hM] at hmore;obtain ⟨hm1,hm2,hm3,hm4,hm5⟩:=hmore;have hM30:zz nn 1073741824 pts=M:=by
      rw [hM];exact tn nn 1073741824 1114112 pts hm5 (fun p hp=>by have:=HOK.out p hp;omega)
     have HM3:=KZ9 hm3;have HST0:Hid (min 1073741824 (zz nn 1073741824 (pts.drop 0))=M):=KZ9 (by rw [List.drop_zero,hM30];omega);have HMM:=KZ9 hM;clear hm5 hm3 hm4 hM30 hM;go_wp2
     all_goals try omega
     go_loop [11,12] (fun lv iv=>∃ k L:Nat,iv= .int .i64 k∧k≤n∧lv= .int .i64 L∧L≤1073741824∧Hid (min L (zz nn 1073741824 (pts.drop k))=M)) (fun _ iv=>n - (intOf iv).toNat)
     case atStart=>exact ⟨0,1073741824,rfl,by omega,rfl,by omega,HST0⟩
     case round =>
      obtain ⟨k,L,rfl,hk,rfl,hL,hst⟩:=hrel;by_cases hkn:k<n
      ·obtain ⟨b,off,rfl,hb1,hcell⟩:=HC.out (by rw [HN.out];omega);have hkl:k<pts.length:=by rw [HN.out];exact hkn
       have c0:=((yA hnx).1 b (off+k) hb1).trans (hcell k hkl);have hp:=HOK.out pts[k] (List.getElem_mem hkl);have hd:Hid (pts.drop k=pts[k]::pts.drop (k+1)):=KZ9 (List.drop_eq_getElem_cons hkl);obtain ⟨p,hpp⟩:=KZ6 (pts[k]);rw [←hpp] at c0 hp hd;clear hcell hpp hkl;by_cases hge:nn≤p
       ·have g2:decide ((nn:Int)≤(p:Int))=true:=KZ7 (by omega);obtain ⟨L2,hL2⟩:=KZ6 (min L p);have hmin:min (L:Int) (p:Int)=(L2:Int):=by omega
        have hst2:Hid (min L2 (zz nn 1073741824 (pts.drop (k+1)))=M):=KZ9 (by rw [←hst.out,hd.out,vT hge,hL2,Nat.min_assoc]);have hL2b:L2≤1073741824:=by omega
        have HL2:=KZ9 hL2;clear hst hL2;go_wp2
        all_goals try omega
        go_round
        case rel=>exact ⟨k+1,L2,by go_num,by omega,(by have:=HL2.out;congr 1<;>split<;>omega),hL2b,hst2⟩
        case measure=>simp [intOf];omega
       have g2:decide ((nn:Int)≤(p:Int))=false:=KZ8 (by omega);have hst2:Hid (min L (zz nn 1073741824 (pts.drop (k+1)))=M):=KZ9 (by rw [←hst.out,hd.out,vS hge]);clear hst;go_wp2
       all_goals try omega
       go_round
       case rel=>exact ⟨k+1,L,by go_num,by omega,rfl,hL,hst2⟩
       case measure=>simp [intOf];omega
      have hLM:L=M:=by
       have h1:=hst.out;rw [List.drop_of_length_le (by rw [HN.out];omega),zz] at h1;omega
      have HLM:=KZ9 hLM;have hL1:nn≤L:=by omega
      have hL2:L≤1114111:=by omega
      obtain ⟨Q,hQ⟩:=KZ6 ((L - nn)*(dn+1));have hQb:Q≤300000000:=by
       rw [hQ];exact Nat.le_trans (Nat.mul_le_mul (show L - nn≤1114111 by omega) (show dn+1≤257 by omega)) (by decide)
      have hmul:((L:Int) - (nn:Int))*((dn:Int)+1)=(Q:Int):=by
       rw [hQ,show (L:Int) - (nn:Int)=((L - nn:Nat):Int) by omega,show (dn:Int)+1=((dn+1:Nat):Int) by omega];rfl
      obtain ⟨S,hS⟩:=KZ6 (zw L m pts out (dl+Q) bi dn);have hSd:S.2.2.2≤n:=by
       rw [hS,yh,hLM];have h1:=hes.out.more (by rw [HN.out];exact hlt) HOK.out;rw [←HMM.out] at h1;have h2:=vO M pts;have h3:=rl (M+1) pts;rw [HN.out] at h3;omega
      have hSN:Hid (S=zw (zz nn 1114112 pts) m pts out (dl+(zz nn 1114112 pts - nn)*(dn+1)) bi dn):=KZ9 (by rw [hS,←HMM.out,hQ,hLM]);have HP0:Hid (zw L m (pts.drop 0) out (dl+Q) bi dn=S):=KZ9 (by rw [List.drop_zero,hS]);have hSm:dn<S.2.2.2:=by
       rw [hS,yh];have:=vN HM3.out;rw [hLM];omega
      have hdl2:dl+Q≤300000300:=by omega
      have hSB:=KZ9 hSm;clear hst hQ hLM hS hSm;go_wp2
      all_goals try omega
      go_loopw [4,6,9,10,13] (fun ov dnv dv bv iv wr=>∃ (out:Bs) (dn dl bi k:Nat),dnv= .int .i64 dn∧dv= .int .i64 dl∧bv= .int .i64 bi∧iv= .int .i64 k∧k≤n∧dl≤300000300+k∧bi≤324∧out.length≤257+11*dn∧wr.ownsRow w.heap.size 5 1 ov out.length (yb out)∧Hid (zw L m (pts.drop k) out dl bi dn=S)∧Below w.heap.size w wr) (fun _ _ _ _ iv _=>n - (intOf iv).toNat)
      case atStart=>exact ⟨out,dn,dl+Q,bi,0,rfl,by go_num,rfl,rfl,by omega,by omega,by omega,by omega,hown,HP0,hnx⟩
      case round =>
       obtain ⟨out,dn,dl,bi,k,rfl,rfl,rfl,rfl,hk,hdl,hbi,hol,hown,hst4,hnx⟩:=hrel;have hsz:=hnx.size;have hdn:dn≤n:=by
        have h1:=yh L m (pts.drop k) out dl bi dn;rw [hst4.out] at h1;omega
       by_cases hkn:k<n
       ·obtain ⟨b,off,rfl,hb1,hcell⟩:=HC.out (by rw [HN.out];omega);have hkl:k<pts.length:=by rw [HN.out];exact hkn
        have c0:=((yA hnx).1 b (off+k) hb1).trans (hcell k hkl);have hp:=HOK.out pts[k] (List.getElem_mem hkl);have hdrop:Hid (pts.drop k=pts[k]::pts.drop (k+1)):=KZ9 (List.drop_eq_getElem_cons hkl);obtain ⟨p,hpp⟩:=KZ6 (pts[k]);rw [←hpp] at c0 hp hdrop;clear hcell hpp hkl;rcases Nat.lt_trichotomy p L with hpl | hpl | hpl
        ·have g2:decide ((p:Int)<(L:Int))=true:=KZ7 (by omega);have g3:((p:Int) != (L:Int))=true:=by simp;omega
         have hst5:Hid (zw L m (pts.drop (k+1)) out (dl+1) bi dn=S):=KZ9 (by rw [←hst4.out,hdrop.out,sy hpl]);clear hst4;go_wp2
         all_goals try omega
         go_roundw
         case rel=>exact ⟨out,dn,dl+1,bi,k+1,rfl,by go_num,rfl,by go_num,by omega,by omega,by omega,by omega,hown,hst5,hnx⟩
         case measure=>simp [intOf];omega
        ·have hpL:=KZ9 hpl;have hpl1:p≤L:=by omega
         have hpl2:L≤p:=by omega
         have g2:decide ((p:Int)<(L:Int))=false:=KZ8 (by omega);have g3:((p:Int) != (L:Int))=false:=by simp;omega
         clear hpl;have hS5:Hid (out++vx dl 0 bi=out++vx dl 0 bi):=KZ9 rfl;have hlen5:=uO 9 dl 0 bi (by omega);obtain ⟨T5,hT5⟩:=KZ6 (out++vx dl 0 bi);have hT5l:T5.length≤257+11*dn+10:=by rw [hT5,List.length_append];omega
         have HT5:=KZ9 hT5;go_wp2
         all_goals try omega
         go_loopw [4,14,15] (fun ov qv kv wr=>∃ (o5:Bs) (q5 k5:Nat),qv= .int .i64 q5∧kv= .int .i64 k5∧q5+k5≤300001000∧wr.ownsRow w.heap.size 5 1 ov o5.length (yb o5)∧Hid (T5=o5++vx q5 k5 bi)∧Below w.heap.size w wr) (fun _ qv _ _=>(intOf qv).toNat)
         case atStart=>exact ⟨out,dl,0,rfl,rfl,by omega,hown,HT5,hnx⟩
         case round =>
          obtain ⟨o5,q5,k5,rfl,rfl,hqk,hown,hst5,hnx⟩:=hrel;have hsz:=hnx.size;have hol:o5.length≤257+11*dn+10:=by have:=congrArg List.length hst5.out;rw [List.length_append] at this;omega
          have htb:=wm k5 bi;have ht:=fun W=>tm k5 bi W (by omega) (by omega);have hES:=@uN q5 k5 bi;have hEB:=@pk q5 k5 bi;obtain ⟨t,htt⟩:=KZ6 (thr k5 bi);rw [←htt] at htb hES hEB;simp only [←htt] at ht;have HT:=KZ9 ht;clear htt ht;by_cases hqt:q5<t
          ·have g8:decide ((t:Int)≤(q5:Int))=false:=KZ8 (by omega);have hfin:=hES hqt;have hdg:=fun W=>rx q5 W (by omega);obtain ⟨f,hff⟩:=KZ6 (decide (dn=m));have hfi:((dn:Int)==(m:Int))=f:=by rw [hff,Bool.eq_iff_iff];simp;omega
           have had:=fun W=>pG dl (dn+1) f W (by omega) (by omega) (by omega);rw [Int.natCast_add] at had;have hal:=uB dl (dn+1) f (by omega);obtain ⟨b2,hb2⟩:=KZ6 (xV dl (dn+1) f);simp only [←hb2] at had;rw [←hb2] at hal;have hnext:Hid (zw L m (pts.drop (k+1)) T5 0 b2 (dn+1)=S):=KZ9 (by rw [←hst4.out,hdrop.out,sA hpL.out,←HT5.out,hb2,hff]);have hT5e:Hid (T5=o5++[pd q5]):=KZ9 (by rw [hst5.out,hfin]);have HD:=KZ9 hdg;have HAD:=KZ9 had;clear hdg had hff hb2 hfin hES hEB;go_wp2_with fail
           refine (HT.out _).mono ?_;rintro e w2 ⟨rfl,rfl⟩;go_wp2_with fail
           all_goals try omega
           refine (HD.out _).mono ?_;rintro e w2 ⟨rfl,rfl⟩;go_wp2_with (first | (at_builtin;refine wpList_append_own _ rfl (.tmp 134) (.tmp 137) 32 rfl (w.heap.size) 5 iB0 (.int .u8 0) 1 1 Tryz.underlying32 iB.1 iB.2.1 iB.2.2.1 iB.2.2.2 rfl (by decide) _ _ _ rfl (hown.alloc _) ⟨wr.heap.size,0,none⟩ 1 1 [_] rfl rfl (cell_one_new _ _ _) (by intro u hu;simp at hu;subst hu;rfl) (by unfold maxLen;omega) (by omega) (by simp;omega) ?_;intro v1 w3 hown1 hgrow1 hnil1) | (go_at_call 162;refine (HAD.out _).mono ?_;rintro e w2 ⟨rfl,rfl⟩))
           all_goals try omega
           go_roundw
           case rel =>
            refine ⟨T5,dn+1,0,b2,k+1,by go_num,rfl,rfl,by go_num,by omega,by omega,by omega,by omega,?_,hnext,(hnx.alloc (by omega) _).grown hgrow1 (by simp;omega) (fun j hj=>(hown.lt j hj).1)⟩;rw [hT5e.out,zU,List.length_append];exact hown1
           case measure=>simp [intOf];omega
          have g8:decide ((t:Int)≤(q5:Int))=true:=KZ7 (by omega);have hbig:=hEB hqt;obtain ⟨r,hr⟩:=KZ6 ((q5 - t) % (36 - t));obtain ⟨q6,hq6⟩:=KZ6 ((q5 - t) / (36 - t));rw [←hr,←hq6] at hbig;have hr36:r<36 - t:=by rw [hr];exact Nat.mod_lt _ (by omega)
          have hq6l:q6≤q5 - t:=by rw [hq6];exact Nat.div_le_self _ _
          have e1:((q5:Int) - (t:Int))=((q5 - t:Nat):Int):=by omega
          have e2:(36:Int) - (t:Int)=((36 - t:Nat):Int):=by omega
          have hri:((q5:Int) - (t:Int)) % (36 - (t:Int))=(r:Int):=by rw [e1,e2,hr];rfl
          have hrt:((q5:Int) - (t:Int)).tmod (36 - (t:Int))=(r:Int):=by rw [Int.tmod_eq_emod_of_nonneg (by omega)];exact hri
          have hdi:((q5:Int) - (t:Int)) / (36 - (t:Int))=(q6:Int):=by rw [e1,e2,hq6];rfl
          have hdt:((q5:Int) - (t:Int)).tdiv (36 - (t:Int))=(q6:Int):=by rw [Int.tdiv_eq_ediv_of_nonneg (by omega)];exact hdi
          have hz36:(36:Int) - (t:Int)≠0:=by omega
          have hdg:=fun W=>rx (t+r) W (by omega);simp only [Int.natCast_add] at hdg;have HD:=KZ9 hdg;have hst6:Hid (T5=(o5++[pd (t+r)])++vx q6 (k5+1) bi):=KZ9 (by rw [hst5.out,hbig,List.append_assoc];rfl);clear hdg hr hq6 e1 e2 hst5 hbig hES hEB;go_wp2_with fail
          refine (HT.out _).mono ?_;rintro e w2 ⟨rfl,rfl⟩;go_wp2_with fail
          all_goals try omega
          refine (HT.out _).mono ?_;rintro e w2 ⟨rfl,rfl⟩;go_wp2_with fail
          all_goals try omega
          refine (HD.out _).mono ?_;rintro e w2 ⟨rfl,rfl⟩;go_wp2_with (first | (at_builtin;refine wpList_append_own _ rfl (.tmp 114) (.tmp 124) 32 rfl (w.heap.size) 5 iB0 (.int .u8 0) 1 1 Tryz.underlying32 iB.1 iB.2.1 iB.2.2.1 iB.2.2.2 rfl (by decide) _ _ _ rfl (hown.alloc _) ⟨wr.heap.size,0,none⟩ 1 1 [_] rfl rfl (cell_one_new _ _ _) (by intro u hu;simp at hu;subst hu;rfl) (by unfold maxLen;omega) (by omega) (by simp;omega) ?_;intro v1 w3 hown1 hgrow1 hnil1))
          all_goals try omega
          go_roundw
          case rel =>
           refine ⟨o5++[pd (t+r)],q6,k5+1,rfl,by go_num,by omega,?_,hst6,(hnx.alloc (by omega) _).grown hgrow1 (by simp;omega) (fun j hj=>(hown.lt j hj).1)⟩;rw [zU,List.length_append];exact hown1
          case measure=>simp [intOf];omega
        have g2:decide ((p:Int)<(L:Int))=false:=KZ8 (by omega);have g3:((p:Int) != (L:Int))=true:=by simp;omega
        have hst5:Hid (zw L m (pts.drop (k+1)) out dl bi dn=S):=KZ9 (by rw [←hst4.out,hdrop.out,sz hpl]);clear hst4;go_wp2
        all_goals try omega
        go_roundw
        case rel=>exact ⟨out,dn,dl,bi,k+1,rfl,rfl,rfl,by go_num,by omega,by omega,by omega,by omega,hown,hst5,hnx⟩
        case measure=>simp [intOf];omega
       have hSe:(out,dl,bi,dn)=S:=by rw [←hst4.out,List.drop_of_length_le (by rw [HN.out];omega)];rfl
       have hnext:=hes.out.next (by rw [HN.out];exact hlt) (by rw [HN.out];omega) HOK.out S hSN.out (by rw [←hSe];exact hol) (by rw [←hSe];exact hbi);rw [←HMM.out,←HLM.out,←hSe] at hnext;have HNX:=KZ9 hnext;have hdl9:dl+1≤257:=hnext.small;have hSB2:=hSB.out;rw [←hSe] at hSB2;simp only at hSB2;clear hst4 hSe hnext;go_wp2
       all_goals try omega
       go_roundw
       case rel=>exact ⟨out,dn,L+1,dl+1,bi,rfl,by go_num,by go_num,rfl,by omega,by omega,hdl9,by omega,by omega,hown,HNX,hnx⟩
       case measure=>simp [intOf];omega
    have hend:Hid (R=out):=KZ9 (hes.out.fin (by rw [HN.out];omega));have hcv:=yI (P:=Tryz.prog) (Row.owned hown) (src:=32) (dst:=9) Tryz.underlying32 Tryz.underlying5 Tryz.underlying9;clear hes;go_wp2
    all_goals try omega
    go_ret2;exact ⟨⟨_,_,rfl,.inl ⟨rfl,by rw [HR.out,hend.out,zj]⟩⟩,hnx⟩
  obtain ⟨OUT0,hO⟩:=KZ6 (zD pts++if m=0 then ([]:Bs) else [45]);rw [←hO] at hes0;have hOe:OUT0=zD pts++[45]:=by rw [hO,if_neg (by omega)]
  have HES:=KZ9 hes0;have HOE:=KZ9 hOe;have HM9:=KZ9 hm9;have g2:decide ((0:Int)<(m:Int))=true:=KZ7 (by omega);have g2n:decide (0<m)=true:=KZ7 (by omega);clear hO hOe hes0 hm9;go_wp2_with (first | (at_builtin;refine wpList_append_own _ rfl (.tmp 51) (.tmp 52) 32 rfl (w.heap.size) 5 iB0 (.int .u8 0) 1 1 Tryz.underlying32 iB.1 iB.2.1 iB.2.2.1 iB.2.2.2 rfl (by decide) _ _ _ rfl (hown.alloc _) ⟨wr.heap.size,0,none⟩ 1 1 [_] rfl rfl (cell_one_new _ _ _) (by intro u hu;simp at hu;subst hu;rfl) (by unfold maxLen;omega) (by omega) (by simp;omega) ?_;intro v1 w3 hown1 hgrow1 hnil1))
  all_goals try omega
  have HNX0:=KZ9 ((hnx.alloc (by omega) _).grown hgrow1 (by simp;omega) (fun j hj=>(hown.lt j hj).1));have HOWN0:=KZ9 (show w3.ownsRow w.heap.size 5 1 v1 OUT0.length (yb OUT0) by rw [HOE.out,zU,List.length_append,←HM9.out];exact hown1);clear hown hown1 hgrow1 hnil1 hnx;go_loopw [4,6,8,9,10] (fun ov dnv nv dv bv wr=>∃ (out:Bs) (dn nn dl bi:Nat),dnv= .int .i64 dn∧nv= .int .i64 nn∧dv= .int .i64 dl∧bv= .int .i64 bi∧dn≤n∧nn≤1114112∧dl≤257∧bi≤324∧out.length≤257+11*dn∧wr.ownsRow w.heap.size 5 1 ov out.length (yb out)∧Hid (EncSt pts m R nn out dl bi dn)∧Below w.heap.size w wr) (fun _ dnv _ _ _ _=>n - (intOf dnv).toNat)
  case atStart=>exact ⟨OUT0,m,128,0,72,rfl,rfl,rfl,rfl,by omega,by omega,by omega,by omega,HES.out.fits,HOWN0.out,HES,HNX0.out⟩
  case round =>
   obtain ⟨out,dn,nn,dl,bi,rfl,rfl,rfl,rfl,hdn,hnn,hdl,hbi,hol,hown,hes,hnx⟩:=hrel;by_cases hlt:dn<n
   ·have hmore:=hes.out.more (by rw [HN.out];exact hlt) HOK.out;obtain ⟨M,hM⟩:=KZ6 (zz nn 1114112 pts);rw [←hM] at hmore;obtain ⟨hm1,hm2,hm3,hm4,hm5⟩:=hmore;have hM30:zz nn 1073741824 pts=M:=by
     rw [hM];exact tn nn 1073741824 1114112 pts hm5 (fun p hp=>by have:=HOK.out p hp;omega)
    have HM3:=KZ9 hm3;have HST0:Hid (min 1073741824 (zz nn 1073741824 (pts.drop 0))=M):=KZ9 (by rw [List.drop_zero,hM30];omega);have HMM:=KZ9 hM;clear hm5 hm3 hm4 hM30 hM;go_wp2
    all_goals try omega
    go_loop [11,12] (fun lv iv=>∃ k L:Nat,iv= .int .i64 k∧k≤n∧lv= .int .i64 L∧L≤1073741824∧Hid (min L (zz nn 1073741824 (pts.drop k))=M)) (fun _ iv=>n - (intOf iv).toNat)
    case atStart=>exact ⟨0,1073741824,rfl,by omega,rfl,by omega,HST0⟩
    case round =>
     obtain ⟨k,L,rfl,hk,rfl,hL,hst⟩:=hrel;by_cases hkn:k<n
     ·obtain ⟨b,off,rfl,hb1,hcell⟩:=HC.out (by rw [HN.out];omega);have hkl:k<pts.length:=by rw [HN.out];exact hkn
      have c0:=((yA hnx).1 b (off+k) hb1).trans (hcell k hkl);have hp:=HOK.out pts[k] (List.getElem_mem hkl);have hd:Hid (pts.drop k=pts[k]::pts.drop (k+1)):=KZ9 (List.drop_eq_getElem_cons hkl);obtain ⟨p,hpp⟩:=KZ6 (pts[k]);rw [←hpp] at c0 hp hd;clear hcell hpp hkl;by_cases hge:nn≤p
      ·have g2:decide ((nn:Int)≤(p:Int))=true:=KZ7 (by omega);obtain ⟨L2,hL2⟩:=KZ6 (min L p);have hmin:min (L:Int) (p:Int)=(L2:Int):=by omega
       have hst2:Hid (min L2 (zz nn 1073741824 (pts.drop (k+1)))=M):=KZ9 (by rw [←hst.out,hd.out,vT hge,hL2,Nat.min_assoc]);have hL2b:L2≤1073741824:=by omega
       have HL2:=KZ9 hL2;clear hst hL2;go_wp2
       all_goals try omega
       go_round
       case rel=>exact ⟨k+1,L2,by go_num,by omega,(by have:=HL2.out;congr 1<;>split<;>omega),hL2b,hst2⟩
       case measure=>simp [intOf];omega
      have g2:decide ((nn:Int)≤(p:Int))=false:=KZ8 (by omega);have hst2:Hid (min L (zz nn 1073741824 (pts.drop (k+1)))=M):=KZ9 (by rw [←hst.out,hd.out,vS hge]);clear hst;go_wp2
      all_goals try omega
      go_round
      case rel=>exact ⟨k+1,L,by go_num,by omega,rfl,hL,hst2⟩
      case measure=>simp [intOf];omega
     have hLM:L=M:=by
      have h1:=hst.out;rw [List.drop_of_length_le (by rw [HN.out];omega),zz] at h1;omega
     have HLM:=KZ9 hLM;have hL1:nn≤L:=by omega
     have hL2:L≤1114111:=by omega
     obtain ⟨Q,hQ⟩:=KZ6 ((L - nn)*(dn+1));have hQb:Q≤300000000:=by
      rw [hQ];exact Nat.le_trans (Nat.mul_le_mul (show L - nn≤1114111 by omega) (show dn+1≤257 by omega)) (by decide)
     have hmul:((L:Int) - (nn:Int))*((dn:Int)+1)=(Q:Int):=by
      rw [hQ,show (L:Int) - (nn:Int)=((L - nn:Nat):Int) by omega,show (dn:Int)+1=((dn+1:Nat):Int) by omega];rfl
     obtain ⟨S,hS⟩:=KZ6 (zw L m pts out (dl+Q) bi dn);have hSd:S.2.2.2≤n:=by
      rw [hS,yh,hLM];have h1:=hes.out.more (by rw [HN.out];exact hlt) HOK.out;rw [←HMM.out] at h1;have h2:=vO M pts;have h3:=rl (M+1) pts;rw [HN.out] at h3;omega
     have hSN:Hid (S=zw (zz nn 1114112 pts) m pts out (dl+(zz nn 1114112 pts - nn)*(dn+1)) bi dn):=KZ9 (by rw [hS,←HMM.out,hQ,hLM]);have HP0:Hid (zw L m (pts.drop 0) out (dl+Q) bi dn=S):=KZ9 (by rw [List.drop_zero,hS]);have hSm:dn<S.2.2.2:=by
      rw [hS,yh];have:=vN HM3.out;rw [hLM];omega
     have hdl2:dl+Q≤300000300:=by omega
     have hSB:=KZ9 hSm;clear hst hQ hLM hS hSm;go_wp2
     all_goals try omega
     go_loopw [4,6,9,10,13] (fun ov dnv dv bv iv wr=>∃ (out:Bs) (dn dl bi k:Nat),dnv= .int .i64 dn∧dv= .int .i64 dl∧bv= .int .i64 bi∧iv= .int .i64 k∧k≤n∧dl≤300000300+k∧bi≤324∧out.length≤257+11*dn∧wr.ownsRow w.heap.size 5 1 ov out.length (yb out)∧Hid (zw L m (pts.drop k) out dl bi dn=S)∧Below w.heap.size w wr) (fun _ _ _ _ iv _=>n - (intOf iv).toNat)
     case atStart=>exact ⟨out,dn,dl+Q,bi,0,rfl,by go_num,rfl,rfl,by omega,by omega,by omega,by omega,hown,HP0,hnx⟩
     case round =>
      obtain ⟨out,dn,dl,bi,k,rfl,rfl,rfl,rfl,hk,hdl,hbi,hol,hown,hst4,hnx⟩:=hrel;have hsz:=hnx.size;have hdn:dn≤n:=by
       have h1:=yh L m (pts.drop k) out dl bi dn;rw [hst4.out] at h1;omega
      by_cases hkn:k<n
      ·obtain ⟨b,off,rfl,hb1,hcell⟩:=HC.out (by rw [HN.out];omega);have hkl:k<pts.length:=by rw [HN.out];exact hkn
       have c0:=((yA hnx).1 b (off+k) hb1).trans (hcell k hkl);have hp:=HOK.out pts[k] (List.getElem_mem hkl);have hdrop:Hid (pts.drop k=pts[k]::pts.drop (k+1)):=KZ9 (List.drop_eq_getElem_cons hkl);obtain ⟨p,hpp⟩:=KZ6 (pts[k]);rw [←hpp] at c0 hp hdrop;clear hcell hpp hkl;rcases Nat.lt_trichotomy p L with hpl | hpl | hpl
       ·have g2:decide ((p:Int)<(L:Int))=true:=KZ7 (by omega);have g3:((p:Int) != (L:Int))=true:=by simp;omega
        have hst5:Hid (zw L m (pts.drop (k+1)) out (dl+1) bi dn=S):=KZ9 (by rw [←hst4.out,hdrop.out,sy hpl]);clear hst4;go_wp2
        all_goals try omega
        go_roundw
        case rel=>exact ⟨out,dn,dl+1,bi,k+1,rfl,by go_num,rfl,by go_num,by omega,by omega,by omega,by omega,hown,hst5,hnx⟩
        case measure=>simp [intOf];omega
       ·have hpL:=KZ9 hpl;have hpl1:p≤L:=by omega
        have hpl2:L≤p:=by omega
        have g2:decide ((p:Int)<(L:Int))=false:=KZ8 (by omega);have g3:((p:Int) != (L:Int))=false:=by simp;omega
        clear hpl;have hS5:Hid (out++vx dl 0 bi=out++vx dl 0 bi):=KZ9 rfl;have hlen5:=uO 9 dl 0 bi (by omega);obtain ⟨T5,hT5⟩:=KZ6 (out++vx dl 0 bi);have hT5l:T5.length≤257+11*dn+10:=by rw [hT5,List.length_append];omega
        have HT5:=KZ9 hT5;go_wp2
        all_goals try omega
        go_loopw [4,14,15] (fun ov qv kv wr=>∃ (o5:Bs) (q5 k5:Nat),qv= .int .i64 q5∧kv= .int .i64 k5∧q5+k5≤300001000∧wr.ownsRow w.heap.size 5 1 ov o5.length (yb o5)∧Hid (T5=o5++vx q5 k5 bi)∧Below w.heap.size w wr) (fun _ qv _ _=>(intOf qv).toNat)
        case atStart=>exact ⟨out,dl,0,rfl,rfl,by omega,hown,HT5,hnx⟩
        case round =>
         obtain ⟨o5,q5,k5,rfl,rfl,hqk,hown,hst5,hnx⟩:=hrel;have hsz:=hnx.size;have hol:o5.length≤257+11*dn+10:=by have:=congrArg List.length hst5.out;rw [List.length_append] at this;omega
         have htb:=wm k5 bi;have ht:=fun W=>tm k5 bi W (by omega) (by omega);have hES:=@uN q5 k5 bi;have hEB:=@pk q5 k5 bi;obtain ⟨t,htt⟩:=KZ6 (thr k5 bi);rw [←htt] at htb hES hEB;simp only [←htt] at ht;have HT:=KZ9 ht;clear htt ht;by_cases hqt:q5<t
         ·have g8:decide ((t:Int)≤(q5:Int))=false:=KZ8 (by omega);have hfin:=hES hqt;have hdg:=fun W=>rx q5 W (by omega);obtain ⟨f,hff⟩:=KZ6 (decide (dn=m));have hfi:((dn:Int)==(m:Int))=f:=by rw [hff,Bool.eq_iff_iff];simp;omega
          have had:=fun W=>pG dl (dn+1) f W (by omega) (by omega) (by omega);rw [Int.natCast_add] at had;have hal:=uB dl (dn+1) f (by omega);obtain ⟨b2,hb2⟩:=KZ6 (xV dl (dn+1) f);simp only [←hb2] at had;rw [←hb2] at hal;have hnext:Hid (zw L m (pts.drop (k+1)) T5 0 b2 (dn+1)=S):=KZ9 (by rw [←hst4.out,hdrop.out,sA hpL.out,←HT5.out,hb2,hff]);have hT5e:Hid (T5=o5++[pd q5]):=KZ9 (by rw [hst5.out,hfin]);have HD:=KZ9 hdg;have HAD:=KZ9 had;clear hdg had hff hb2 hfin hES hEB;go_wp2_with fail
          refine (HT.out _).mono ?_;rintro e w2 ⟨rfl,rfl⟩;go_wp2_with fail
          all_goals try omega
          refine (HD.out _).mono ?_;rintro e w2 ⟨rfl,rfl⟩;go_wp2_with (first | (at_builtin;refine wpList_append_own _ rfl (.tmp 134) (.tmp 137) 32 rfl (w.heap.size) 5 iB0 (.int .u8 0) 1 1 Tryz.underlying32 iB.1 iB.2.1 iB.2.2.1 iB.2.2.2 rfl (by decide) _ _ _ rfl (hown.alloc _) ⟨wr.heap.size,0,none⟩ 1 1 [_] rfl rfl (cell_one_new _ _ _) (by intro u hu;simp at hu;subst hu;rfl) (by unfold maxLen;omega) (by omega) (by simp;omega) ?_;intro v1 w3 hown1 hgrow1 hnil1) | (go_at_call 162;refine (HAD.out _).mono ?_;rintro e w2 ⟨rfl,rfl⟩))
          all_goals try omega
          go_roundw
          case rel =>
           refine ⟨T5,dn+1,0,b2,k+1,by go_num,rfl,rfl,by go_num,by omega,by omega,by omega,by omega,?_,hnext,(hnx.alloc (by omega) _).grown hgrow1 (by simp;omega) (fun j hj=>(hown.lt j hj).1)⟩;rw [hT5e.out,zU,List.length_append];exact hown1
          case measure=>simp [intOf];omega
         have g8:decide ((t:Int)≤(q5:Int))=true:=KZ7 (by omega);have hbig:=hEB hqt;obtain ⟨r,hr⟩:=KZ6 ((q5 - t) % (36 - t));obtain ⟨q6,hq6⟩:=KZ6 ((q5 - t) / (36 - t));rw [←hr,←hq6] at hbig;have hr36:r<36 - t:=by rw [hr];exact Nat.mod_lt _ (by omega)
         have hq6l:q6≤q5 - t:=by rw [hq6];exact Nat.div_le_self _ _
         have e1:((q5:Int) - (t:Int))=((q5 - t:Nat):Int):=by omega
         have e2:(36:Int) - (t:Int)=((36 - t:Nat):Int):=by omega
         have hri:((q5:Int) - (t:Int)) % (36 - (t:Int))=(r:Int):=by rw [e1,e2,hr];rfl
         have hrt:((q5:Int) - (t:Int)).tmod (36 - (t:Int))=(r:Int):=by rw [Int.tmod_eq_emod_of_nonneg (by omega)];exact hri
         have hdi:((q5:Int) - (t:Int)) / (36 - (t:Int))=(q6:Int):=by rw [e1,e2,hq6];rfl
         have hdt:((q5:Int) - (t:Int)).tdiv (36 - (t:Int))=(q6:Int):=by rw [Int.tdiv_eq_ediv_of_nonneg (by omega)];exact hdi
         have hz36:(36:Int) - (t:Int)≠0:=by omega
         have hdg:=fun W=>rx (t+r) W (by omega);simp only [Int.natCast_add] at hdg;have HD:=KZ9 hdg;have hst6:Hid (T5=(o5++[pd (t+r)])++vx q6 (k5+1) bi):=KZ9 (by rw [hst5.out,hbig,List.append_assoc];rfl);clear hdg hr hq6 e1 e2 hst5 hbig hES hEB;go_wp2_with fail
         refine (HT.out _).mono ?_;rintro e w2 ⟨rfl,rfl⟩;go_wp2_with fail
         all_goals try omega
         refine (HT.out _).mono ?_;rintro e w2 ⟨rfl,rfl⟩;go_wp2_with fail
         all_goals try omega
         refine (HD.out _).mono ?_;rintro e w2 ⟨rfl,rfl⟩;go_wp2_with (first | (at_builtin;refine wpList_append_own _ rfl (.tmp 114) (.tmp 124) 32 rfl (w.heap.size) 5 iB0 (.int .u8 0) 1 1 Tryz.underlying32 iB.1 iB.2.1 iB.2.2.1 iB.2.2.2 rfl (by decide) _ _ _ rfl (hown.alloc _) ⟨wr.heap.size,0,none⟩ 1 1 [_] rfl rfl (cell_one_new _ _ _) (by intro u hu;simp at hu;subst hu;rfl) (by unfold maxLen;omega) (by omega) (by simp;omega) ?_;intro v1 w3 hown1 hgrow1 hnil1))
         all_goals try omega
         go_roundw
         case rel =>
          refine ⟨o5++[pd (t+r)],q6,k5+1,rfl,by go_num,by omega,?_,hst6,(hnx.alloc (by omega) _).grown hgrow1 (by simp;omega) (fun j hj=>(hown.lt j hj).1)⟩;rw [zU,List.length_append];exact hown1
         case measure=>simp [intOf];omega
       have g2:decide ((p:Int)<(L:Int))=false:=KZ8 (by omega);have g3:((p:Int) != (L:Int))=true:=by simp;omega
       have hst5:Hid (zw L m (pts.drop (k+1)) out dl bi dn=S):=KZ9 (by rw [←hst4.out,hdrop.out,sz hpl]);clear hst4;go_wp2
       all_goals try omega
       go_roundw
       case rel=>exact ⟨out,dn,dl,bi,k+1,rfl,rfl,rfl,by go_num,by omega,by omega,by omega,by omega,hown,hst5,hnx⟩
       case measure=>simp [intOf];omega
      have hSe:(out,dl,bi,dn)=S:=by rw [←hst4.out,List.drop_of_length_le (by rw [HN.out];omega)];rfl
      have hnext:=hes.out.next (by rw [HN.out];exact hlt) (by rw [HN.out];omega) HOK.out S hSN.out (by rw [←hSe];exact hol) (by rw [←hSe];exact hbi);rw [←HMM.out,←HLM.out,←hSe] at hnext;have HNX:=KZ9 hnext;have hdl9:dl+1≤257:=hnext.small;have hSB2:=hSB.out;rw [←hSe] at hSB2;simp only at hSB2;clear hst4 hSe hnext;go_wp2
      all_goals try omega
      go_roundw
      case rel=>exact ⟨out,dn,L+1,dl+1,bi,rfl,by go_num,by go_num,rfl,by omega,by omega,hdl9,by omega,by omega,hown,HNX,hnx⟩
      case measure=>simp [intOf];omega
   have hend:Hid (R=out):=KZ9 (hes.out.fin (by rw [HN.out];omega));have hcv:=yI (P:=Tryz.prog) (Row.owned hown) (src:=32) (dst:=9) Tryz.underlying32 Tryz.underlying5 Tryz.underlying9;clear hes;go_wp2
   all_goals try omega
   go_ret2;exact ⟨⟨_,_,rfl,.inl ⟨rfl,by rw [HR.out,hend.out,zj]⟩⟩,hnx⟩
end Go.Proofs.YtjbciamhhfcdoaaGreatDoor
namespace Hs
open Go Go.RowKit
theorem ZE (b off j:Nat):(⟨b,off,none⟩:Addr).add j=⟨b,off+j,none⟩:=by
 unfold Addr.add;split
 ·rename_i h;rw [h];rfl
 rfl
theorem qe (l:List Nat):∀ u∈zq l,u.oneCell'=true:=by
 intro u hu;unfold zq at hu;obtain ⟨x,_,rfl⟩:=List.mem_map.1 hu;rfl
theorem Nums.below {w w':World} {v:Value} {l:List Nat} (h:Nums w v l) (hb:Below w.heap.size w w'):Nums w' v l:=Row.below h hb
theorem Nums.nil (w:World):Nums w (.slice none 0 0) []:=Row.nil w 1
theorem Nums.owned {w:World} {base n:Nat} {e:TypeId} {v:Value} {l:List Nat} (h:w.ownsRow base e 1 v n (zq l)):Nums w v l:=by
 have h1:=h.1;rw [tq] at h1;have:=Row.owned h;rw [←(show l.length=n by omega)] at this;exact this
theorem Nums.part {w:World} {b off n c:Nat} {l:List Nat} (h:Nums w (.slice (some ⟨b,off,none⟩) n c) l) (i j c':Nat) (hij:i≤j) (hj:j≤n) (hc:j - i≤c') (hcm:c'≤maxLen) :
  Nums w (.slice (some ⟨b,off+i,none⟩) (j - i) c') ((l.take j).drop i):=by
 obtain ⟨hl,a,cap,hv,hn,hm,h⟩:=h;injection hv with h1 h2 h3
 have hln:l.length=n:=h2.symm;have hlen:((l.take j).drop i).length=j - i:=by rw [List.length_drop,List.length_take,hln,Nat.min_eq_left hj]
 refine ⟨by simp,some ⟨b,off+i,none⟩,c',by rw [hlen],by omega,hcm,?_⟩;rcases h with h | ⟨b2,off2,ha,hlt,hcell⟩
 ·left;omega
 rw [←h1] at ha;injection ha with ha
 injection ha with e1 e2
 subst e1 e2;refine .inr ⟨b,off+i,rfl,hlt,fun k u hk=> ?_⟩;rw [Nat.add_assoc];refine hcell (i+k) u ?_;unfold zq at hk ⊢;rw [List.getElem?_map] at hk ⊢;rw [List.getElem?_drop,List.getElem?_take] at hk;split at hk
 ·exact hk
 cases hk
theorem Nums.kept {w w':World} {b off n c:Nat} {l:List Nat} {row:Option Nat} (h:Nums w (.slice (some ⟨b,off,none⟩) n c) l) (hg:w.grownBy w' row) (hr:some b≠row):Nums w' (.slice (some ⟨b,off,none⟩) n c) l:=by
 obtain ⟨hl,a,cap,hv,hn,hm,h⟩:=h;refine ⟨hl,a,cap,hv,hn,hm,h.imp id ?_⟩;rintro ⟨b2,off2,ha,hlt,hc⟩;have hb:b2=b:=by
  injection hv with h1
  rw [←h1] at ha;injection ha with ha
  injection ha with e1
  exact e1.symm
 subst hb;exact ⟨b2,off2,ha,by have:=hg.size;omega,fun j u hj=>(World.cell?_of_block (w:=w) (a:=⟨b2,off2+j,none⟩) (hg.block b2 hlt hr)).trans (hc j u hj)⟩
theorem Nums.head {w:World} {b n c:Nat} {l:List Nat} (h:Nums w (.slice (some ⟨b,0,none⟩) n c) l) (j:Nat) (hj:j≤n) (hnc:n≤c) (hcm:c≤maxLen):Nums w (.slice (some ⟨b,0,none⟩) j c) (l.take j):=by
 have:=h.part 0 j c (Nat.zero_le _) hj (by omega) hcm
 simpa using this
theorem Nums.tail {w:World} {b n c:Nat} {l:List Nat} (h:Nums w (.slice (some ⟨b,0,none⟩) n c) l) (hl:l.length=n) (i:Nat) (hi:i≤n) (hnc:n≤c) (hcm:c≤maxLen):Nums w (.slice (some ⟨b,i,none⟩) (n - i) (c - i)) (l.drop i):=by
 have:=h.part i n (c - i) hi (Nat.le_refl _) (by omega) (by omega);rw [List.take_of_length_le (by omega),Nat.zero_add] at this;exact this
theorem Nums.tail2 {w:World} {b n c:Nat} {l:List Nat} (h:Nums w (.slice (some ⟨b,0,none⟩) n c) l) (hl:l.length=n) (i:Nat) (hi:i≤n) (hnc:n≤c) (hcm:c≤maxLen):Nums w (.slice (if c=i then some ⟨b,0,none⟩ else some ⟨b,i,none⟩) (n - i) (c - i)) (l.drop i):=by
 by_cases hc:c=i
 ·rw [if_pos hc];have:l.drop i=[]:=List.drop_of_length_le (by omega);rw [this,show n - i=0 by omega,show c - i=0 by omega];exact ⟨by simp,some ⟨b,0,none⟩,0,rfl,Nat.le_refl _,by simp [maxLen],.inl rfl⟩
 rw [if_neg hc];exact h.tail hl i hi hnc hcm
theorem pN (w:World) (base:Nat) (hb:base≤w.heap.size) (e:TypeId):(w.alloc (.cells #[] e)).ownsRow base e 1 (.slice (some ⟨w.heap.size,0,none⟩) 0 0) 0 [] :=
 ⟨rfl,.inr ⟨w.heap.size,0,#[],rfl,hb,heap_alloc_new w _,Nat.le_refl _,by simp [maxLen],rfl,rfl⟩⟩
theorem U3 (w:World) (x:Nat) (e:TypeId):Nums (w.alloc (.cells #[.int .i64 (x:Int)] e)) (.slice (some ⟨w.heap.size,0,none⟩) 1 1) [x]:=by
 refine ⟨by simp,some ⟨w.heap.size,0,none⟩,1,by simp,by simp,by simp [maxLen],.inr ⟨w.heap.size,0,rfl,by simp,fun j u hj=> ?_⟩⟩;rw [Nat.zero_add,World.cell?_alloc_mark]
 simpa [zq] using hj
theorem qQ (w:World) (x y:Nat) (e:TypeId):Nums (w.alloc (.cells #[.int .i64 ((x:Int)+(y:Int))] e)) (.slice (some ⟨w.heap.size,0,none⟩) 1 1) [x+y]:=by
 rw [←Int.natCast_add];exact U3 w (x+y) e
theorem kK (w:World) (e:TypeId):(w.alloc (.cells #[] e)).drew.ownsRow w.heap.size e 1 (.slice (some ⟨w.heap.size,0,none⟩) 0 0) 0 (zq []):=(pN w w.heap.size (Nat.le_refl _) e).drew
theorem kJ (w:World) (e:TypeId) (o:Obj):((w.alloc (.cells #[] e)).alloc o).drew.ownsRow w.heap.size e 1 (.slice (some ⟨w.heap.size,0,none⟩) 0 0) 0 (zq []):=((pN w w.heap.size (Nat.le_refl _) e).alloc o).drew
theorem kI (w:World) (e:TypeId) (o:Obj):((w.alloc o).alloc (.cells #[] e)).drew.ownsRow w.heap.size e 1 (.slice (some ⟨w.heap.size+1,0,none⟩) 0 0) 0 (zq []):=by
 have h:=(pN (w.alloc o) w.heap.size (by simp) e).drew;rw [World.size_alloc] at h;exact h
theorem JJ {w w':World} {o:Obj} {x y n c:Nat} {e:TypeId} (hg:((w.alloc o).alloc (.cells #[.int .i64 ((x:Int)+(y:Int))] e)).drew.grownBy w' (Value.slice (some ⟨w.heap.size,0,none⟩) n c).ownBlock):Nums w' (.slice (some ⟨w.heap.size+1,0,none⟩) 1 1) [x+y]:=by
 have h:=qQ (w.alloc o) x y e;rw [World.size_alloc] at h;exact (h.below (Below.refl _ _).drew).kept hg (by simp [Value.ownBlock])
theorem JI {w w':World} {o:Obj} {x y n c:Nat} {e:TypeId} (hg:((w.alloc (.cells #[.int .i64 ((x:Int)+(y:Int))] e)).alloc o).drew.grownBy w' (Value.slice (some ⟨w.heap.size+1,0,none⟩) n c).ownBlock):Nums w' (.slice (some ⟨w.heap.size,0,none⟩) 1 1) [x+y] :=
 ((qQ w x y e).below ((Below.refl _ _).alloc (Nat.le_refl _) _).drew).kept hg (by simp [Value.ownBlock])
theorem P8 {w w':World} {o:Obj} {z n c:Nat} (hg:(w.alloc o).drew.grownBy w' (Value.slice (some ⟨z,0,none⟩) n c).ownBlock) (hz:w.heap.size≤z):Below w.heap.size w w' :=
 (((Below.refl w.heap.size w).alloc (Nat.le_refl _) o).drew).grown hg (by simp) (fun k hk=>by simp [Value.ownBlock] at hk;omega)
theorem Tl {w w':World} {o o':Obj} {z n c:Nat} (hg:((w.alloc o).alloc o').drew.grownBy w' (Value.slice (some ⟨z,0,none⟩) n c).ownBlock) (hz:w.heap.size≤z):Below w.heap.size w w' :=
 ((((Below.refl w.heap.size w).alloc (Nat.le_refl _) o).alloc (by simp) o').drew).grown hg (by simp;omega) (fun k hk=>by simp [Value.ownBlock] at hk;omega)
theorem Tk {w a b:World} {base n m:Nat} {e:TypeId} {v:Value} {xs:List Value} (hb:Below base w a) (hB:base≤w.heap.size) (ho:a.ownsRow base e m v n xs) (hg:a.grownBy b v.ownBlock):Below base w b :=
 hb.grown hg (Nat.le_trans hB hb.size) (fun k hk=>(ho.lt k hk).1)
theorem P7 {w a b:World} {base n m:Nat} {e:TypeId} {v:Value} {xs:List Value} {o:Obj} (hb:Below base w a) (hB:base≤w.heap.size) (ho:a.ownsRow base e m v n xs) (hg:(a.alloc o).grownBy b v.ownBlock):Below base w b :=
 (hb.alloc (Nat.le_trans hB hb.size) o).grown hg (by rw [World.size_alloc];exact Nat.le_succ_of_le (Nat.le_trans hB hb.size)) (fun k hk=>(ho.lt k hk).1)
end Hs
namespace Go.Proofs.YtjbciamhhfcdoaaGreatDoor
open Go.RowKit Hs
theorem qZ:(Tryz.prog.info? 3).map (fun i=>(i.zero,i.size,i.bytes))=some (some (.int .i64 0),1,8):=by kernel_rfl
theorem jp (w:World) (ty:TypeId) (base:Nat) (v:Value) (n:Nat) (xs:List Nat) (hown:w.ownsRow base 3 1 v n (zq xs)) (xv:Value) (r:List Nat) (hr:Nums w xv r) (h1:n+r.length≤1000000) (hb:base≤w.heap.size) :
  ∃ v' w',(Builtin.append_ #[140,140] ty #[v,xv]).run Tryz.prog w= .ok v' w'∧w'.ownsRow base 3 1 v' (n+r.length) (zq (xs++r))∧w.grownBy w' v.ownBlock:=by
 obtain ⟨iN0,iN⟩:=info_parts qZ;obtain ⟨ar,c,rfl,hn,hm,hc⟩:=hr.open;rcases Nat.eq_zero_or_pos r.length with h0 | hpos
 ·obtain rfl:r=[]:=List.eq_nil_of_length_eq_zero h0;refine ⟨v,w,?_,by simpa [zq] using hown,⟨rfl,rfl,rfl,Nat.le_refl _,fun _ _ _=>rfl⟩⟩;rcases hown.2 with ⟨rfl,rfl⟩ | ⟨g,cap,cur,rfl,_,_,hnc,_⟩<;>cases ar <;>
   simp [Builtin.append_,run_underlying Tryz.underlying140,sizeOf,typeInfo,iN.1,Builtin.lenOf,Builtin.firstCells,loadCells,loadCellsFrom,storeCells, *]
 obtain ⟨b,off,rfl,hlt,hcell⟩:=hc hpos;have hnews:∀ j u,(zq r)[j]? =some u→w.cell? ((⟨b,off,none⟩:Addr).add j)=some u:=by
  intro j u hj;obtain ⟨h,e⟩:=List.getElem?_eq_some_iff.1 hj;have hjl:j<r.length:=by simpa using h
  rw [ZE,hcell j hjl,←e];simp [zq]
 obtain ⟨v',w',h2,h3,h4,_⟩:=run_append_own (P:=Tryz.prog) w base 140 ty 3 iN0 (.int .i64 0) 1 8 Tryz.underlying140 iN.1 iN.2.1 iN.2.2.1 iN.2.2.2 rfl (by decide) v n (zq xs) hown ⟨b,off,none⟩ r.length c (zq r) (by simp) hnews (qe r) (by unfold maxLen;omega) (by omega) hb;exact ⟨v',w',h2,by rw [xH];exact h3,h4⟩
theorem yU {ops:Array Oper} {o:Oper} {a:Act} {w:World} {K:Act→World→Prop} {Q:Exit→Act→World→Prop} {E:Prop} (hgd:o.guard=none) (s x:Operand)
  (ho:o.op= .call { callee:= .builtin .append,args:=#[s,x],argTypes:=#[140,140] })
  (base:Nat) (v:Value) (n:Nat) (xs:List Nat) (hs:a.eval s=v) (hown:w.ownsRow base 3 1 v n (zq xs)) (xv:Value) (hx:a.eval x=xv) (r:List Nat) (hr:Nums w xv r) (h1:n+r.length≤1000000) (hb:base≤w.heap.size)
  (h:∀ v' w',w'.ownsRow base 3 1 v' (n+r.length) (zq (xs++r))→w.grownBy w' v.ownBlock→K (a.put o.dst v') w'):if Region.wanted o (yielded ops a.tmps)=true then Oper.wp Tryz.prog o a w K Q else E:=by
 have hw:Region.wanted o (yielded ops a.tmps)=true:=by simp [Region.wanted,hgd]
 rw [if_pos hw];obtain ⟨v',w',hrun,h2,h3⟩:=jp w o.type base v n xs hown xv r hr h1 hb;unfold Oper.wp execOp;simp only [ho,resolve,invoke,builtin,Sem.run_bind,Sem.run_pure,Result.andThen_ok,List.map_toArray,List.map_cons,List.map_nil,hs,hx,hrun];exact h v' w' h2 h3
end Go.Proofs.YtjbciamhhfcdoaaGreatDoor
namespace Hs
open Go
theorem gw (l:Bs) (f:UInt8→Bool) (k:Nat) (h:k<l.length):(l.drop k).any f=(f l[k]||(l.drop (k+1)).any f):=by
 rw [List.drop_eq_getElem_cons h,List.any_cons]
theorem PP (l:Bs) (c:Nat) (hc:c=(wa l).toNat):ud l=(l.take c,l.drop (if 0<c then c+1 else c)):=by
 unfold ud;by_cases h:0<wa l
 ·rw [if_pos h,if_pos (by omega),hc]
 have h0:c=0:=by omega
 rw [if_neg h,h0];rfl
theorem gE (l:Bs) (b:UInt8):wa (l++[b])=if b=45 then (l.length:Int) else wa l:=by
 rw [pm,qj,pm]
theorem WW (l:Bs):(wa (l++[45])).toNat=l.length:=by rw [gE,if_pos rfl];omega
theorem WV (l:Bs) {b:UInt8} (h:b≠45):(wa (l++[b])).toNat=(wa l).toNat:=by rw [gE,if_neg h]
theorem RG (i w k bias:Nat):vi [] i w k bias=none:=rfl
theorem X6 {b:UInt8} {r:Bs} {i w k bias:Nat} (h:pv b=99):vi (b::r) i w k bias=none:=by rw [vi,if_pos h]
theorem X4 {b:UInt8} {r:Bs} {i w k bias:Nat} (h:pv b≠99) (h2:1099511627776<i+pv b*w):vi (b::r) i w k bias=none:=by rw [vi,if_neg h,if_pos h2]
theorem X5 {b:UInt8} {r:Bs} {i w k bias:Nat} (h:pv b≠99) (h2:¬ 1099511627776<i+pv b*w) (h3:pv b<thr k bias):vi (b::r) i w k bias=some (i+pv b*w,r):=by rw [vi,if_neg h,if_neg h2,if_pos h3]
theorem ZC {b:UInt8} {r:Bs} {i w k bias:Nat} (h:pv b≠99) (h2:¬ 1099511627776<i+pv b*w) (h3:¬ pv b<thr k bias) (h4:1099511627776<w*(36 - thr k bias)):vi (b::r) i w k bias=none:=by rw [vi,if_neg h,if_neg h2,if_neg h3,if_pos h4]
theorem ZD {b:UInt8} {r:Bs} {i w k bias:Nat} (h:pv b≠99) (h2:¬ 1099511627776<i+pv b*w) (h3:¬ pv b<thr k bias) (h4:¬ 1099511627776<w*(36 - thr k bias)):vi (b::r) i w k bias=vi r (i+pv b*w) (w*(36 - thr k bias)) (k+1) bias:=by rw [vi,if_neg h,if_neg h2,if_neg h3,if_neg h4]
theorem Ro {l:List Nat} {i n:Nat} (h:l.all xl=true) (hn:xl n=true):(xf l i n).all xl=true:=by
 rw [xf,List.all_append,List.all_cons,hn];have h':=List.all_eq_true.1 h;rw [List.all_eq_true.2 (fun x hx=>h' x (List.mem_of_mem_take hx)),List.all_eq_true.2 (fun x hx=>h' x (List.mem_of_mem_drop hx))];rfl
theorem Tp:∀ (f:Nat) (l:Bs) (n i bias:Nat) (first:Bool) (pts out:List Nat),pts.all xl=true→pts.length≤256→pV f l n i bias first pts=some out→out.all xl=true∧out.length≤256
 | _,[],_,_,_,_,pts,out,h,hl,e=>by
  simp only [pV] at e;cases e;exact ⟨h,hl⟩
 | 0,_::_,_,_,_,_,_,_,_,_,e=>by simp [pV] at e
 | f+1,b::r,n,i,bias,first,pts,out,h,hl,e=>by
  unfold pV at e;cases hN:vi (b::r) i 1 0 bias with
  | none=>rw [hN] at e;cases e
  | some p =>
   rw [hN] at e;simp only at e;split at e
   ·cases e
   rename_i hp;split at e
   ·cases e
   rename_i hq;exact Tp f _ _ _ _ _ _ out (Ro h (by simpa using hp)) (by rw [wz];omega) e
theorem To {l:Bs} {out:List Nat} (h:vy l=some out):out.all xl=true∧out.length≤256:=by
 unfold vy at h;split at h
 ·cases h
 split at h
 ·cases h
 rename_i ha;split at h
 ·cases h
 rename_i hc;refine Tp _ _ _ _ _ _ _ out ?_ (by rw [List.length_map];omega) h;rw [List.all_map];apply List.all_eq_true.2;intro x hx;have hx2:x∈l:=by
  unfold ud at hx;split at hx
  ·exact List.mem_of_mem_take hx
  cases hx
 have hlt:¬ 128≤x.toNat:=by
  intro h128;apply ha;exact List.any_eq_true.2 ⟨x,hx2,KZ7 h128⟩
 show xl x.toNat=true;unfold xl;apply KZ7;omega
end Hs
namespace Hs
open Go Go.RowKit
theorem rT (l:Bs) (f:UInt8→Bool) (k:Nat) (h:k<l.length) (hf:f l[k]=false):(l.drop k).any f=(l.drop (k+1)).any f:=by
 rw [gw l f k h,hf,Bool.false_or]
theorem ZH (l:Bs) (k:Nat) (h:k<l.length):(l.take (k+1)).map UInt8.toNat=(l.take k).map UInt8.toNat++[(l[k]).toNat]:=by
 rw [List.take_succ_eq_append_getElem h,List.map_append];rfl
end Hs
namespace Go.Proofs.YtjbciamhhfcdoaaGreatDoor
open Go.RowKit Hs
set_option maxRecDepth 20000
set_option maxHeartbeats 16000000
theorem VJ (s:ByteArray) (w:World) (hs:s.size≤100000000):Calls Tryz.prog 100 #[.string s] w fun e w'=>(∃ v c,e= .returned (.tuple #[v,.int .i64 c])∧((c=0∧∃ pts:List Nat,vy (un s)=some pts∧w'.ownsRow w.heap.size 3 1 v pts.length (zq pts))∨(c≠0∧v= .slice none 0 0∧vy (un s)=none)))∧Below w.heap.size w w':=by
 obtain ⟨iN0,iN⟩:=info_parts qZ;have hlen:(un s).length=s.size:=zb s;obtain ⟨l,hl⟩:=KZ6 (un s);have hdef:Hid (vy l=if 1024<l.length then none else if l.any (fun b=>decide (128≤b.toNat))=true then none else if 256<(ud l).1.length then none else rI (ud l).2 128 0 72 true ((ud l).1.map UInt8.toNat)):=KZ9 rfl;rw [←hl] at hlen ⊢;have HL:=KZ9 hl;have HLEN:=KZ9 hlen;have HDB:=KZ9 (ul l);clear hl;obtain ⟨n,hn⟩:=KZ6 s.size;rw [←hn] at hs hlen;have HN:=KZ9 hn;have hsn:(s.size:Int)=(n:Int):=by rw [hn]
 clear hn hlen;by_cases hlong:1024<n
 ·have g1:decide ((1024:Int)<(n:Int))=true:=KZ7 (by omega);have hend:Hid (vy l=none):=KZ9 (by rw [hdef.out,if_pos (by rw [HLEN.out,←HN.out];exact hlong)]);clear hdef;go_enter Tryz.func100,Tryz.ntmps100
  go_wp2
  all_goals try omega
  go_ret2;exact ⟨⟨_,_,rfl,.inr ⟨by decide,rfl,hend.out⟩⟩,Below.refl _ _⟩
 have g1:decide ((1024:Int)<(n:Int))=false:=KZ8 (by omega);have hdef2:=KZ9 (hdef.out.trans (if_neg (by rw [HLEN.out,←HN.out];exact hlong)));clear hdef;go_enter Tryz.func100,Tryz.ntmps100
 go_wp2
 all_goals try omega
 go_loop [4,5] (fun cv iv=>∃ k c:Nat,iv= .int .i64 k∧k≤n∧cv= .int .i64 c∧c≤k∧Hid (c=(wa (l.take k)).toNat)∧Hid (l.any (fun b=>decide (128≤b.toNat))=(l.drop k).any (fun b=>decide (128≤b.toNat)))) (fun _ iv=>n - (intOf iv).toNat)
 case atStart=>exact ⟨0,0,rfl,by omega,rfl,by omega,KZ9 (by simp [wa]),KZ9 (by rw [List.drop_zero])⟩
 case round =>
  obtain ⟨k,c,rfl,hk,rfl,hck,hda,han⟩:=hrel;by_cases hlt:k<n
  ·have hks:k<s.size:=by rw [←HN.out];exact hlt
   have hkl:k<l.length:=by rw [HLEN.out];exact hks
   have hx:l[k]=s[k]:=by
    have:=HL.out;subst this;exact zL s k hks
   obtain ⟨b,hb⟩:=KZ6 (s[k]);rw [←hb] at hx;have hb256:=b.toNat_lt;have cs:(s[k].toNat:Int)=(b.toNat:Int):=by rw [hb]
   have hst:=rT l (fun b=>decide (128≤b.toNat)) k hkl;have hdr:=gw l (fun b=>decide (128≤b.toNat)) k hkl;rw [hx] at hst hdr;have htk:Hid (l.take (k+1)=l.take k++[b]):=KZ9 (by rw [List.take_succ_eq_append_getElem hkl,hx]);have HS:=KZ9 hst;have HD:=KZ9 hdr;have HB:=KZ9 hb;have HLK:Hid ((l.take k).length=k):=KZ9 (by rw [List.length_take];omega);have hb45:Hid (b.toNat=45→b=45):=KZ9 (fun h=>UInt8.toNat_inj.1 h);clear hst hdr hx hb hkl;obtain ⟨x,hx⟩:=KZ6 b.toNat;rw [←hx] at cs hb256;by_cases h128:128≤x
   ·have g2:decide ((128:Int)≤(x:Int))=true:=KZ7 (by omega);have hend:Hid (vy l=none):=KZ9 (by rw [hdef2.out,han.out,HD.out,if_pos (by simp [←hx,h128])]);clear hdef2 HS HD hda han hx htk;go_wp2
    all_goals try omega
    go_ret2;exact ⟨⟨_,_,rfl,.inr ⟨by decide,rfl,hend.out⟩⟩,Below.refl _ _⟩
   have g2:decide ((128:Int)≤(x:Int))=false:=KZ8 (by omega);have han2:Hid (l.any (fun b=>decide (128≤b.toNat))=(l.drop (k+1)).any (fun b=>decide (128≤b.toNat))):=KZ9 (by rw [han.out];exact HS.out (by rw [←hx];simp;omega));by_cases h45:x=45
   ·have g3:((x:Int)==45)=true:=by simp;omega
    have hd2:Hid (k=(wa (l.take (k+1))).toNat):=KZ9 (by rw [htk.out,hb45.out (by omega),WW,HLK.out]);clear hdef2 HS HD hda han htk hb45 hx;go_wp2
    all_goals try omega
    go_round
    case rel=>exact ⟨k+1,k,by go_num,by omega,rfl,by omega,hd2,han2⟩
    case measure=>simp [intOf];omega
   have g3:((x:Int)==45)=false:=by simp;omega
   have hd2:Hid (c=(wa (l.take (k+1))).toNat):=KZ9 (by
    rw [htk.out,WV (l.take k) (b:=b) (by rintro rfl;exact h45 (by rw [hx];rfl))];exact hda.out)
   clear hdef2 HS HD hda han htk hb45 hx;go_wp2
   all_goals try omega
   go_round
   case rel=>exact ⟨k+1,c,by go_num,by omega,rfl,by omega,hd2,han2⟩
   case measure=>simp [intOf];omega
  have hln:l.length≤k:=by rw [HLEN.out,←HN.out];omega
  have hdef3:=KZ9 (hdef2.out.trans (if_neg (by rw [han.out,List.drop_of_length_le hln];simp)));have hcd:Hid (c=(wa l).toNat):=KZ9 (by rw [hda.out,List.take_of_length_le hln]);have hcn:c=0∨c<n:=by
   have:=HDB.out;have:=hcd.out;have:=HLEN.out;have:=HN.out;omega
  have hct:=PP l c hcd.out;have hc1:(ud l).1.length=c:=by rw [hct,List.length_take,HLEN.out,←HN.out];omega
  have hc2:Hid ((ud l).1.map UInt8.toNat=(l.take c).map UInt8.toNat):=KZ9 (by rw [hct]);have hc3:Hid ((ud l).2=l.drop (if 0<c then c+1 else c)):=KZ9 (by rw [hct]);have HC1:=KZ9 hc1;clear hdef2 hda han hct hc1 hcd;go_wp2
  all_goals try omega
  go_loopw [6,7] (fun ov iv wr=>∃ k:Nat,iv= .int .i64 k∧k≤c∧wr.ownsRow w.heap.size 3 1 ov k (zq ((l.take k).map UInt8.toNat))∧Below w.heap.size w wr) (fun _ iv _=>c - (intOf iv).toNat)
  case atStart=>exact ⟨0,rfl,by omega,World.ownsRow_nil _ _ _ _,Below.refl _ _⟩
  case round =>
   obtain ⟨k,rfl,hk,hown,hnx⟩:=hrel;have hsz:=hnx.size;by_cases hlt:k<c
   ·have hks:k<s.size:=by rw [←HN.out];omega
    have hkl:k<l.length:=by rw [HLEN.out];exact hks
    have hx:l[k]=s[k]:=by
     have:=HL.out;subst this;exact zL s k hks
    have hms:=ZH l k hkl;rw [hx] at hms;have HMS:=KZ9 hms;have hb256:=(s[k]).toNat_lt;obtain ⟨x,hx2⟩:=KZ6 ((s[k]).toNat);have cs:(s[k].toNat:Int)=(x:Int):=by rw [hx2]
    have HX:=KZ9 hx2;rw [←hx2] at hb256;clear hms hx hx2 hkl;go_wp2_with (first | (at_builtin;refine wpList_append_own _ rfl (.tmp 41) (.tmp 46) 140 rfl (w.heap.size) 3 iN0 (.int .i64 0) 1 8 Tryz.underlying140 iN.1 iN.2.1 iN.2.2.1 iN.2.2.2 rfl (by decide) _ _ _ rfl (hown.alloc _) ⟨wr.heap.size,0,none⟩ 1 1 [_] rfl rfl (cell_one_new _ _ _) (by intro u hu;simp at hu;subst hu;rfl) (by unfold maxLen;omega) (by omega) (by simp;omega) ?_;intro v1 w3 hown1 hgrow1 hnil1))
    all_goals try omega
    go_roundw
    case rel =>
     refine ⟨k+1,by go_num,by omega,?_,(hnx.alloc (by omega) _).grown hgrow1 (by simp;omega) (fun j hj=>(hown.lt j hj).1)⟩;rw [HMS.out,xH,←HX.out];exact hown1
    case measure=>simp [intOf];omega
   obtain rfl:k=c:=by omega
   by_cases hc256:256<k
   ·have hend:Hid (vy l=none):=KZ9 (by rw [hdef3.out,if_pos (by rw [HC1.out];exact hc256)]);have g2:decide ((256:Int)<(k:Int))=true:=KZ7 (by omega);obtain ⟨a,c2,rfl⟩:=yw hown;clear hdef3 hc2 hc3;go_wp2
    all_goals try omega
    go_ret2;exact ⟨⟨_,_,rfl,.inr ⟨by decide,rfl,hend.out⟩⟩,hnx⟩
   have hdef4:=hdef3.out.trans (if_neg (by rw [HC1.out];exact hc256));rw [hc2.out,hc3.out] at hdef4;have g2:decide ((256:Int)<(k:Int))=false:=KZ8 (by omega);obtain ⟨A,hA⟩:=KZ6 (if 0<k then k+1 else k);rw [←hA] at hdef4;have HDEF:=KZ9 hdef4;obtain ⟨P,hP⟩:=KZ6 ((l.take k).map UInt8.toNat);rw [←hP] at hown HDEF;have hPl:P.length=k:=by have:=hown.1;simpa using this
   have HA:(0<k∧A=k+1)∨(k=0∧A=k):=by
    rw [hA];split<;>omega
   obtain ⟨a,c2,rfl⟩:=yw hown;have HOWN:=KZ9 (show wr.ownsRow w.heap.size 3 1 (.slice a k c2) P.length (zq P) by rw [hPl];exact hown);have HPL:=KZ9 hPl;have HNX:=KZ9 hnx;have hA1:A≤n:=by omega
   clear hdef3 hdef4 hc2 hc3 hA hP hown hnx hcn hPl;go_upto_if 53 with fail
   all_goals try omega
   go_cut [8] (fun av wx=>av= .int .i64 (A:Int)∧wx=wr)
   case first =>
    rcases HA with ⟨h0,hAk⟩ | ⟨h0,hAk⟩
    ·have g3:decide ((0:Int)<(k:Int))=true:=KZ7 (by omega);go_wp2
     all_goals try omega
     go_meet
     case rel=>exact ⟨by rw [hAk];go_num,rfl⟩
    have g3:decide ((0:Int)<(k:Int))=false:=KZ8 (by omega);go_wp2
    all_goals try omega
    go_meet
    case rel=>exact ⟨by rw [hAk],rfl⟩
   case rest =>
   obtain ⟨rfl,rfl⟩:=hcut;have hP256:P.length≤256:=by rw [HPL.out];omega
   clear HA hc256 hlt hk g2 HC1 HDB;go_wp2
   all_goals try omega
   go_loopw [6,8,9,10,11,12] (fun ov av nv iv bv fv wr=>∃ (pts:List Nat) (at_ nn ii bi:Nat) (fi:Bool),av= .int .i64 at_∧nv= .int .i64 nn∧iv= .int .i64 ii∧bv= .int .i64 bi∧fv= .bool fi∧at_≤n∧nn≤1114111∧ii≤257∧bi≤324∧pts.length≤256∧wr.ownsRow w.heap.size 3 1 ov pts.length (zq pts)∧Hid (vy l=rI (l.drop at_) nn ii bi fi pts)∧Below w.heap.size w wr) (fun _ av _ _ _ _ _=>n - (intOf av).toNat)
   case atStart=>exact ⟨P,A,128,0,72,true,rfl,rfl,rfl,rfl,rfl,hA1,by omega,by omega,by omega,hP256,HOWN.out,HDEF,HNX.out⟩
   case round =>
    clear HOWN HNX HPL HDEF hP256 P hA1 A;obtain ⟨pts,at_,nn,ii,bi,fi,rfl,rfl,rfl,rfl,rfl,hat,hnn,hii,hbi,hpl,hown,hst,hnx⟩:=hrel;by_cases hlt:at_<n
    ·obtain ⟨m,hm⟩:=KZ6 pts.length;rw [←hm] at hown hpl;have HM2:=KZ9 hm;clear hm;have HOWN:=KZ9 hown;have HNX:=KZ9 hnx;obtain ⟨ao,co,rfl⟩:=yw hown;clear hown hnx;go_wp2
     all_goals try omega
     go_loop [8,10,14,15] (fun av iv wv kv=>∃ a2 i2 w2 k2:Nat,av= .int .i64 a2∧iv= .int .i64 i2∧wv= .int .i64 w2∧kv= .int .i64 k2∧at_≤a2∧a2≤n∧at_+k2≤a2∧ii≤i2∧i2≤1099511627776∧w2≤1099511627776∧Hid (vi (l.drop at_) ii 1 0 bi=vi (l.drop a2) i2 w2 k2 bi)) (fun av _ _ _=>n - (intOf av).toNat)
     case atStart=>exact ⟨at_,ii,1,0,rfl,rfl,rfl,rfl,by omega,by omega,by omega,by omega,by omega,by omega,KZ9 rfl⟩
     case round =>
      obtain ⟨a2,i2,w2,k2,rfl,rfl,rfl,rfl,ha1,ha2,hak,hi1,hi2,hw2,hnum⟩:=hrel;by_cases han:a2<n
      ·have hks:a2<s.size:=by rw [←HN.out];exact han
       have hkl:a2<l.length:=by rw [HLEN.out];exact hks
       have hx:l[a2]=s[a2]:=by
        have:=HL.out;subst this;exact zL s a2 hks
       have hdr:l.drop a2=s[a2]::l.drop (a2+1):=by rw [List.drop_eq_getElem_cons hkl,hx]
       obtain ⟨b,hb⟩:=KZ6 (s[a2]);rw [←hb] at hdr;have hnum2:vi (l.drop at_) ii 1 0 bi=vi (b::l.drop (a2+1)) i2 w2 k2 bi:=by rw [hnum.out,hdr]
       have HNUM:=KZ9 hnum2;have hval:=fun W=>TV b W;have cs:(s[a2].toNat:Int)=(b.toNat:Int):=by rw [hb]
       have hpI:pvI b=if pv b=99 then -1 else (pv b:Int):=rfl
       have hplt:=@P4 b;obtain ⟨pI,hp⟩:=KZ6 (pvI b);rw [←hp] at hpI;simp only [←hp] at hval;have HVAL:=KZ9 hval;clear hb hx hdr hnum2 hnum hp hval hkl;by_cases h99:pv b=99
       ·rw [if_pos h99] at hpI;subst hpI;have hnone:=HNUM.out.trans (X6 h99);have hend:Hid (vy l=none):=KZ9 (by rw [hst.out,tP (by rw [Ne,List.drop_eq_nil_iff,HLEN.out,←HN.out];omega) hnone]);clear HNUM hst hplt h99 hnone;go_wp2_with fail
        all_goals try omega
        refine (HVAL.out _).mono ?_;rintro e w9 ⟨rfl,rfl⟩;go_wp2
        all_goals try omega
        go_ret2;exact ⟨⟨_,_,rfl,.inr ⟨by decide,rfl,hend.out⟩⟩,HNX.out⟩
       rw [if_neg h99] at hpI;have hp36:=hplt h99;have h99b:pv b≠99:=h99;obtain ⟨x,hx⟩:=KZ6 (pv b);rw [←hx] at hpI hp36;subst hpI;obtain ⟨M,hM⟩:=KZ6 (x*w2);have hMb:M≤38482906972160:=by
        rw [hM];exact Nat.le_trans (Nat.mul_le_mul (show x≤35 by omega) hw2) (by decide)
       have hmul:(x:Int)*(w2:Int)=(M:Int):=by rw [hM];rfl
       have hMx:pv b*w2=M:=by rw [←hx,hM]
       have HX:=KZ9 hx;have HM:=KZ9 hMx;have H99:=KZ9 h99b;clear hx hM hMx h99b hplt h99;by_cases hfar:1099511627776<i2+M
       ·have g5:decide ((1099511627776:Int)<(i2:Int)+(M:Int))=true:=KZ7 (by omega);have hnone:=HNUM.out.trans (X4 H99.out (by rw [HM.out];exact hfar));have hend:Hid (vy l=none):=KZ9 (by rw [hst.out,tP (by rw [Ne,List.drop_eq_nil_iff,HLEN.out,←HN.out];omega) hnone]);clear HNUM hst hnone;go_wp2_with fail
        all_goals try omega
        refine (HVAL.out _).mono ?_;rintro e w9 ⟨rfl,rfl⟩;go_wp2
        all_goals try omega
        go_ret2;exact ⟨⟨_,_,rfl,.inr ⟨by decide,rfl,hend.out⟩⟩,HNX.out⟩
       have g5:decide ((1099511627776:Int)<(i2:Int)+(M:Int))=false:=KZ8 (by omega);have hfar2:¬ 1099511627776<i2+pv b*w2:=by rw [HM.out];exact hfar
       have htb:=wm k2 bi;have hthr:=fun W=>tm k2 bi W (by omega) (by omega);obtain ⟨t,ht⟩:=KZ6 (thr k2 bi);rw [←ht] at htb;simp only [←ht] at hthr;have HTHR:=KZ9 hthr;clear hthr;by_cases hxt:x<t
       ·have g6:decide ((x:Int)<(t:Int))=true:=KZ7 (by omega);have hsome:=HNUM.out.trans (X5 H99.out hfar2 (by rw [←ht,←HX.out];exact hxt));rw [HM.out] at hsome;have hdl:=Z0 (n:=nn) (first:=fi) (pts:=pts) hsome;rw [←hst.out] at hdl;have HDL:=KZ9 hdl;clear HNUM hst hsome hdl ht hfar2 H99 HX HM;have hDL:=HDL.out;rw [←HM2.out] at hDL;obtain ⟨D,hD⟩:=KZ6 (i2+M - ii);rw [←hD] at hDL;have hDi:(i2:Int)+(M:Int) - (ii:Int)=(D:Int):=by omega
        have hDb:D≤1099511627776:=by omega
        have had:=fun W=>pG D (m+1) fi W hDb (by omega) (by omega);have hadb:=uB D (m+1) fi hDb;obtain ⟨bi2,hbi2⟩:∃ b2,b2=xV D (m+1) fi:=⟨_,rfl⟩;rw [←hbi2] at hadb hDL;simp only [←hbi2] at had
        push_cast at had
        have HAD:=KZ9 had;obtain ⟨I,hI⟩:=KZ6 (i2+M);rw [←hI] at hDL;obtain ⟨q,hq⟩:=KZ6 (I / (m+1));obtain ⟨r,hr⟩:=KZ6 (I % (m+1));rw [←hq,←hr] at hDL;have hrm:r≤m:=by have:=Nat.mod_lt I (show 0<m+1 by omega);omega
        have hqb:q≤1099511627776:=by have:=Nat.div_le_self I (m+1);omega
        have e1:(i2:Int)+(M:Int)=(I:Int):=by omega
        have e2:(m:Int)+1=((m+1:Nat):Int):=by omega
        have hqi:((i2:Int)+(M:Int)) / ((m:Int)+1)=(q:Int):=by rw [e1,e2,hq];rfl
        have hqt:((i2:Int)+(M:Int)).tdiv ((m:Int)+1)=(q:Int):=by rw [Int.tdiv_eq_ediv_of_nonneg (by omega)];exact hqi
        have hri:((i2:Int)+(M:Int)) % ((m:Int)+1)=(r:Int):=by rw [e1,e2,hr];rfl
        have hrt:((i2:Int)+(M:Int)).tmod ((m:Int)+1)=(r:Int):=by rw [Int.tmod_eq_emod_of_nonneg (by omega)];exact hri
        have hmz:(m:Int)+1≠0:=by omega
        have hpt:=fun W=>uo (nn+q) W (by omega);obtain ⟨ok,hok⟩:=KZ6 (xl (nn+q));have hokb:ok=true→nn+q≤1114111:=fun h=>by rw [hok] at h;exact (of_decide_eq_true h).1
        rw [←hok] at hDL;simp only [←hok] at hpt
        push_cast at hpt
        have HPT:=KZ9 hpt;have HDL2:=KZ9 hDL;clear HDL hDL hD had hbi2 hI hq hr e1 e2 hpt hok;go_wp2_with fail
        all_goals try omega
        refine (HVAL.out _).mono ?_;rintro e w9 ⟨rfl,rfl⟩;go_wp2_with fail
        all_goals try omega
        refine (HTHR.out _).mono ?_;rintro e w8 ⟨rfl,rfl⟩;go_wp2_with fail
        all_goals try omega
        refine (HAD.out _).mono ?_;rintro e w7 ⟨rfl,rfl⟩;go_wp2_with fail
        all_goals try omega
        refine (HPT.out _).mono ?_;rintro e w6 ⟨rfl,rfl⟩;cases ok
        ·have hend:Hid (vy l=none):=KZ9 (by rw [HDL2.out,if_pos rfl]);clear HDL2;go_wp2
         all_goals try omega
         go_ret2;exact ⟨⟨_,_,rfl,.inr ⟨by decide,rfl,hend.out⟩⟩,HNX.out⟩
        have hDL3:=HDL2.out;rw [if_neg (by simp)] at hDL3;have HDL3:=KZ9 hDL3;clear HDL2 hDL3;go_wp2_with fail
        all_goals try omega
        have hNb:=hokb trivial;go_cut [6] (fun ov wx=>wx.ownsRow w.heap.size 3 1 ov (m+1) (zq (xf pts r (nn+q)))∧Below w.heap.size w wx)
        case first =>
         rcases HOWN.out.2 with ⟨hao,hm0⟩ | ⟨g,cap,cur,hao,hgb,hgc,hmc,hcm,hcs,hct⟩
         ·obtain ⟨rfl,rfl⟩:ao=none∧co=0:=by injection hao with h1 _ h2;exact ⟨h1,h2⟩
          have hml:pts.length=m:=HM2.out.symm;obtain rfl:m=0:=hm0;obtain rfl:r=0:=by omega
          have hNil:∀ W,Nums W (.slice none 0 0) (pts.take 0):=fun W=>by rw [List.take_zero];exact Nums.nil W
          have hNil3:∀ W,Nums W (.slice none 0 0) (pts.drop 0):=fun W=>by rw [List.eq_nil_of_length_eq_zero hml];exact Nums.nil W
          have S1:=KZ9 (hNil wr);have S3:=KZ9 (hNil3 wr);clear hao hNil hNil3 hqi hqt hri hrt hmz g1 g5 g6 hmul
          go_region_law (first | (refine yU (by rfl) _ _ (by rfl) wr.heap.size vB _ _ (by rfl) hB _ (by rfl) (pts.drop 0) (by (try go_simp);exact S3.out.below bB) (by simp [List.length_take,List.length_drop];try omega) (by first | exact Nat.le_refl _ | exact bB.size | exact bA.size | (rw [World.size_alloc];exact Nat.le_succ_of_le bA.size) | (simp;done) | (simp;omega)) ?_;intro vC wC hC gC;have bC:Below wr.heap.size wr wC:=Tk bB (Nat.le_refl _) hB gC) | (refine yU (by rfl) _ _ (by rfl) wr.heap.size vA _ _ (by rfl) (by first | exact hA | exact hA.alloc _) _ (by rfl) [nn+q] (by first | exact qQ wA nn q _ | exact JJ gA | exact JI gA) (by simp [List.length_take];try omega) (by first | exact Nat.le_refl _ | exact bB.size | exact bA.size | (rw [World.size_alloc];exact Nat.le_succ_of_le bA.size) | (simp;done) | (simp;omega)) ?_;intro vB wB hB gB;have bB:Below wr.heap.size wr wB:=(by first | (with_reducible exact Tk bA (Nat.le_refl _) hA gB) | (with_reducible exact P7 bA (Nat.le_refl _) hA gB))) | (refine yU (by rfl) _ _ (by rfl) wr.heap.size (.slice (some ⟨_,0,none⟩) 0 0) 0 [] (by rfl) (by first | exact kK _ _ | exact kJ _ _ _ | exact kI _ _ _) _ (by rfl) (pts.take 0) (by first | exact S1.out.below ((Below.refl _ _).alloc (Nat.le_refl _) _).drew | exact S1.out.below (((Below.refl _ _).alloc (Nat.le_refl _) _).alloc (by simp) _).drew) (by simp [List.length_take];try omega) (by first | exact Nat.le_refl _ | exact bB.size | exact bA.size | (rw [World.size_alloc];exact Nat.le_succ_of_le bA.size) | (simp;done) | (simp;omega)) ?_;intro vA wA hA gA;have bA:Below wr.heap.size wr wA:=(by first | (with_reducible exact P8 gA (Nat.le_refl _)) | (with_reducible exact Tl gA (Nat.le_refl _)) | (with_reducible exact Tl gA (Nat.le_succ _)))))
          ·have hF:wC.ownsRow w.heap.size 3 1 vC (0+1) (zq (xf pts 0 (nn+q))):=by
            have h9:=Go.Joins.ownsRow_le hC HNX.out.size;have e9:([]++List.take 0 pts++[nn+q]++List.drop 0 pts:List Nat)=xf pts 0 (nn+q):=by simp [xf]
            have e8:0+(List.take 0 pts).length+[nn+q].length+(List.drop 0 pts).length=0+1:=by rw [List.length_take,List.length_drop,hml,Nat.min_eq_left (by omega)];simp;try omega
            rw [e9,e8] at h9;exact h9
           have hX:Below w.heap.size w wC:=HNX.out.trans (bC.mono HNX.out.size);clear hA gA bA hB gB bB hC gC bC;go_wp2
           all_goals (go_meet;exact ⟨hF,hX⟩)
          ·have hF:wC.ownsRow w.heap.size 3 1 vC (0+1) (zq (xf pts 0 (nn+q))):=by
            have h9:=Go.Joins.ownsRow_le hC HNX.out.size;have e9:([]++List.take 0 pts++[nn+q]++List.drop 0 pts:List Nat)=xf pts 0 (nn+q):=by simp [xf]
            have e8:0+(List.take 0 pts).length+[nn+q].length+(List.drop 0 pts).length=0+1:=by rw [List.length_take,List.length_drop,hml,Nat.min_eq_left (by omega)];simp;try omega
            rw [e9,e8] at h9;exact h9
           have hX:Below w.heap.size w wC:=HNX.out.trans (bC.mono HNX.out.size);clear hA gA bA hB gB bB hC gC bC;go_wp2
           all_goals (go_meet;exact ⟨hF,hX⟩)
          have hF:wC.ownsRow w.heap.size 3 1 vC (0+1) (zq (xf pts 0 (nn+q))):=by
           have h9:=Go.Joins.ownsRow_le hC HNX.out.size;have e9:([]++List.take 0 pts++[nn+q]++List.drop 0 pts:List Nat)=xf pts 0 (nn+q):=by simp [xf]
           have e8:0+(List.take 0 pts).length+[nn+q].length+(List.drop 0 pts).length=0+1:=by rw [List.length_take,List.length_drop,hml,Nat.min_eq_left (by omega)];simp;try omega
           rw [e9,e8] at h9;exact h9
          have hX:Below w.heap.size w wC:=HNX.out.trans (bC.mono HNX.out.size);clear hA gA bA hB gB bB hC gC bC;go_wp2
          all_goals (go_meet;exact ⟨hF,hX⟩)
         obtain ⟨rfl,rfl⟩:ao=some ⟨g,0,none⟩∧co=cap:=by injection hao with h1 _ h2;exact ⟨h1,h2⟩
         have hNums:Nums wr (.slice (some ⟨g,0,none⟩) m co) pts:=by rw [HM2.out];exact Nums.owned (by rw [←HM2.out];exact HOWN.out)
         have hml:pts.length=m:=HM2.out.symm;have hmI:(m:Int)≤(co:Int):=by omega
         have hrI:(r:Int)≤(m:Int):=by omega
         have hrI2:(r:Int)≤(co:Int):=by omega
         have hr0:(0:Int)≤(r:Int):=by omega
         have hcI:(co:Int)≤9223372036854775807:=by unfold maxLen at hcm;omega
         have S1:=KZ9 (hNums.head r (by omega) hmc hcm);have S3:=KZ9 (hNums.tail2 hml r (by omega) hmc hcm);clear hao hct hgc hcs hNums hqi hqt hri hrt hmz g1 g5 g6 hmul
         go_region_law (first | (refine yU (by rfl) _ _ (by rfl) wr.heap.size vB _ _ (by rfl) hB _ (by rfl) (pts.drop r) (by (try go_simp);exact S3.out.below bB) (by simp [List.length_take,List.length_drop];try omega) (by first | exact Nat.le_refl _ | exact bB.size | exact bA.size | (rw [World.size_alloc];exact Nat.le_succ_of_le bA.size) | (simp;done) | (simp;omega)) ?_;intro vC wC hC gC;have bC:Below wr.heap.size wr wC:=Tk bB (Nat.le_refl _) hB gC) | (refine yU (by rfl) _ _ (by rfl) wr.heap.size vA _ _ (by rfl) (by first | exact hA | exact hA.alloc _) _ (by rfl) [nn+q] (by first | exact qQ wA nn q _ | exact JJ gA | exact JI gA) (by simp [List.length_take];try omega) (by first | exact Nat.le_refl _ | exact bB.size | exact bA.size | (rw [World.size_alloc];exact Nat.le_succ_of_le bA.size) | (simp;done) | (simp;omega)) ?_;intro vB wB hB gB;have bB:Below wr.heap.size wr wB:=(by first | (with_reducible exact Tk bA (Nat.le_refl _) hA gB) | (with_reducible exact P7 bA (Nat.le_refl _) hA gB))) | (refine yU (by rfl) _ _ (by rfl) wr.heap.size (.slice (some ⟨_,0,none⟩) 0 0) 0 [] (by rfl) (by first | exact kK _ _ | exact kJ _ _ _ | exact kI _ _ _) _ (by rfl) (pts.take r) (by first | exact S1.out.below ((Below.refl _ _).alloc (Nat.le_refl _) _).drew | exact S1.out.below (((Below.refl _ _).alloc (Nat.le_refl _) _).alloc (by simp) _).drew) (by simp [List.length_take];try omega) (by first | exact Nat.le_refl _ | exact bB.size | exact bA.size | (rw [World.size_alloc];exact Nat.le_succ_of_le bA.size) | (simp;done) | (simp;omega)) ?_;intro vA wA hA gA;have bA:Below wr.heap.size wr wA:=(by first | (with_reducible exact P8 gA (Nat.le_refl _)) | (with_reducible exact Tl gA (Nat.le_refl _)) | (with_reducible exact Tl gA (Nat.le_succ _)))))
         ·have hF:wC.ownsRow w.heap.size 3 1 vC (m+1) (zq (xf pts r (nn+q))):=by
           have h9:=Go.Joins.ownsRow_le hC HNX.out.size;have e9:([]++List.take r pts++[nn+q]++List.drop r pts:List Nat)=xf pts r (nn+q):=by simp [xf]
           have e8:0+(List.take r pts).length+[nn+q].length+(List.drop r pts).length=m+1:=by rw [List.length_take,List.length_drop,hml,Nat.min_eq_left (by omega)];simp;try omega
           rw [e9,e8] at h9;exact h9
          have hX:Below w.heap.size w wC:=HNX.out.trans (bC.mono HNX.out.size);clear hA gA bA hB gB bB hC gC bC;go_wp2
          all_goals (go_meet;exact ⟨hF,hX⟩)
         ·have hF:wC.ownsRow w.heap.size 3 1 vC (m+1) (zq (xf pts r (nn+q))):=by
           have h9:=Go.Joins.ownsRow_le hC HNX.out.size;have e9:([]++List.take r pts++[nn+q]++List.drop r pts:List Nat)=xf pts r (nn+q):=by simp [xf]
           have e8:0+(List.take r pts).length+[nn+q].length+(List.drop r pts).length=m+1:=by rw [List.length_take,List.length_drop,hml,Nat.min_eq_left (by omega)];simp;try omega
           rw [e9,e8] at h9;exact h9
          have hX:Below w.heap.size w wC:=HNX.out.trans (bC.mono HNX.out.size);clear hA gA bA hB gB bB hC gC bC;go_wp2
          all_goals (go_meet;exact ⟨hF,hX⟩)
         have hF:wC.ownsRow w.heap.size 3 1 vC (m+1) (zq (xf pts r (nn+q))):=by
          have h9:=Go.Joins.ownsRow_le hC HNX.out.size;have e9:([]++List.take r pts++[nn+q]++List.drop r pts:List Nat)=xf pts r (nn+q):=by simp [xf]
          have e8:0+(List.take r pts).length+[nn+q].length+(List.drop r pts).length=m+1:=by rw [List.length_take,List.length_drop,hml,Nat.min_eq_left (by omega)];simp;try omega
          rw [e9,e8] at h9;exact h9
         have hX:Below w.heap.size w wC:=HNX.out.trans (bC.mono HNX.out.size);clear hA gA bA hB gB bB hC gC bC;go_wp2
         all_goals (go_meet;exact ⟨hF,hX⟩)
        case rest =>
        obtain ⟨hF,hX⟩:=hcut;have HF:=KZ9 hF;have HX:=KZ9 hX;obtain ⟨aC,cC,rfl⟩:=yw hF;clear hF hX HNX HOWN hqi hqt hri hrt hmz g1 g5 g6 hmul;by_cases h256:256<m+1
        ·have hend:Hid (vy l=none):=KZ9 (by rw [HDL3.out,if_pos h256]);have g8:decide ((256:Int)<(m:Int)+1)=true:=KZ7 (by omega);clear HDL3;go_wp2
         all_goals try omega
         go_ret2;exact ⟨⟨_,_,rfl,.inr ⟨by decide,rfl,hend.out⟩⟩,HX.out⟩
        have hDL4:=HDL3.out;rw [if_neg h256] at hDL4;have HDL4:=KZ9 hDL4;have g8:decide ((256:Int)<(m:Int)+1)=false:=KZ8 (by omega);clear HDL3 hDL4;go_wp2
        all_goals try omega
        go_roundw
        case rel =>
         exact ⟨xf pts r (nn+q),a2+1,nn+q,r+1,bi2,false,by go_num,by go_num,by go_num,rfl,rfl,by omega,by omega,by omega,by omega,by rw [wz,←HM2.out];omega,by rw [wz,←HM2.out];exact HF.out,HDL4,HX.out⟩
        case measure=>simp [intOf];omega
       have g6:decide ((x:Int)<(t:Int))=false:=KZ8 (by omega);obtain ⟨Z,hZ⟩:=KZ6 (w2*(36 - t));have hZb:Z≤39582418599936:=by
        rw [hZ];exact Nat.le_trans (Nat.mul_le_mul hw2 (show 36 - t≤36 by omega)) (by decide)
       have hzm:(w2:Int)*(36 - (t:Int))=(Z:Int):=by rw [hZ,show (36:Int) - (t:Int)=((36 - t:Nat):Int) by omega];rfl
       by_cases hzw:1099511627776<Z
       ·have g7:decide ((1099511627776:Int)<(Z:Int))=true:=KZ7 (by omega);have hnone:=HNUM.out.trans (ZC H99.out hfar2 (by rw [←ht,←HX.out];exact hxt) (by rw [←ht,←hZ];exact hzw));have hend:Hid (vy l=none):=KZ9 (by rw [hst.out,tP (by rw [Ne,List.drop_eq_nil_iff,HLEN.out,←HN.out];omega) hnone]);clear HNUM hst hnone ht hfar2 H99 HX HM hZ;go_wp2_with fail
        all_goals try omega
        refine (HVAL.out _).mono ?_;rintro e w9 ⟨rfl,rfl⟩;go_wp2_with fail
        all_goals try omega
        refine (HTHR.out _).mono ?_;rintro e w8 ⟨rfl,rfl⟩;go_wp2
        all_goals try omega
        go_ret2;exact ⟨⟨_,_,rfl,.inr ⟨by decide,rfl,hend.out⟩⟩,HNX.out⟩
       have g7:decide ((1099511627776:Int)<(Z:Int))=false:=KZ8 (by omega);have hmore:=HNUM.out.trans (ZD H99.out hfar2 (by rw [←ht,←HX.out];exact hxt) (by rw [←ht,←hZ];exact hzw));rw [HM.out,←ht,←hZ] at hmore;have HMORE:=KZ9 hmore;clear HNUM hmore ht hfar2 H99 HX HM hZ;go_wp2_with fail
       all_goals try omega
       refine (HVAL.out _).mono ?_;rintro e w9 ⟨rfl,rfl⟩;go_wp2_with fail
       all_goals try omega
       refine (HTHR.out _).mono ?_;rintro e w8 ⟨rfl,rfl⟩;go_wp2
       all_goals try omega
       go_round
       case rel=>exact ⟨a2+1,i2+M,Z,k2+1,by go_num,by go_num,by go_num,by go_num,by omega,by omega,by omega,by omega,by omega,by omega,HMORE⟩
       case measure=>simp [intOf];omega
      have hnone:vi (l.drop at_) ii 1 0 bi=none:=by rw [hnum.out,List.drop_of_length_le (by rw [HLEN.out,←HN.out];omega),RG]
      have hend:Hid (vy l=none):=KZ9 (by rw [hst.out,tP (by rw [Ne,List.drop_eq_nil_iff,HLEN.out,←HN.out];omega) hnone]);clear hst hnone hnum;go_wp2
      all_goals try omega
      go_ret2;exact ⟨⟨_,_,rfl,.inr ⟨by decide,rfl,hend.out⟩⟩,HNX.out⟩
    have hend:Hid (vy l=some pts):=KZ9 (by rw [hst.out,List.drop_of_length_le (by rw [HLEN.out,←HN.out];omega),WT]);obtain ⟨ao,co,rfl⟩:=yw hown;clear hst;go_wp2
    all_goals try omega
    go_ret2;exact ⟨⟨_,_,rfl,.inl ⟨rfl,pts,hend.out,hown⟩⟩,hnx⟩
end Go.Proofs.YtjbciamhhfcdoaaGreatDoor
namespace Hs
open Go Go.RowKit
theorem vX (l:List Nat) (f:Nat→Bool) (k:Nat) (h:k<l.length):(l.take (k+1)).any f=((l.take k).any f||f l[k]):=by
 rw [List.take_succ_eq_append_getElem h,List.any_append];simp
theorem rS (l:List Nat) (f:Nat→Bool) (k:Nat) (h:k<l.length) (hf:f l[k]=true):l.any f=true :=
 List.any_eq_true.2 ⟨l[k],List.getElem_mem h,hf⟩
theorem qG {l:Bs} (h:vy l=none):uY l=false:=by unfold uY;rw [h]
theorem qF {l:Bs} {p:List Nat} (h:vy l=some p):uY l=(!(p.any (fun n=>decide (65≤n∧n≤90)))&&p.any (fun n=>decide (128≤n))&&decide (sx p=some l)):=by unfold uY;rw [h]
end Hs
namespace Go.Proofs.YtjbciamhhfcdoaaGreatDoor
open Go.RowKit Hs
set_option maxRecDepth 20000
set_option maxHeartbeats 4000000
theorem VI (s:ByteArray) (w:World) (hs:s.size≤100000000):Calls Tryz.prog 65 #[.string s] w fun e w'=>e= .returned (.bool (uY (un s)))∧Below w.heap.size w w':=by
 have hdec:=VJ s w hs;have HDEC:=KZ9 hdec;clear hdec;go_enter Tryz.func65,Tryz.ntmps65
 go_wp2_with fail
 refine HDEC.out.mono ?_;rintro e w2 ⟨⟨v,c,rfl,hres⟩,hb2⟩;have HB2:=KZ9 hb2;clear hb2 HDEC;rcases hres with ⟨rfl,pts,hdv,hown⟩ | ⟨hc,rfl,hnone⟩
 ·have hok:=To hdv;have hP:=qF hdv;have hbig:∀ p∈pts,p≤1152921504606846976:=fun p hp=>by have:=tj pts hok.1 p hp;omega
  have hN:=Nums.owned hown;have henc:=kj v pts w2 hN (by omega) hbig;have HP:=KZ9 hP;obtain ⟨a,cp,rfl,hn1,hn2,hcell⟩:=hN.open;have hlen:pts.length≤256:=hok.2;have HCELL:=KZ9 hcell;obtain ⟨m,hm⟩:=KZ6 pts.length;rw [←hm] at hlen hn1 henc ⊢;have HM:=KZ9 hm;have HENC:=KZ9 henc;clear hdv hP hbig hok hown hN henc hcell hm;go_wp2
  all_goals try omega
  go_loop [5,6] (fun ov iv=>∃ (k:Nat) (b:Bool),iv= .int .i64 k∧ov= .bool b∧k≤m∧Hid (b=(pts.take k).any (fun n=>decide (128≤n)))∧Hid ((pts.take k).any (fun n=>decide (65≤n∧n≤90))=false)) (fun _ iv=>m - (intOf iv).toNat)
  case atStart=>exact ⟨0,false,rfl,rfl,by omega,KZ9 rfl,KZ9 rfl⟩
  case round =>
   obtain ⟨k,b,rfl,rfl,hk,hb,hu⟩:=hrel;by_cases hlt:k<m
   ·have hkl:k<pts.length:=by rw [←HM.out];exact hlt
    obtain ⟨B,off,rfl,hB,hcell⟩:=HCELL.out (by omega);have c0:=hcell k hkl;have hb2:=vX pts (fun n=>decide (128≤n)) k hkl;have hu2:=vX pts (fun n=>decide (65≤n∧n≤90)) k hkl;have ht2:=rS pts (fun n=>decide (65≤n∧n≤90)) k hkl;rw [←hb.out] at hb2;rw [hu.out,Bool.false_or] at hu2;obtain ⟨x,hx⟩:=KZ6 (pts[k]);rw [←hx] at c0 hb2 hu2 ht2;have HB:=KZ9 hb2;have HU:=KZ9 hu2;have HT:=KZ9 ht2;clear hcell hx hb2 hu2 ht2 hb hu hkl;by_cases hup:65≤x∧x≤90
    ·have hfin:=KZ9 (HP.out.trans (by rw [HT.out (KZ7 hup)]));have g1:decide ((65:Int)≤(x:Int))=true:=KZ7 (by omega);have g2:decide ((x:Int)≤90)=true:=KZ7 (by omega);have g3:decide ((128:Int)≤(x:Int))=false:=KZ8 (by omega);clear HP HU HT HENC;cases b
     all_goals
      go_wp2
      all_goals try omega
      go_ret;rw [hfin.out];exact ⟨rfl,HB2.out⟩
    have hu3:Hid ((pts.take (k+1)).any (fun n=>decide (65≤n∧n≤90))=false):=KZ9 (HU.out.trans (KZ8 hup));clear HU HT;have hsplit:x<65∨(90<x∧x<128)∨128≤x:=by omega
    rcases hsplit with h1 | ⟨h1,h2⟩ | h1
    ·have g1:decide ((65:Int)≤(x:Int))=false:=KZ8 (by omega);have g3:decide ((128:Int)≤(x:Int))=false:=KZ8 (by omega);have hB3:=HB.out;rw [show decide (128≤x)=false from KZ8 (by omega),Bool.or_false] at hB3;have HB3:=KZ9 hB3;clear hB3 HB;cases b
     all_goals
      go_wp2
      all_goals try omega
      go_round
      case rel=>exact ⟨k+1,_,by go_num,rfl,by omega,KZ9 HB3.out.symm,hu3⟩
      case measure=>simp [intOf];omega
    ·have g1:decide ((65:Int)≤(x:Int))=true:=KZ7 (by omega);have g2:decide ((x:Int)≤90)=false:=KZ8 (by omega);have g3:decide ((128:Int)≤(x:Int))=false:=KZ8 (by omega);have hB3:=HB.out;rw [show decide (128≤x)=false from KZ8 (by omega),Bool.or_false] at hB3;have HB3:=KZ9 hB3;clear hB3 HB;cases b
     all_goals
      go_wp2
      all_goals try omega
      go_round
      case rel=>exact ⟨k+1,_,by go_num,rfl,by omega,KZ9 HB3.out.symm,hu3⟩
      case measure=>simp [intOf];omega
    have g1:decide ((65:Int)≤(x:Int))=true:=KZ7 (by omega);have g2:decide ((x:Int)≤90)=false:=KZ8 (by omega);have g3:decide ((128:Int)≤(x:Int))=true:=KZ7 (by omega);have hB3:=HB.out;rw [show decide (128≤x)=true from KZ7 (by omega),Bool.or_true] at hB3;have HB3:=KZ9 hB3;clear hB3 HB;cases b
    all_goals
     go_wp2
     all_goals try omega
     go_round
     case rel=>exact ⟨k+1,true,by go_num,rfl,by omega,KZ9 HB3.out.symm,hu3⟩
     case measure=>simp [intOf];omega
   have hkm:pts.take k=pts:=List.take_of_length_le (by rw [←HM.out];omega);have hb2:=hb.out;have hu2:=hu.out;rw [hkm] at hb2 hu2;have hP2:=HP.out;rw [hu2,←hb2,Bool.not_false,Bool.true_and] at hP2;have HP2:=KZ9 hP2;clear HP hb hu hb2 hu2 hP2 hkm;go_wp2_with fail
   all_goals try omega
   refine HENC.out.mono ?_;rintro e w3 ⟨⟨s3,c3,rfl,hres⟩,hb3⟩;have HB3:=KZ9 (HB2.out.trans (hb3.mono HB2.out.size));clear hb3 HENC;rcases hres with ⟨rfl,henc⟩ | ⟨hc3,rfl,henc⟩
   ·have hP3:=HP2.out;rw [henc] at hP3;have HP3:=KZ9 hP3;clear HP2 hP3 henc;by_cases he:un s3=un s
    ·have hq:(s3.toList==s.toList)=true:=by rw [zl,zl,he];simp
     have hF:=HP3.out;rw [he,KZ7 rfl,Bool.and_true] at hF;have HF:=KZ9 hF;clear HP3 hF he;cases b
     all_goals
      go_wp2
      all_goals try omega
      go_ret;rw [HF.out];exact ⟨rfl,HB3.out⟩
    have hq:(s3.toList==s.toList)=false:=by rw [zl,zl];simpa using he
    have hF:=HP3.out;rw [KZ8 (by intro h;exact he (Option.some.inj h)),Bool.and_false] at hF;have HF:=KZ9 hF;clear HP3 hF he;cases b
    all_goals
     go_wp2
     all_goals try omega
     go_ret;rw [HF.out];exact ⟨rfl,HB3.out⟩
   have hP3:=HP2.out;rw [henc] at hP3;have g4:(c3==0)=false:=by simpa using hc3
   have HP3:=KZ9 hP3;clear HP2 hP3 henc hc3;go_wp2
   all_goals try omega
   go_ret;rw [HP3.out];exact ⟨by simp,HB3.out⟩
 have hcb:(c != 0)=true:=by simpa using hc
 have hP:=KZ9 (qG hnone);clear hc hnone;go_wp2
 all_goals try omega
 go_ret;rw [hP.out];exact ⟨rfl,HB2.out⟩
end Go.Proofs.YtjbciamhhfcdoaaGreatDoor
