/- What the proof of TopClock uses, part Clk16. -/
import Derived.Test.YtbnnlkdhpifpeaaGreatDoorClk15
import Derived.HandedShaped
import Derived.Lib.LaidU8T
set_option linter.unusedSimpArgs false
set_option linter.unusedVariables false
namespace Go.Proofs.YtbnnlkdhpifpeaaGreatDoor
open Go.RowKit Hs
theorem su (s:ByteArray) (h:0<s.size):s.toList.isEmpty=false:=by
 rw [zy];cases he:(un s).isEmpty
 ·rfl
 have h3:s.size=0:=by rw [←za,List.isEmpty_iff.1 he];rfl
 omega
theorem cb (s:ByteArray) (h:2≤s.size):un s=s[0]'(by omega)::s[1]'(by omega)::(un s).drop 2:=by
 have h0:0<(un s).length:=by rw [za];omega
 have h1:1<(un s).length:=by rw [za];omega
 have e0:=List.drop_eq_getElem_cons h0;have e1:=List.drop_eq_getElem_cons h1;rw [List.drop_zero] at e0;rw [e1] at e0;exact e0
theorem dt (l:Bs) (b:UInt8) (r:Bs) (h:l=48::b::r) (hb:b=120∨b=88):zL l=yu 16 (l.drop 2):=by
 subst h;unfold zL;rw [if_neg (by simp),if_pos (by simp [wV,hb])]
theorem T4 (l:Bs) (b:UInt8) (r:Bs) (h:l=48::b::r) (h1:b≠120) (h2:b≠88):zL l=yu 8 (l.drop 1):=by
 subst h;unfold zL;rw [if_neg (by simp),if_neg (by simp [wV,h1,h2]),if_pos (by simp)]
theorem ZL (l:Bs) (a:UInt8) (r:Bs) (h:l=a::r) (ha:a=48→r=[]):zL l=yu 10 l:=by
 subst h;unfold zL;rw [if_neg (by simp),if_neg (by cases r with | nil=>simp [wV] | cons b r=>simp [wV];intro e;exact absurd (ha e) (by simp)),if_neg (by rintro ⟨h1,h2⟩;simp at h2;rw [ha h2] at h1;simp at h1)]
set_option maxHeartbeats 2000000
theorem kb (s:ByteArray) (w:World) (hs:s.size≤100000000) (hn:s.size=1):Calls Tryz.prog 28 #[.string s] w fun e w'=>e= .returned (.tuple #[.int .i64 (zL (un s)).1,.bool (zL (un s)).2])∧Below w.heap.size w w':=by
 have hep:zL (un s)=yu 10 (un s):=by
  have hl:(un s).length=1:=by rw [za];exact hn
  match h:un s,hl with
  | [a],_=>exact ZL _ a [] rfl (fun _=>rfl)
 have g2:(s.size:Int)<2:=by omega
 have h1:=su s (by omega);obtain ⟨U,hU⟩:=KZ6 (un s);have EP:Hid (zL (un s)=yu 10 U):=KZ9 (by rw [hU];exact hep);have HU:Hid (U=un s):=KZ9 (by rw [hU]);clear hep hU;go_enter Tryz.func28,Tryz.ntmps28
 go_wp2;go_loop [5,6] (fun nv iv=>∃ k:Nat,iv= .int .i64 k∧k≤s.size∧nv= .int .i64 (yt 10 (U.take k) 0)∧yt 10 (U.take k) 0≤1099511627776∧Hid (zV 10 U=zV 10 (U.drop k))) (fun _ iv=>s.size - (intOf iv).toNat)
 case atStart=>exact ⟨0,rfl,by omega,rfl,by simp [yt],rfl⟩
 case round =>
  obtain ⟨k,rfl,hk,rfl,hle,ha⟩:=hrel;by_cases hlt:k<s.size
  ·have hlu:k<(U).length:=by rw [HU.out,za];exact hlt
   have hst:=KZ9 (wz 10 U k hlu);have hge:(U)[k]'hlu=s[k]'hlt:=by simp only [HU.out];rfl
   rw [hge] at hst;have hnx:Hid (yO (s[k]'hlt)<10→zV 10 U=zV 10 (U.drop (k+1))):=by
    intro h;have e:=ha.out;rw [zV,zV,zB U _ k hlu true (KZ7 (by rw [hge];exact h))] at e;exact e
   have hno:Hid (¬ yO (s[k]'hlt)<10→yu 10 U=(0,false)):=by
    intro h;have e:zV 10 U=false:=by rw [ha.out];unfold zV;rw [zB U _ k hlu false (KZ8 (by rw [hge];exact h))];rfl
    exact if_neg (by simp [e])
   have HD:=KZ9 (fun W=>uU (s[k]'hlt) _ rfl W);clear ha hge;obtain ⟨v,hv⟩:=KZ6 (yt 10 (U.take k) 0);rw [←hv] at hle hst ⊢;clear hv;obtain ⟨q,hq⟩:=KZ6 (yO (s[k]'hlt));rw [←hq] at hnx hno hst HD;clear hq;by_cases hqb:q<10
   ·have HN:=KZ9 (hnx.out hqb);have g1:decide ((10:Int)≤(q:Int))=false:=KZ8 (by omega);clear hnx hno;go_wp2_with fail
    refine (HD.out _).mono ?_;rintro e w2 ⟨rfl,rfl⟩;go_wp2
    all_goals try omega
    go_round
    case rel =>
     refine ⟨k+1,by go_num,by omega,?_,by rw [hst.out];omega,HN⟩;rw [hst.out]
     congr 1
     omega
    case measure=>simp [intOf];omega
   have HN:=KZ9 (hno.out hqb);have g1:decide ((10:Int)≤(q:Int))=true:=KZ7 (by omega);clear hnx hno;go_wp2_with fail
   refine (HD.out _).mono ?_;rintro e w2 ⟨rfl,rfl⟩;go_wp2
   all_goals try omega
   go_ret2;rw [EP.out,HN.out];exact ⟨rfl,by first | exact Below.refl _ _ | exact Go.below_drewN (Below.refl _ _) _⟩
  obtain rfl:k=s.size:=by omega
  have hall:Hid (yu 10 U=(yt 10 U 0,true)):=KZ9 (by
   have hlen:s.size=(U).length:=by rw [HU.out,za]
   have e:=ha.out;rw [hlen,List.drop_length] at e;unfold yu;rw [e];rfl)
  have htk:(U).take s.size=U:=List.take_of_length_le (by rw [HU.out,za];exact Nat.le_refl _);rw [htk] at hle ⊢;clear ha htk;go_wp2;go_ret2;rw [EP.out,hall.out];exact ⟨rfl,by first | exact Below.refl _ _ | exact Go.below_drewN (Below.refl _ _) _⟩
theorem ka (s:ByteArray) (w:World) (hs:s.size≤100000000) (hs2:2≤s.size) (h0:s[0]'(by omega)≠48):Calls Tryz.prog 28 #[.string s] w fun e w'=>e= .returned (.tuple #[.int .i64 (zL (un s)).1,.bool (zL (un s)).2])∧Below w.heap.size w w':=by
 have hep:=ZL _ _ _ (cb s hs2) (fun e=>absurd e h0);have g2:(2:Int)≤(s.size:Int):=by omega
 have g3:(((s[0]'(by omega)).toNat:Int)==48)=false:=by rw [beq_eq_false_iff_ne];intro e;exact h0 (UInt8.toNat_inj.1 (by have:(48:UInt8).toNat=48:=rfl;omega))
 have h1:=su s (by omega);obtain ⟨U,hU⟩:=KZ6 (un s);have EP:Hid (zL (un s)=yu 10 U):=KZ9 (by rw [hU];exact hep);have HU:Hid (U=un s):=KZ9 (by rw [hU]);clear hep hU;go_enter Tryz.func28,Tryz.ntmps28
 go_wp2;go_loop [5,6] (fun nv iv=>∃ k:Nat,iv= .int .i64 k∧k≤s.size∧nv= .int .i64 (yt 10 (U.take k) 0)∧yt 10 (U.take k) 0≤1099511627776∧Hid (zV 10 U=zV 10 (U.drop k))) (fun _ iv=>s.size - (intOf iv).toNat)
 case atStart=>exact ⟨0,rfl,by omega,rfl,by simp [yt],rfl⟩
 case round =>
  obtain ⟨k,rfl,hk,rfl,hle,ha⟩:=hrel;by_cases hlt:k<s.size
  ·have hlu:k<(U).length:=by rw [HU.out,za];exact hlt
   have hst:=KZ9 (wz 10 U k hlu);have hge:(U)[k]'hlu=s[k]'hlt:=by simp only [HU.out];rfl
   rw [hge] at hst;have hnx:Hid (yO (s[k]'hlt)<10→zV 10 U=zV 10 (U.drop (k+1))):=by
    intro h;have e:=ha.out;rw [zV,zV,zB U _ k hlu true (KZ7 (by rw [hge];exact h))] at e;exact e
   have hno:Hid (¬ yO (s[k]'hlt)<10→yu 10 U=(0,false)):=by
    intro h;have e:zV 10 U=false:=by rw [ha.out];unfold zV;rw [zB U _ k hlu false (KZ8 (by rw [hge];exact h))];rfl
    exact if_neg (by simp [e])
   have HD:=KZ9 (fun W=>uU (s[k]'hlt) _ rfl W);clear ha hge;obtain ⟨v,hv⟩:=KZ6 (yt 10 (U.take k) 0);rw [←hv] at hle hst ⊢;clear hv;obtain ⟨q,hq⟩:=KZ6 (yO (s[k]'hlt));rw [←hq] at hnx hno hst HD;clear hq;by_cases hqb:q<10
   ·have HN:=KZ9 (hnx.out hqb);have g1:decide ((10:Int)≤(q:Int))=false:=KZ8 (by omega);clear hnx hno;go_wp2_with fail
    refine (HD.out _).mono ?_;rintro e w2 ⟨rfl,rfl⟩;go_wp2
    all_goals try omega
    go_round
    case rel =>
     refine ⟨k+1,by go_num,by omega,?_,by rw [hst.out];omega,HN⟩;rw [hst.out]
     congr 1
     omega
    case measure=>simp [intOf];omega
   have HN:=KZ9 (hno.out hqb);have g1:decide ((10:Int)≤(q:Int))=true:=KZ7 (by omega);clear hnx hno;go_wp2_with fail
   refine (HD.out _).mono ?_;rintro e w2 ⟨rfl,rfl⟩;go_wp2
   all_goals try omega
   go_ret2;rw [EP.out,HN.out];exact ⟨rfl,by first | exact Below.refl _ _ | exact Go.below_drewN (Below.refl _ _) _⟩
  obtain rfl:k=s.size:=by omega
  have hall:Hid (yu 10 U=(yt 10 U 0,true)):=KZ9 (by
   have hlen:s.size=(U).length:=by rw [HU.out,za]
   have e:=ha.out;rw [hlen,List.drop_length] at e;unfold yu;rw [e];rfl)
  have htk:(U).take s.size=U:=List.take_of_length_le (by rw [HU.out,za];exact Nat.le_refl _);rw [htk] at hle ⊢;clear ha htk;go_wp2;go_ret2;rw [EP.out,hall.out];exact ⟨rfl,by first | exact Below.refl _ _ | exact Go.below_drewN (Below.refl _ _) _⟩
theorem jj (s:ByteArray) (w:World) (hs:s.size≤100000000) (hs2:2≤s.size) (h0:s[0]'(by omega)=48) (h1b:s[1]'(by omega)=120):Calls Tryz.prog 28 #[.string s] w fun e w'=>e= .returned (.tuple #[.int .i64 (zL (un s)).1,.bool (zL (un s)).2])∧Below w.heap.size w w':=by
 have hep:=dt (un s) (s[1]'(by omega)) ((un s).drop 2) (by rw [←h0];exact cb s hs2) (by rw [h1b];decide);have g2:(2:Int)≤(s.size:Int):=by omega
 have g3:(((s[0]'(by omega)).toNat:Int)==48)=true:=by rw [h0];rfl
 have g5:(((s[1]'(by omega)).toNat:Int)==120)=true:=by rw [h1b];rfl
 have h1:=su s (by omega);obtain ⟨U,hU⟩:=KZ6 ((un s).drop 2);have EP:Hid (zL (un s)=yu 16 U):=KZ9 (by rw [hU];exact hep);have HU:Hid (U=un (s.extract 2 s.size)):=KZ9 (by rw [hU];rw [jq]);clear hep hU;go_enter Tryz.func28,Tryz.ntmps28
 go_wp2;go_quiet (fail)
 go_wp2;go_loop [5,6] (fun nv iv=>∃ k:Nat,iv= .int .i64 k∧k≤(s.extract 2 s.size).size∧nv= .int .i64 (yt 16 (U.take k) 0)∧yt 16 (U.take k) 0≤1099511627776∧Hid (zV 16 U=zV 16 (U.drop k))) (fun _ iv=>s.size - (intOf iv).toNat)
 case atStart=>exact ⟨0,rfl,by omega,rfl,by simp [yt],rfl⟩
 case round =>
  obtain ⟨k,rfl,hk,rfl,hle,ha⟩:=hrel;by_cases hlt:k<(s.extract 2 s.size).size
  ·have hlt2:k<s.size - 2:=by rw [ByteArray.size_extract] at hlt;omega
   have hlu:k<(U).length:=by rw [HU.out,za];exact hlt
   have hst:=KZ9 (wz 16 U k hlu);have hge:(U)[k]'hlu=(s.extract 2 s.size)[k]'hlt:=by simp only [HU.out];rfl
   rw [hge] at hst;have hnx:Hid (yO ((s.extract 2 s.size)[k]'hlt)<16→zV 16 U=zV 16 (U.drop (k+1))):=by
    intro h;have e:=ha.out;rw [zV,zV,zB U _ k hlu true (KZ7 (by rw [hge];exact h))] at e;exact e
   have hno:Hid (¬ yO ((s.extract 2 s.size)[k]'hlt)<16→yu 16 U=(0,false)):=by
    intro h;have e:zV 16 U=false:=by rw [ha.out];unfold zV;rw [zB U _ k hlu false (KZ8 (by rw [hge];exact h))];rfl
    exact if_neg (by simp [e])
   have HD:=KZ9 (fun W=>uU ((s.extract 2 s.size)[k]'hlt) _ rfl W);clear ha hge;obtain ⟨v,hv⟩:=KZ6 (yt 16 (U.take k) 0);rw [←hv] at hle hst ⊢;clear hv;obtain ⟨q,hq⟩:=KZ6 (yO ((s.extract 2 s.size)[k]'hlt));rw [←hq] at hnx hno hst HD;clear hq;by_cases hqb:q<16
   ·have HN:=KZ9 (hnx.out hqb);have g1:decide ((16:Int)≤(q:Int))=false:=KZ8 (by omega);clear hnx hno;go_wp2_with fail
    refine (HD.out _).mono ?_;rintro e w2 ⟨rfl,rfl⟩;go_wp2
    all_goals try omega
    go_round
    case rel =>
     refine ⟨k+1,by go_num,by omega,?_,by rw [hst.out];omega,HN⟩;rw [hst.out]
     congr 1
     omega
    case measure=>simp [intOf];omega
   have HN:=KZ9 (hno.out hqb);have g1:decide ((16:Int)≤(q:Int))=true:=KZ7 (by omega);clear hnx hno;go_wp2_with fail
   refine (HD.out _).mono ?_;rintro e w2 ⟨rfl,rfl⟩;go_wp2
   all_goals try omega
   go_ret2;rw [EP.out,HN.out];exact ⟨rfl,by first | exact Below.refl _ _ | exact Go.below_drewN (Below.refl _ _) _⟩
  obtain rfl:k=(s.extract 2 s.size).size:=by omega
  have hall:Hid (yu 16 U=(yt 16 U 0,true)):=KZ9 (by
   have hlen:(s.extract 2 s.size).size=(U).length:=by rw [HU.out,za]
   have e:=ha.out;rw [hlen,List.drop_length] at e;unfold yu;rw [e];rfl)
  have htk:(U).take (s.extract 2 s.size).size=U:=List.take_of_length_le (by rw [HU.out,za];exact Nat.le_refl _);rw [htk] at hle ⊢;clear ha htk;go_wp2;go_ret2;rw [EP.out,hall.out];exact ⟨rfl,by first | exact Below.refl _ _ | exact Go.below_drewN (Below.refl _ _) _⟩
theorem jk (s:ByteArray) (w:World) (hs:s.size≤100000000) (hs2:2≤s.size) (h0:s[0]'(by omega)=48) (h1b:s[1]'(by omega)=88):Calls Tryz.prog 28 #[.string s] w fun e w'=>e= .returned (.tuple #[.int .i64 (zL (un s)).1,.bool (zL (un s)).2])∧Below w.heap.size w w':=by
 have hep:=dt (un s) (s[1]'(by omega)) ((un s).drop 2) (by rw [←h0];exact cb s hs2) (by rw [h1b];decide);have g2:(2:Int)≤(s.size:Int):=by omega
 have g3:(((s[0]'(by omega)).toNat:Int)==48)=true:=by rw [h0];rfl
 have g5:(((s[1]'(by omega)).toNat:Int)==120)=false:=by rw [h1b];rfl
 have g6:(((s[1]'(by omega)).toNat:Int)==88)=true:=by rw [h1b];rfl
 have h1:=su s (by omega);obtain ⟨U,hU⟩:=KZ6 ((un s).drop 2);have EP:Hid (zL (un s)=yu 16 U):=KZ9 (by rw [hU];exact hep);have HU:Hid (U=un (s.extract 2 s.size)):=KZ9 (by rw [hU];rw [jq]);clear hep hU;go_enter Tryz.func28,Tryz.ntmps28
 go_wp2;go_quiet (fail)
 go_wp2;go_loop [5,6] (fun nv iv=>∃ k:Nat,iv= .int .i64 k∧k≤(s.extract 2 s.size).size∧nv= .int .i64 (yt 16 (U.take k) 0)∧yt 16 (U.take k) 0≤1099511627776∧Hid (zV 16 U=zV 16 (U.drop k))) (fun _ iv=>s.size - (intOf iv).toNat)
 case atStart=>exact ⟨0,rfl,by omega,rfl,by simp [yt],rfl⟩
 case round =>
  obtain ⟨k,rfl,hk,rfl,hle,ha⟩:=hrel;by_cases hlt:k<(s.extract 2 s.size).size
  ·have hlt2:k<s.size - 2:=by rw [ByteArray.size_extract] at hlt;omega
   have hlu:k<(U).length:=by rw [HU.out,za];exact hlt
   have hst:=KZ9 (wz 16 U k hlu);have hge:(U)[k]'hlu=(s.extract 2 s.size)[k]'hlt:=by simp only [HU.out];rfl
   rw [hge] at hst;have hnx:Hid (yO ((s.extract 2 s.size)[k]'hlt)<16→zV 16 U=zV 16 (U.drop (k+1))):=by
    intro h;have e:=ha.out;rw [zV,zV,zB U _ k hlu true (KZ7 (by rw [hge];exact h))] at e;exact e
   have hno:Hid (¬ yO ((s.extract 2 s.size)[k]'hlt)<16→yu 16 U=(0,false)):=by
    intro h;have e:zV 16 U=false:=by rw [ha.out];unfold zV;rw [zB U _ k hlu false (KZ8 (by rw [hge];exact h))];rfl
    exact if_neg (by simp [e])
   have HD:=KZ9 (fun W=>uU ((s.extract 2 s.size)[k]'hlt) _ rfl W);clear ha hge;obtain ⟨v,hv⟩:=KZ6 (yt 16 (U.take k) 0);rw [←hv] at hle hst ⊢;clear hv;obtain ⟨q,hq⟩:=KZ6 (yO ((s.extract 2 s.size)[k]'hlt));rw [←hq] at hnx hno hst HD;clear hq;by_cases hqb:q<16
   ·have HN:=KZ9 (hnx.out hqb);have g1:decide ((16:Int)≤(q:Int))=false:=KZ8 (by omega);clear hnx hno;go_wp2_with fail
    refine (HD.out _).mono ?_;rintro e w2 ⟨rfl,rfl⟩;go_wp2
    all_goals try omega
    go_round
    case rel =>
     refine ⟨k+1,by go_num,by omega,?_,by rw [hst.out];omega,HN⟩;rw [hst.out]
     congr 1
     omega
    case measure=>simp [intOf];omega
   have HN:=KZ9 (hno.out hqb);have g1:decide ((16:Int)≤(q:Int))=true:=KZ7 (by omega);clear hnx hno;go_wp2_with fail
   refine (HD.out _).mono ?_;rintro e w2 ⟨rfl,rfl⟩;go_wp2
   all_goals try omega
   go_ret2;rw [EP.out,HN.out];exact ⟨rfl,by first | exact Below.refl _ _ | exact Go.below_drewN (Below.refl _ _) _⟩
  obtain rfl:k=(s.extract 2 s.size).size:=by omega
  have hall:Hid (yu 16 U=(yt 16 U 0,true)):=KZ9 (by
   have hlen:(s.extract 2 s.size).size=(U).length:=by rw [HU.out,za]
   have e:=ha.out;rw [hlen,List.drop_length] at e;unfold yu;rw [e];rfl)
  have htk:(U).take (s.extract 2 s.size).size=U:=List.take_of_length_le (by rw [HU.out,za];exact Nat.le_refl _);rw [htk] at hle ⊢;clear ha htk;go_wp2;go_ret2;rw [EP.out,hall.out];exact ⟨rfl,by first | exact Below.refl _ _ | exact Go.below_drewN (Below.refl _ _) _⟩
theorem kc (s:ByteArray) (w:World) (hs:s.size≤100000000) (hs2:2≤s.size) (h0:s[0]'(by omega)=48) (h1b:s[1]'(by omega)≠120) (h1c:s[1]'(by omega)≠88):Calls Tryz.prog 28 #[.string s] w fun e w'=>e= .returned (.tuple #[.int .i64 (zL (un s)).1,.bool (zL (un s)).2])∧Below w.heap.size w w':=by
 have hep:=T4 (un s) (s[1]'(by omega)) ((un s).drop 2) (by rw [←h0];exact cb s hs2) h1b h1c;have g2:(2:Int)≤(s.size:Int):=by omega
 have g3:(((s[0]'(by omega)).toNat:Int)==48)=true:=by rw [h0];rfl
 have g5:(((s[1]'(by omega)).toNat:Int)==120)=false:=by rw [beq_eq_false_iff_ne];intro e;exact h1b (UInt8.toNat_inj.1 (by have:(120:UInt8).toNat=120:=rfl;omega))
 have g6:(((s[1]'(by omega)).toNat:Int)==88)=false:=by rw [beq_eq_false_iff_ne];intro e;exact h1c (UInt8.toNat_inj.1 (by have:(88:UInt8).toNat=88:=rfl;omega))
 have h1:=su s (by omega);obtain ⟨U,hU⟩:=KZ6 ((un s).drop 1);have EP:Hid (zL (un s)=yu 8 U):=KZ9 (by rw [hU];exact hep);have HU:Hid (U=un (s.extract 1 s.size)):=KZ9 (by rw [hU];rw [jq]);clear hep hU;go_enter Tryz.func28,Tryz.ntmps28
 go_wp2;go_quiet (fail)
 go_wp2;go_loop [5,6] (fun nv iv=>∃ k:Nat,iv= .int .i64 k∧k≤(s.extract 1 s.size).size∧nv= .int .i64 (yt 8 (U.take k) 0)∧yt 8 (U.take k) 0≤1099511627776∧Hid (zV 8 U=zV 8 (U.drop k))) (fun _ iv=>s.size - (intOf iv).toNat)
 case atStart=>exact ⟨0,rfl,by omega,rfl,by simp [yt],rfl⟩
 case round =>
  obtain ⟨k,rfl,hk,rfl,hle,ha⟩:=hrel;by_cases hlt:k<(s.extract 1 s.size).size
  ·have hlt2:k<s.size - 1:=by rw [ByteArray.size_extract] at hlt;omega
   have hlu:k<(U).length:=by rw [HU.out,za];exact hlt
   have hst:=KZ9 (wz 8 U k hlu);have hge:(U)[k]'hlu=(s.extract 1 s.size)[k]'hlt:=by simp only [HU.out];rfl
   rw [hge] at hst;have hnx:Hid (yO ((s.extract 1 s.size)[k]'hlt)<8→zV 8 U=zV 8 (U.drop (k+1))):=by
    intro h;have e:=ha.out;rw [zV,zV,zB U _ k hlu true (KZ7 (by rw [hge];exact h))] at e;exact e
   have hno:Hid (¬ yO ((s.extract 1 s.size)[k]'hlt)<8→yu 8 U=(0,false)):=by
    intro h;have e:zV 8 U=false:=by rw [ha.out];unfold zV;rw [zB U _ k hlu false (KZ8 (by rw [hge];exact h))];rfl
    exact if_neg (by simp [e])
   have HD:=KZ9 (fun W=>uU ((s.extract 1 s.size)[k]'hlt) _ rfl W);clear ha hge;obtain ⟨v,hv⟩:=KZ6 (yt 8 (U.take k) 0);rw [←hv] at hle hst ⊢;clear hv;obtain ⟨q,hq⟩:=KZ6 (yO ((s.extract 1 s.size)[k]'hlt));rw [←hq] at hnx hno hst HD;clear hq;by_cases hqb:q<8
   ·have HN:=KZ9 (hnx.out hqb);have g1:decide ((8:Int)≤(q:Int))=false:=KZ8 (by omega);clear hnx hno;go_wp2_with fail
    refine (HD.out _).mono ?_;rintro e w2 ⟨rfl,rfl⟩;go_wp2
    all_goals try omega
    go_round
    case rel =>
     refine ⟨k+1,by go_num,by omega,?_,by rw [hst.out];omega,HN⟩;rw [hst.out]
     congr 1
     omega
    case measure=>simp [intOf];omega
   have HN:=KZ9 (hno.out hqb);have g1:decide ((8:Int)≤(q:Int))=true:=KZ7 (by omega);clear hnx hno;go_wp2_with fail
   refine (HD.out _).mono ?_;rintro e w2 ⟨rfl,rfl⟩;go_wp2
   all_goals try omega
   go_ret2;rw [EP.out,HN.out];exact ⟨rfl,by first | exact Below.refl _ _ | exact Go.below_drewN (Below.refl _ _) _⟩
  obtain rfl:k=(s.extract 1 s.size).size:=by omega
  have hall:Hid (yu 8 U=(yt 8 U 0,true)):=KZ9 (by
   have hlen:(s.extract 1 s.size).size=(U).length:=by rw [HU.out,za]
   have e:=ha.out;rw [hlen,List.drop_length] at e;unfold yu;rw [e];rfl)
  have htk:(U).take (s.extract 1 s.size).size=U:=List.take_of_length_le (by rw [HU.out,za];exact Nat.le_refl _);rw [htk] at hle ⊢;clear ha htk;go_wp2;go_ret2;rw [EP.out,hall.out];exact ⟨rfl,by first | exact Below.refl _ _ | exact Go.below_drewN (Below.refl _ _) _⟩
theorem Xp (s:ByteArray) (w:World) (hs:s.size≤100000000):Calls Tryz.prog 28 #[.string s] w fun e w'=>e= .returned (.tuple #[.int .i64 (zL (un s)).1,.bool (zL (un s)).2])∧Below w.heap.size w w':=by
 by_cases h0:s.size=0
 ·have hun:un s=[]:=List.eq_nil_of_length_eq_zero (by rw [za];exact h0);have h1:s.toList.isEmpty=true:=by rw [zy,hun];rfl
  have ep:zL (un s)=(0,false):=by rw [hun];rfl
  rw [ep];clear hun ep;go_enter Tryz.func28,Tryz.ntmps28
  go_wp2;go_ret2;exact ⟨rfl,Below.refl _ _⟩
 by_cases h1:s.size=1
 ·exact kb s w hs h1
 have h2:2≤s.size:=by omega
 by_cases a:s[0]'(by omega)=48
 ·by_cases b:s[1]'(by omega)=120
  ·exact jj s w hs h2 a b
  by_cases c:s[1]'(by omega)=88
  ·exact jk s w hs h2 a c
  exact kc s w hs h2 a b c
 exact ka s w hs h2 a
end Go.Proofs.YtbnnlkdhpifpeaaGreatDoor
namespace Hs
open Go
def SplitTo (c:UInt8) (l:Bs) (D:List Bs) (fr k:Nat):Prop:=(k≤l.length→D++zg c (l.drop fr)=zg c l∧∀ x∈seg l fr k,x≠c)∧(k=l.length+1→D=zg c l)
theorem SplitTo.start (c:UInt8) (l:Bs):SplitTo c l [] 0 0:=⟨fun _=>⟨rfl,by simp [seg]⟩,fun h=>by omega⟩
theorem Yx (l:Bs) (fr k:Nat) (h:fr≤k):l.drop fr=seg l fr k++l.drop k:=by
 have e:l.drop k=(l.drop fr).drop (k - fr):=by rw [List.drop_drop];congr 1;omega
 rw [e];exact (List.take_append_drop (k - fr) (l.drop fr)).symm
theorem SplitTo.char {c:UInt8} {l:Bs} {D:List Bs} {fr k:Nat} (h:SplitTo c l D fr k) (hf:fr≤k) (hk:k<l.length) (hc:l[k]≠c):SplitTo c l D fr (k+1):=by
 refine ⟨fun _=>⟨(h.1 (by omega)).1,fun x hx=> ?_⟩,fun e=>by omega⟩;have e:seg l fr (k+1)=seg l fr k++[l[k]]:=by
  unfold seg;rw [show k+1 - fr=(k - fr)+1 by omega,List.take_succ_eq_append_getElem (by rw [List.length_drop];omega),List.getElem_drop];simp only [show fr+(k - fr)=k by omega]
 rw [e] at hx;rcases List.mem_append.1 hx with hx | hx
 ·exact (h.1 (by omega)).2 x hx
 rw [List.mem_singleton.1 hx];exact hc
theorem SplitTo.cut {c:UInt8} {l:Bs} {D:List Bs} {fr k:Nat} (h:SplitTo c l D fr k) (hf:fr≤k) (hk:k<l.length) (hc:l[k]=c):SplitTo c l (D++[seg l fr k]) (k+1) (k+1):=by
 refine ⟨fun _=>⟨?_,by simp [seg]⟩,fun e=>by omega⟩;obtain ⟨h1,h2⟩:=h.1 (by omega);rw [←h1,Yx l fr k hf,List.drop_eq_getElem_cons hk,hc,pk c _ _ h2];simp
theorem SplitTo.fin {c:UInt8} {l:Bs} {D:List Bs} {fr k:Nat} (h:SplitTo c l D fr k) (hf:fr≤k) (hk:k=l.length):SplitTo c l (D++[seg l fr k]) (k+1) (k+1):=by
 refine ⟨fun e=>by omega,fun _=> ?_⟩;obtain ⟨h1,h2⟩:=h.1 (by omega);rw [←h1,Yx l fr k hf,List.drop_eq_nil_of_le (by omega),List.append_nil,uq c _ h2]
end Hs
namespace Go.Proofs.YtbnnlkdhpifpeaaGreatDoor
open Go.RowKit Hs
set_option maxHeartbeats 1500000
theorem pS (s:ByteArray) (c:UInt8) (w:World) (hs:s.size≤100000000):Calls Tryz.prog 14 #[.string s,.int .u8 (c.toNat:Int)] w fun e w'=>∃ v,e= .returned v∧w'.ownsRow w.heap.size 9 1 v (zg c (un s)).length (Hs.scells (zg c (un s)))∧Below w.heap.size w w':=by
 obtain ⟨iS0,iS⟩:=info_parts R3;go_enter Tryz.func14,Tryz.ntmps14
 go_wp2;go_loopw [5,6,7] (fun v f i wr=>∃ (k fr:Nat) (D:List Bs),i= .int .i64 k∧f= .int .i64 fr∧fr≤k∧k≤s.size+1∧D.length≤k∧wr.ownsRow w.heap.size 9 1 v D.length (Hs.scells D)∧Below w.heap.size w wr∧Hid (SplitTo c (un s) D fr k))
  (fun _ _ i _=>s.size+1 - (intOf i).toNat)
 case atStart=>exact ⟨0,0,[],rfl,rfl,by omega,by omega,by simp,World.ownsRow_nil _ _ _ _,Below.refl _ _,SplitTo.start _ _⟩
 case round =>
  obtain ⟨k,fr,D,rfl,rfl,hfk,hk,hD,hown,hnx,hwt⟩:=hrel;have hsize:=hnx.size;by_cases hlt:k<s.size
  ·have hne:((k:Int)==(s.size:Int))=false:=by simp;omega
   by_cases hb:(s[k]'hlt)=c
   ·have hb':(un s)[k]'(by rw [za];omega)=c:=hb;have hb1:(((s[k]'hlt).toNat:Int)==(c.toNat:Int))=true:=by rw [hb];simp
    have hcut:=KZ9 (hwt.out.cut hfk (by rw [za];omega) hb');clear hwt hb' hb;have ex:=KZ9 (yQ s fr k);go_wp2_with (first | (at_builtin;refine wpList_append_own _ rfl (.tmp 25) (.tmp 30) 43 rfl (w.heap.size) 9 iS0 (.string ByteArray.empty) 1 16 Tryz.underlying43 iS.1 iS.2.1 iS.2.2.1 iS.2.2.2 rfl (by decide) _ _ _ rfl (hown.alloc _) ⟨wr.heap.size,0,none⟩ 1 1 [_] rfl rfl (cell_one_new _ _ _) (by intro u hu;simp at hu;subst hu;rfl) (by unfold maxLen;omega) (by omega) (by simp;omega) ?_;intro v1 w1 hown1 hgrow1 hnil1))
    go_roundw
    case rel =>
     refine ⟨k+1,k+1,D++[seg (un s) fr k],by go_num,by go_num,by omega,by omega,by simp;omega,?_,(hnx.alloc (by omega) _).grown hgrow1 (by simp;omega) (fun j hj=>(hown.lt j hj).1),hcut⟩;have e:=hown1;rw [ex.out] at e;rw [vf,List.length_append];exact e
    case measure=>simp [intOf];omega
   have hb':(un s)[k]'(by rw [za];omega)≠c:=hb;have hb1:(((s[k]'hlt).toNat:Int)==(c.toNat:Int))=false:=by
    rw [beq_eq_false_iff_ne];exact fun e=>hb (UInt8.toNat_inj.1 (by omega))
   have hch:=KZ9 (hwt.out.char hfk (by rw [za];omega) hb');clear hwt hb' hb;go_wp2;go_roundw
   case rel=>exact ⟨k+1,fr,D,by go_num,rfl,by omega,by omega,by omega,hown,hnx,hch⟩
   case measure=>simp [intOf];omega
  by_cases he:k=s.size
  ·have hne:((k:Int)==(s.size:Int))=true:=by simp;omega
   have hle:(k:Int)≤(s.size:Int):=by omega
   have hfin:=KZ9 (hwt.out.fin hfk (by rw [za];exact he));have ex:=KZ9 (yQ s fr k);have HE:=KZ9 he;clear hwt he;go_wp2_with (first | (at_builtin;refine wpList_append_own _ rfl (.tmp 25) (.tmp 30) 43 rfl (w.heap.size) 9 iS0 (.string ByteArray.empty) 1 16 Tryz.underlying43 iS.1 iS.2.1 iS.2.2.1 iS.2.2.2 rfl (by decide) _ _ _ rfl (hown.alloc _) ⟨wr.heap.size,0,none⟩ 1 1 [_] rfl rfl (cell_one_new _ _ _) (by intro u hu;simp at hu;subst hu;rfl) (by unfold maxLen;omega) (by omega) (by simp;omega) ?_;intro v1 w1 hown1 hgrow1 hnil1))
   go_roundw
   case rel =>
    refine ⟨k+1,k+1,D++[seg (un s) fr k],by go_num,by go_num,by omega,by omega,by simp;omega,?_,(hnx.alloc (by omega) _).grown hgrow1 (by simp;omega) (fun j hj=>(hown.lt j hj).1),hfin⟩;have e:=hown1;rw [ex.out] at e;rw [vf,List.length_append];exact e
   case measure=>simp [intOf];omega
  obtain rfl:k=s.size+1:=by omega
  have hfin:Hid (D=zg c (un s)):=hwt.out.2 (by rw [za]);clear hwt he;go_wp2;go_ret;have e:=hfin.out;subst e;exact ⟨_,rfl,hown,hnx⟩
theorem TM (s:ByteArray) (w:World) (hs:s.size≤100000000):Calls Tryz.prog 14 #[.string s,.int .u8 46] w fun e w'=>∃ v,e= .returned v∧Strs w' v (zg 46 (un s))∧Below w.heap.size w w':=by
 refine (pS s 46 w hs).mono ?_;rintro e w' ⟨v,rfl,ho,hb⟩;exact ⟨v,rfl,Row.owned ho,hb⟩
theorem Ua (s:ByteArray) (w:World) (hs:s.size≤100000000):Calls Tryz.prog 26 #[.string s] w fun e w'=>∃ v,e= .returned v∧Strs w' v (zZ (un s))∧Below w.heap.size w w':=by
 have HS:=KZ9 (TM s w hs);go_enter Tryz.func26,Tryz.ntmps26
 go_wp2_with fail
 refine HS.out.mono ?_;rintro e w1 ⟨v,rfl,hst,hb⟩;clear HS;have hpos:=rK (un s);have hpd:Hid (zZ (un s)=if 1<(zg 46 (un s)).length∧(zg 46 (un s)).getLast? =some [] then (zg 46 (un s)).dropLast else zg 46 (un s)):=KZ9 rfl;obtain ⟨P,hP⟩:=KZ6 (zZ (un s));rw [←hP] at hpd;have HP:=KZ9 hP;clear hP;generalize zg 46 (un s)=L at hst hpos hpd;rcases List.eq_nil_or_concat L with rfl | ⟨A,x,hL⟩
 ·simp at hpos
 rw [List.concat_eq_append] at hL;subst hL;have hpd2:Hid (P=if 1<(A++[x]).length∧x=[] then A else A++[x]):=KZ9 (by rw [hpd.out];simp);clear hpd hpos;obtain ⟨a,c,rfl,hn,hm,hc⟩:=hst.open;unfold maxLen at hm;obtain ⟨b,off,rfl,hb1,hcell⟩:=hc (by simp);obtain ⟨n,hA⟩:∃ n,A.length=n:=⟨_,rfl⟩;have hlen:(A++[x]).length=n+1:=by simp [hA]
 have c0:=hcell n (by rw [hlen];omega);rw [List.getElem_append_right (by omega)] at c0;simp only [hA,Nat.sub_self,List.getElem_singleton] at c0;have hca:n+1≤c:=by rw [←hlen];exact hn
 rw [hlen] at hst ⊢;rw [hlen] at hpd2;have HST:=KZ9 hst;clear hc hcell hn hst hlen;by_cases h0:0<n
 ·have h0':(0:Int)<(n:Int):=by omega
  cases hx:x.isEmpty
  ·have hfin:Hid (P=A++[x]):=KZ9 (by rw [hpd2.out,if_neg (by rintro ⟨_,rfl⟩;cases hx)]);have hx2:(mk x).toList.isEmpty=false:=by rw [zy,zk];exact hx
   clear hpd2 hx;go_wp2_with fail
   all_goals try omega
   go_ret;exact ⟨_,rfl,by rw [←HP.out,hfin.out];exact HST.out,hb⟩
  have hfin:Hid (P=A):=KZ9 (by rw [hpd2.out,if_pos ⟨by omega,by simpa using hx⟩]);have hx2:(mk x).toList.isEmpty=true:=by rw [zy,zk];exact hx
  have HC:=KZ9 (YF HST.out hA);clear hpd2 hx;go_wp2_with fail
  all_goals try omega
  go_ret;exact ⟨_,rfl,by rw [←HP.out,hfin.out];exact HC.out,hb⟩
 obtain rfl:n=0:=by omega
 have hfin:Hid (P=A++[x]):=KZ9 (by rw [hpd2.out,if_neg (by omega)]);clear hpd2;go_wp2_with fail
 all_goals try omega
 go_ret;exact ⟨_,rfl,by rw [←HP.out,hfin.out];exact HST.out,hb⟩
set_option maxHeartbeats 1600000
theorem Zv (s:ByteArray) (w:World) (hs:s.size≤100000000):Calls Tryz.prog 13 #[.string s] w fun e w'=>e= .returned (.bool (yz (un s)))∧Below w.heap.size w w':=by
 have HS:=KZ9 (Ua s w hs);have hlen:=rP (un s);have hpos:=tz (un s);have hpv:Hid (yz (un s)=W8 (((zZ (un s)).getLast?).getD [])):=KZ9 (by rw [Sf];rfl);obtain ⟨R,hR⟩:=KZ6 (yz (un s));rw [←hR] at hpv ⊢;clear hR;obtain ⟨L,hL⟩:=KZ6 (zZ (un s));rw [←hL] at hpv HS hlen hpos;clear hL;rw [za] at hlen;obtain ⟨n,hn0⟩:∃ n,L.length=n+1:=⟨L.length - 1,by omega⟩;have hxl:=hlen (L[n]'(by omega)) (List.getElem_mem _);have hlast:Hid (L.getLast? =some (L[n]'(by omega))):=KZ9 (by rw [List.getLast?_eq_getElem?];simp only [hn0,Nat.add_sub_cancel];exact List.getElem?_eq_getElem _);have HN:=KZ9 hn0;clear hlen hpos;go_enter Tryz.func13,Tryz.ntmps13
 go_wp2_with fail
 refine HS.out.mono ?_;rintro e w1 ⟨v,rfl,hst,hb⟩;clear HS;obtain ⟨a,c,rfl,hn,hm,hc⟩:=hst.open;unfold maxLen at hm;obtain ⟨b,off,rfl,hb1,hcell⟩:=hc (by rw [HN.out];omega);have c0:=hcell n (by rw [HN.out];omega);rw [HN.out] at hn ⊢;obtain ⟨x,hx⟩:∃ x,x=L[n]'(by rw [HN.out];omega):=⟨_,rfl⟩;rw [←hx] at c0 hxl hlast;rw [hlast.out] at hpv;simp only [Option.getD_some] at hpv;clear hcell hc hst hx hn0 hlast HN;obtain ⟨S,hS⟩:=KZ6 (mk x);have hSx:un S=x:=by rw [hS,zk]
 rw [←hS] at c0;have hSs:S.size≤100000000:=by rw [←za,hSx];omega
 have cd:=fun W=>cI S W hSs;have cn:=fun W=>Xp S W hSs;rw [hSx] at cn;simp only [hSx] at cd;unfold W8 at hpv;have hx1:x[1]? =if h:1<S.size then some (S[1]'h) else none:=by
  rw [←hSx];split
  ·rename_i h;rw [List.getElem?_eq_getElem (by rw [za];exact h)];rfl
  exact List.getElem?_eq_none (by rw [za];omega)
 clear hS hSx;cases hd:uQ x
 ·rw [hd] at cd hpv;have CD:=KZ9 cd;have CN:=KZ9 cn;obtain ⟨m,hm2⟩:=KZ6 (zL x);rw [←hm2] at CN hpv;obtain ⟨y,ok⟩:=m;simp only at CN;cases ok
  ·have hend:Hid (R=false):=KZ9 (by rw [hpv.out];rfl);clear cd cn hpv hm2 hd hx1;go_wp2_with fail
   refine (CD.out _).mono ?_;rintro e w2 ⟨rfl,rfl⟩;go_wp2_with fail
   refine (CN.out _).mono ?_;rintro e w2 ⟨rfl,hb2⟩;go_wp2_with fail
   go_ret;rw [hend.out];exact ⟨rfl,hb.trans (hb2.mono hb.size)⟩
  by_cases h2:1<S.size
  ·rw [dif_pos h2] at hx1;have g1:decide ((2:Int)≤(S.size:Int))=true:=KZ7 (by omega);have hin:(1:Int)<(S.size:Int):=by omega
   by_cases h120:S[1]'h2=120
   ·have hend:Hid (R=true):=KZ9 (by rw [hpv.out,hx1,h120];rfl);have g2:(((S[1]'h2).toNat:Int)==120)=true:=by rw [h120];rfl
    clear cd cn hpv hm2 hd hx1 h120;go_wp2_with fail
    refine (CD.out _).mono ?_;rintro e w2 ⟨rfl,rfl⟩;go_wp2_with fail
    refine (CN.out _).mono ?_;rintro e w2 ⟨rfl,hb2⟩;go_wp2_with fail
    go_ret;rw [hend.out];exact ⟨rfl,hb.trans (hb2.mono hb.size)⟩
   have g2:(((S[1]'h2).toNat:Int)==120)=false:=by rw [beq_eq_false_iff_ne];intro e;exact h120 (UInt8.toNat_inj.1 (by have:(120:UInt8).toNat=120:=rfl;omega))
   by_cases h88:S[1]'h2=88
   ·have hend:Hid (R=true):=KZ9 (by rw [hpv.out,hx1,h88];rfl);have g3:(((S[1]'h2).toNat:Int)==88)=true:=by rw [h88];rfl
    clear cd cn hpv hm2 hd hx1 h88 h120;go_wp2_with fail
    refine (CD.out _).mono ?_;rintro e w2 ⟨rfl,rfl⟩;go_wp2_with fail
    refine (CN.out _).mono ?_;rintro e w2 ⟨rfl,hb2⟩;go_wp2_with fail
    go_ret;rw [hend.out];exact ⟨rfl,hb.trans (hb2.mono hb.size)⟩
   have hend:Hid (R=false):=KZ9 (by rw [hpv.out,hx1];simp [h120,h88]);have g3:(((S[1]'h2).toNat:Int)==88)=false:=by rw [beq_eq_false_iff_ne];intro e;exact h88 (UInt8.toNat_inj.1 (by have:(88:UInt8).toNat=88:=rfl;omega))
   clear cd cn hpv hm2 hd hx1 h88 h120;go_wp2_with fail
   refine (CD.out _).mono ?_;rintro e w2 ⟨rfl,rfl⟩;go_wp2_with fail
   refine (CN.out _).mono ?_;rintro e w2 ⟨rfl,hb2⟩;go_wp2_with fail
   go_ret;rw [hend.out];exact ⟨rfl,hb.trans (hb2.mono hb.size)⟩
  rw [dif_neg h2] at hx1;have hend:Hid (R=false):=KZ9 (by rw [hpv.out,hx1];rfl);have g1:decide ((2:Int)≤(S.size:Int))=false:=KZ8 (by omega);clear cd cn hpv hm2 hd hx1;go_wp2_with fail
  refine (CD.out _).mono ?_;rintro e w2 ⟨rfl,rfl⟩;go_wp2_with fail
  refine (CN.out _).mono ?_;rintro e w2 ⟨rfl,hb2⟩;go_wp2_with fail
  go_ret;rw [hend.out];exact ⟨rfl,hb.trans (hb2.mono hb.size)⟩
 rw [hd] at cd hpv;have hend:Hid (R=true):=KZ9 (by rw [hpv.out];rfl);have CD:=KZ9 cd;clear cd cn hpv hd hx1;go_wp2_with fail
 refine (CD.out _).mono ?_;rintro e w2 ⟨rfl,rfl⟩;go_wp2_with fail
 go_ret;rw [hend.out];exact ⟨rfl,hb⟩
end Go.Proofs.YtbnnlkdhpifpeaaGreatDoor
namespace Go.Proofs.YtbnnlkdhpifpeaaGreatDoor
open Go.RowKit Go.Shelf Hs
set_option maxRecDepth 20000
set_option maxHeartbeats 4000000
theorem gr (s:ByteArray) (w:World) (hs:s.size≤100000):Calls Tryz.prog 4 #[.string s] w fun e w'=>e= .returned (.bool (zG (un s)))∧Below w.heap.size w w':=by
 have hdef:zG (un s)=(decide ((un s).length≤253)&& !(yz (un s))&&(zg 46 (un s)).all zY):=rfl;have HNU:=KZ9 (Zv s w (by omega));have HSP:=KZ9 (fun W=>pS s 46 W (by omega));have hdl:=vW 46 (un s);rw [za] at hdef hdl;have h0:un s=[]↔s.size=0:=by rw [←za];exact List.length_eq_zero_iff.symm
 have he:s.toList.isEmpty=decide (s.size=0):=by
  rw [zy,←za];cases un s<;>simp
 obtain ⟨nu,hnu⟩:=KZ6 (yz (un s));rw [←hnu] at HNU hdef;by_cases hz:s.size=0
 ·rw [KZ7 hz] at he;have hfin:Hid (zG (un s)=false):=KZ9 (by rw [h0.2 hz];decide);clear HNU HSP hdl h0 hdef hnu hz;go_enter Tryz.func4,Tryz.ntmps4
  go_wp2_with fail
  all_goals try omega
  go_ret;exact ⟨by rw [hfin.out];rfl,Below.refl _ _⟩
 rw [KZ8 hz] at he;by_cases hl:s.size≤253
 ·rw [KZ7 hl] at hdef;have g1:decide ((253:Int)<(s.size:Int))=false:=by simp;omega
  have HDEF:=KZ9 hdef;have HDL:=KZ9 hdl;clear hdef hnu h0 hdl;cases nu
  ·go_enter Tryz.func4,Tryz.ntmps4
   go_wp2_with fail
   all_goals try omega
   refine HNU.out.mono ?_;rintro e w1 ⟨rfl,hb1⟩;have HB1:=KZ9 hb1;clear hb1 HNU;go_wp2_with fail
   all_goals try omega
   refine (HSP.out w1).mono ?_;rintro e w2 ⟨v,rfl,hown,hb2⟩;have hst:Strs w2 v (zg 46 (un s)):=Row.owned hown;have HB2:=KZ9 (HB1.out.trans (hb2.mono HB1.out.size));clear hb2 HB1 HSP hown;generalize zg 46 (un s)=L at *;obtain ⟨a,cap,rfl,hn,hm,hc⟩:=hst.open;unfold maxLen at hm;have HC:=KZ9 hc;have HST:=KZ9 hst;clear hc hst;have hfin:Hid (zG (un s)=L.all zY):=KZ9 (by rw [HDEF.out];simp);clear HDEF;go_wp2_with fail
   all_goals try omega
   go_loopw [4] (fun i wr=>∃ k:Nat,i= .int .i64 k∧k≤L.length∧Hid (Below w.heap.size w wr)∧Hid (Below w2.heap.size w2 wr)∧Hid (L.all zY=(L.drop k).all zY)) (fun i _=>L.length - (intOf i).toNat)
   case atStart=>exact ⟨0,rfl,by omega,HB2,KZ9 (Below.refl _ _),rfl⟩
   case round =>
    obtain ⟨k,rfl,hk,hbw,hb2,ha⟩:=hrel;by_cases hlt:k<L.length
    ·obtain ⟨b,off,rfl,hbl,hcell⟩:=HC.out (by omega);have hk':=((wj hb2.out).1 b (off+k) hbl).trans (hcell k hlt);have hsz:L[k].length≤s.size:=HDL.out _ (List.getElem_mem hlt);have hv:=fun W=>V8 (mk L[k]) W (by rw [zi];omega);simp only [zk] at hv;have hd:Hid ((L.drop k).all zY=(zY L[k]&&(L.drop (k+1)).all zY)):=by
      rw [List.drop_eq_getElem_cons hlt,List.all_cons];rfl
     obtain ⟨t,ht⟩:=KZ6 (L[k]);rw [←ht] at hk' hd;simp only [←ht] at hv;obtain ⟨ok,hok⟩:=KZ6 (zY t);rw [←hok] at hd;simp only [←hok] at hv;have HV:=KZ9 hv;clear hcell hsz ht hv hok;go_wp2_with fail
     all_goals try omega
     refine (HV.out _).mono ?_;rintro e w3 ⟨rfl,hb3⟩;cases ok
     ·go_wp2_with fail
      all_goals try omega
      go_ret;refine ⟨?_,hbw.out.trans (hb3.mono hbw.out.size)⟩;rw [hfin.out,ha.out,hd.out];rfl
     go_wp2_with fail
     all_goals try omega
     go_round
     case rel =>
      refine ⟨k+1,by go_num,by omega,KZ9 (hbw.out.trans (hb3.mono hbw.out.size)),KZ9 (hb2.out.trans (hb3.mono hb2.out.size)),?_⟩;have e1:=ha.out;rw [hd.out,Bool.true_and] at e1;exact e1
     case measure=>simp [intOf];omega
    obtain rfl:k=L.length:=by omega
    have hfin2:Hid (L.all zY=true):=by
     have e1:=ha.out;rw [List.drop_length] at e1;exact e1
    go_wp2_with fail
    all_goals try omega
    go_ret;exact ⟨by rw [hfin.out,hfin2.out];rfl,hbw.out⟩
  have hfin:Hid (zG (un s)=false):=KZ9 (by rw [HDEF.out];simp);clear HSP HDL HDEF;go_enter Tryz.func4,Tryz.ntmps4
  go_wp2_with fail
  all_goals try omega
  refine HNU.out.mono ?_;rintro e w1 ⟨rfl,hb1⟩;go_wp2_with fail
  all_goals try omega
  go_ret;exact ⟨by rw [hfin.out];rfl,hb1⟩
 have g1:decide ((253:Int)<(s.size:Int))=true:=by simp;omega
 rw [KZ8 hl] at hdef;have hfin:Hid (zG (un s)=false):=KZ9 (by rw [hdef];simp);clear HNU HSP hdl hdef hnu h0;go_enter Tryz.func4,Tryz.ntmps4
 go_wp2_with fail
 all_goals try omega
 go_ret;exact ⟨by rw [hfin.out];rfl,Below.refl _ _⟩
end Go.Proofs.YtbnnlkdhpifpeaaGreatDoor
namespace Hs
open Go
theorem Wv (n:Bs):zT (zK bWs n)=zK th n:=rfl
theorem Vz {n:Bs} (h:zG n=true):yY (zK th n)=true:=tW _ h (by decide) (by decide) (by decide) (by decide)
theorem U9 {n:Bs} (h:zG n=true):yY (zK bWs n)=true:=tW _ h (by decide) (by decide) (by decide) (by decide)
theorem U7 {n:Bs} (h:zG n=true):yN (zK th n)=th++58::([47,47]++(n++[47])):=by
 unfold yN;rw [if_pos (Vz h),sW _ h (by decide)];simp
theorem XV {n:Bs} (s:Bs) (h:zG n=true):yo (zK s n).host=true:=by simp [yo,zK,h]
theorem Za (now:Int) (p:PinP) (hp:p.sub=false):∀ l:List Bs,wt now [p] [] l=cov0
 | []=>rfl
 | s::r=>by
  have h:covAt now [p] [] s false=none:=by
   unfold covAt;by_cases h1:p.host=s
   ·simp [h1,hp,covAt.covL]
   simp [h1,covAt.covL]
  unfold wt;rw [h];exact Za now p hp r
theorem Wd {n:Bs} (s:Bs) (h:zG n=true) (clk age:Int) (hc:clk<age):(tg clk [⟨n,false,age⟩] [] (zK s n).host).source≠0:=by
 unfold tg;rw [if_pos ⟨rfl,XV s h⟩];have h1:covAt clk [⟨n,false,age⟩] [] (zK s n).host.name true=some ⟨1,n,true⟩:=by
  unfold covAt;simp [zK];omega
 rw [h1];exact (by decide:(1:Nat)≠0)
theorem UT {n:Bs} (s:Bs) (clk age:Int) (hc:¬ clk<age):tg clk [⟨n,false,age⟩] [] (zK s n).host=cov0:=by
 unfold tg;split
 ·have h1:covAt clk [⟨n,false,age⟩] [] (zK s n).host.name true=none:=by
   unfold covAt;have:age≤clk:=by omega
   simp [zK,this,covAt.covL]
  rw [h1];exact Za _ _ rfl _
 rfl
theorem pR {n:Bs} (h:zG n=true) (clk age:Int) (hc:clk<age):vo (zK bWs n) 1 false ⟨false,false,false,false,[]⟩ (tg clk [⟨n,false,age⟩] [] (zK bWs n).host)=⟨2,2,th++58::([47,47]++(n++[47]))⟩:=by
 unfold vo;rw [if_pos ⟨rfl,Wd bWs h clk age hc⟩,Wv,U7 h]
theorem Xj {n:Bs} (clk age:Int) (hc:¬ clk<age):(vo (zK bWs n) 1 false ⟨false,false,false,false,[]⟩ (tg clk [⟨n,false,age⟩] [] (zK bWs n).host)).action=1:=by
 rw [UT bWs clk age hc];unfold vo;rw [if_neg (by simp [cov0])];split
 ·rfl
 rw [if_neg (by simp),if_pos (.inr rfl)]
theorem QO {n:Bs} (h:zG n=true) (hl:n.length≤300):ti (bWs++58::([47,47]++(n++[47])))=some (zK bWs n):=by
 unfold ti;rw [if_neg (by simp [bWs];omega)];have h8:=xB bWs h (by decide) (by decide) (by decide) (by decide);rw [List.append_nil] at h8;exact h8
theorem UG {n:Bs} (h:zG n=true) (hl:n.length≤300):ti (zP++58::([47,47]++(n++[47])))=some (zK zP n):=by
 unfold ti;rw [if_neg (by simp [zP];omega)];have h8:=xB zP h (by decide) (by decide) (by decide) (by decide);rw [List.append_nil] at h8;exact h8
end Hs
namespace Go.Proofs.YtbnnlkdhpifpeaaGreatDoor
open Go.RowKit Hs HsR
def rp (k:Nat):Bs:=[109,97,120,45,97,103,101,61,UInt8.ofNat (48+k)]
set_option maxRecDepth 100000
theorem QB:∀ k:Fin 10,rR (vX (rp k.val))=([(fieldB,rp k.val)],0):=by decide +kernel
theorem U4:∀ k:Fin 10,sH [(fieldB,rp k.val)] fieldB=(rp k.val,true):=by decide +kernel
theorem QA:∀ k:Fin 10,cy (rp k.val)=(((k.val:Int),false),0):=by decide +kernel
theorem QC:∀ k:Fin 10,(⟨#[48,49,50,51,52,53,54,55,56,57]⟩:ByteArray).extract k.val (k.val+1)=mk [UInt8.ofNat (48+k.val)]:=by decide +kernel
def CkI (pm lp ps b:Nat) (p:PinP) (clk:Int) (W:World):Prop:=∃ a c,BlkL W pm 73 (xD ps lp clk (.slice a 1 c))∧Pins W (.slice a 1 c) [p]∧(∀ k,(Value.slice a 1 c).ownBlock=some k→k≠pm)∧BlkL W lp 141 [.slice none 0 0]∧b≤pm
theorem CkI.below {pm lp ps b:Nat} {p:PinP} {clk:Int} {W W':World} (h:CkI pm lp ps b p clk W) (hb:Below W.heap.size W W'):CkI pm lp ps b p clk W':=by
 obtain ⟨a,c,h1,h2,h3,h4,h5⟩:=h;exact ⟨a,c,h1.below h1.lt hb,h2.below hb,h3,h4.below h4.lt hb,h5⟩
theorem Wf (I:DK) (pm b g c k:Nat) (nm:Bs) (w:World) (hB:Base6 w) (hmx:MaxOk w) (hq:MonQ I 40 2 19 9 0 0 [] (wF 40) b pm 0 w) (hnm:zG nm=true) (hnl:nm.length≤200) (hk1:1≤k) (hk9:k≤9) (hby:Byts w (.slice (some ⟨g,0,none⟩) (vX (rp k)).length c) (vX (rp k))) :
  Calls Tryz.prog 8 #[.pointer (some ⟨pm,0,none⟩),.string (mk (zP++58::([47,47]++(nm++[47])))),.slice (some ⟨g,0,none⟩) (vX (rp k)).length c] w fun e w'=>∃ lp ps,e= .returned (.agg #[.int .i64 3,.int .i64 0])∧CkI pm lp ps b ⟨nm,false,(k:Int)⟩ 0 w'∧But (fun j=>I.S j∨b≤j) w w':=by
 obtain ⟨hpm,ps,lp,v,hM,hlp,hlist,⟨hps,⟨t,htb,hT,hL⟩,⟨a0,c0,hv0,hv1,hv2,hv3⟩,hd⟩⟩:=hq;obtain rfl:=hv3 rfl;have hok:xU ⟨nm,false,(k:Int)⟩=true:=by simp [xU,hnm];omega
 have hrl:(vp ⟨nm,false,(k:Int)⟩).length≤nm.length+31:=by
  have h8:=pU ⟨nm,false,(k:Int)⟩ (by show nm.length≤1000;omega) (by show (k:Int).toNat<_;omega);simp only [vp,List.length_cons];have:(kr ⟨nm,false,(k:Int)⟩).length≤nm.length+30:=h8;omega
 have f1:=QB ⟨k,by omega⟩;have f2:=U4 ⟨k,by omega⟩;have f3:=QA ⟨k,by omega⟩;have hpl:pm≠lp:=sM hM hlist (by decide);have hne:∀ i,(I.S i∨i=t∨i=ps∨i=pm)→i≠lp:=by
  rintro i (hi | rfl | rfl | rfl) rfl
  ·exact hd.other hlist (by decide) (by decide) hi
  ·exact sM hL hlist (by decide) rfl
  ·exact sM hT hlist (by decide) rfl
  exact hpl rfl
 refine (kE pm ps lp 0 _ _ ⟨nm,false,(k:Int)⟩ (fun W=>∃ a c,BlkL W pm 73 (xD ps lp 0 (.slice a 1 c))∧Pins W (.slice a 1 c) [⟨nm,false,(k:Int)⟩]∧(∀ k,(Value.slice a 1 c).ownBlock=some k→w.heap.size<k)∧BlkL W lp 141 [.slice none 0 0]) (fun k=>I.S k∨k=t∨k=ps∨k=pm) w ?_ hM ?_ ?_ ?_).mono ?_
 ·rintro k (hk | rfl | rfl | rfl)
  ·exact hd.lt k hk
  ·exact hL.lt
  ·exact hT.lt
  exact hM.lt
 ·intro W hW;have h8:=WW 0 nm _ (vX (rp k)) (rp k) _ [(fieldB,rp k)] ((k:Int),false) W (hB.1.below hW) (hmx.below hW hmx.lt) (by simp [zP];omega) (UG hnm (by omega)) (hby.below hW) (by simp [vX,rp]) f1 (by simp) (by intro x hx;obtain rfl:=List.mem_singleton.1 hx;exact (by decide:fieldB.length≤100000)) f2 (by simp [rp]) f3 (by show (k:Int)≠0;omega) (by decide) (by decide) (cW hnm (by unfold okT;decide));have he:xG 0 (k:Int)=(k:Int):=by unfold xG lim QE Pg;omega
  rw [show (⟨nm,((k:Int),false).2,xG 0 ((k:Int),false).1⟩:PinP)=⟨nm,false,(k:Int)⟩ from by rw [show ((k:Int),false).1=(k:Int) from rfl,he]] at h8;exact h8
 ·intro W hW hlt;refine (WV I 40 2 19 9 pm ps lp t 0 (wF 40) ⟨nm,false,(k:Int)⟩ W (hM.below hM.lt hW) (hT.below hT.lt hW) (hL.below hL.lt hW) (hd.below hW) (hB.1.below hW) (by decide) (by decide) (by decide) (by decide) (by decide) (by decide) (by decide) (by decide) (by show nm.length≤300;omega) hok (by show (0:Int)≤(k:Int);omega) (by show (k:Int)≤_;omega) (by omega) (by omega)).mono ?_;rintro e w' ⟨rfl,⟨a1,c1,h1,h2,h3⟩,_,_,_,h5⟩;exact ⟨rfl,⟨a1,c1,h1,h2,fun j hj=>Nat.lt_of_lt_of_le hlt (h3 j hj),(hlist.below hlist.lt hW).but h5 (fun hh=>hne _ hh rfl)⟩,h5⟩
 ·rintro W W' cs ⟨a1,c1,h1,h2,h3,h4⟩ hx hb;exact ⟨a1,c1,h1.but hb (fun e=>sM h1 hx (by decide) e),Row.but h2 hb (fun j hj e=>by have:=h3 j hj;omega),h3,h4.but hb (fun e=>sM h4 hx (by decide) e)⟩
 rintro e w' ⟨rfl,⟨a1,c1,h1,h3,h4,h5⟩,h2⟩;refine ⟨lp,ps,rfl,⟨a1,c1,h1,h3,fun j hj e=>by have:=h4 j hj;have:=hM.lt;omega,h5,hpm⟩,(But.refl _ w).step h2 (fun i hi=> .inl ?_)⟩;rcases hi with hi | rfl | rfl | rfl
 ·exact .inl hi
 ·exact .inr htb
 ·exact .inr hps
 exact .inr hpm
end Go.Proofs.YtbnnlkdhpifpeaaGreatDoor
namespace Go.Proofs.YtbnnlkdhpifpeaaGreatDoor
open Go.ChangeShapes Go.WideShapes Go.RowKit Hs
set_option maxRecDepth 100000
def kO (l:List Int):List Value:=l.map fun n=> .int .i64 n
def Ints (w:World) (v:Value) (l:List Int):Prop:=Row w v 1 l.length (kO l)
theorem Ints.below {w w':World} {v:Value} {l:List Int} (h:Ints w v l) (hb:Below w.heap.size w w'):Ints w' v l:=Row.below h hb
theorem Ints.open {w:World} {v:Value} {l:List Int} (h:Ints w v l):∃ a cap,v= .slice a l.length cap∧l.length≤cap∧cap≤maxLen ∧
  ∀ (hn:0<l.length),∃ b off,a=some ⟨b,off,none⟩∧b<w.heap.size∧∀ j (hj:j<l.length),w.cell? ⟨b,off+j,none⟩=some (.int .i64 l[j]):=by
 obtain ⟨hl,a,cap,rfl,hn,hm,h⟩:=h;refine ⟨a,cap,rfl,hn,hm,fun h0=> ?_⟩;rcases h with h | ⟨b,off,ha,hlt,hc⟩
 ·omega
 exact ⟨b,off,ha,hlt,fun j hj=>hc j _ (by simp [kO,List.getElem?_eq_getElem hj])⟩
theorem YU (b off j:Nat):(⟨b,off,none⟩:Addr).add j=⟨b,off+j,none⟩:=by
 unfold Addr.add;split
 ·rename_i h;rw [h];rfl
 rfl
theorem TF {W:World} {a:Addr} {len cap:Nat} {xs:List Value} (hl:xs.length=len) (h1:len≤cap) (h2:cap≤maxLen) (h:∀ i u,xs[i]? =some u→W.cell? (a.add i)=some u):Row W (.slice (some a) len cap) 1 len xs:=by
 by_cases h0:len=0
 ·exact ⟨by omega,some a,cap,rfl,h1,h2,.inl h0⟩
 obtain ⟨b,off,spot⟩:=a;have k0:=h 0 xs[0] (List.getElem?_eq_getElem (by omega));have hspot:spot=none:=by simpa [Addr.add] using World.cell?_spot k0
 subst hspot;rw [YU] at k0;exact ⟨by omega,_,cap,rfl,h1,h2,.inr ⟨b,off,rfl,World.block_lt_of_cell? W _ k0,fun j u hj=>by have:=h j u hj;rwa [YU] at this⟩⟩
theorem ZI {H:Type} {enc:TypeId × Value→H} {W:World} {base:Nat} {v:Value} {d:DataW H} {p:List MemPlace} (hval:Value.okWide Tryz.prog W .any base 22 v) (h:DataW.Trod enc Tryz.prog W 0 (fun _=>true) true 22 v d p) :
  ∃ l:List Int,Ints W v l∧∀ n∈l,(Lit.int .i64 n).wf=true:=by
 obtain ⟨fuel,hf⟩:=h;obtain ⟨a0,len,cap,rfl⟩:=okWide_slice Tryz.underlying22 hval;rcases open_ints Tryz.underlying22 Tryz.underlying3 (by kernel_rfl) hf with ⟨hcs,hx⟩ | ⟨a,len',cap',zs,hcs,_,hl,hm,hlen,hx,hel,hsz⟩
 ·simp [Value.cells] at hcs;obtain ⟨rfl,rfl,rfl⟩:=hcs;exact ⟨[],Row.nil _ _,fun x hx=>by cases hx⟩
 simp [Value.cells] at hcs;obtain ⟨rfl,rfl,rfl⟩:=hcs;simp only [if_true] at hlen;refine ⟨zs.take len,?_,fun x hx=>hsz x (List.mem_of_mem_take hx)⟩;have e:(zs.take len).length=len:=by simp;omega
 unfold Ints;rw [e];refine TF (by simp [kO];omega) hl hm (fun i u hu=> ?_);have hi:i<len:=by have:=(List.getElem?_eq_some_iff.1 hu).1;simp [kO] at this;omega
 have:=hel i (by omega);rw [this];simp only [kO,List.getElem?_map,List.getElem?_take,hi,if_true,List.getElem?_eq_getElem (show i<zs.length by omega),Option.map_some] at hu;rw [←hu];simp [List.getD,List.getElem?_eq_getElem (show i<zs.length by omega)]
end Go.Proofs.YtbnnlkdhpifpeaaGreatDoor
namespace Go.Proofs.YtbnnlkdhpifpeaaGreatDoor
open Go.RowKit Hs HsR
theorem UV (pm lp ps b g cap k:Nat) (nm:Bs) (clk:Int) (w:World) (hB:Base6 w) (hnm:zG nm=true) (hnl:nm.length≤200) (hk1:1≤k) (hk9:k≤9) (hq:CkI pm lp ps b ⟨nm,false,(k:Int)⟩ clk w) (hc0:0≤clk) (hc1:clk≤1099511627776) (h0:w.cell? ⟨g,0,none⟩=some (.string ⟨#[104,116,116,112,58,47,47,122,47]⟩)) (h1:w.cell? ⟨g,1,none⟩=some (.slice none 0 0)) (hg:g<w.heap.size) :
  Calls Tryz.prog 11 #[.pointer (some ⟨pm,0,none⟩),.agg #[.string (mk (bWs++58::([47,47]++(nm++[47])))),.int .i64 1,.bool false],.slice (some ⟨g,0,none⟩) 1 cap] w fun e w'=>(∃ ac rs ul,e= .returned (.tuple #[.agg #[.int .i64 ac,.int .i64 rs,.string (mk ul)],.int .i64 0])∧((clk<(k:Int)∧ac=2∧ul=th++58::([47,47]++(nm++[47])))∨(¬ clk<(k:Int)∧ac=1)))∧Below w.heap.size w w':=by
 obtain ⟨a,c,hM,hP,hne,hlist,hbp⟩:=hq;have hok:xU ⟨nm,false,(k:Int)⟩=true:=by simp [xU,hnm];omega
 refine (dz pm ps lp 1 c a clk _ (bWs++58::([47,47]++(nm++[47]))) 1 false (vo (zK bWs nm) 1 false ⟨false,false,false,false,[]⟩ (tg clk [⟨nm,false,(k:Int)⟩] [] (zK bWs nm).host)) w hM (fun W hW=> ?_)).mono ?_
 ·exact ZX clk [⟨nm,false,(k:Int)⟩] _ _ lp _ 1 false ⟨false,false,false,false,[]⟩ (zK bWs nm) W (hB.below hW) (hP.below hW) ⟨hc0,hc1,by simp,fun p hp=>by obtain rfl:=List.mem_singleton.1 hp;exact ⟨hok,by show nm.length≤300;omega,by show (0:Int)≤(k:Int);omega,by show (k:Int)≤_;omega⟩⟩ (hlist.below hlist.lt hW) (fun V hV=>YM [122] [104,116,116,112,58,47,47,122,47] (by decide) (by decide) PD PB (by unfold okT;decide) (ra (by decide) (by unfold okT;decide) (by decide)) g cap V ((hB.below hW).below hV) ((hV.cell (Nat.lt_of_lt_of_le hg hW.size)).trans ((hW.cell hg).trans h0)) ((hV.cell (Nat.lt_of_lt_of_le hg hW.size)).trans ((hW.cell hg).trans h1)) (Nat.lt_of_lt_of_le hg (Nat.le_trans hW.size hV.size))) rfl (by decide) (by simp [bWs];omega) (QO hnm (by omega)) (qk _ _) (kZ _ _ (by decide) (by omega)) (by rw [Wv];exact qk _ _) (by rw [Wv];exact kZ _ _ (by decide) (by omega)) (U9 hnm) (cW hnm (by unfold okT;decide)) (ra hnm (by unfold okT;decide) (by decide)) (by rw [Wv];exact ra hnm (by unfold okT;decide) (by decide))
 rintro e w' ⟨rfl,hb⟩;refine ⟨⟨_,_,_,rfl,?_⟩,hb⟩;by_cases hc:clk<(k:Int)
 ·exact .inl ⟨hc,by rw [pR hnm clk _ hc];rfl,by rw [pR hnm clk _ hc]⟩
 exact .inr ⟨hc,by rw [Xj clk _ hc];rfl⟩
theorem rX (x y:Bs):mk x++mk y=mk (x++y):=by
 have h:un (mk x++mk y)=un (mk (x++y)):=by rw [yT,zk,zk,zk]
 rw [←x8 (mk x++mk y),h,x8]
set_option maxRecDepth 20000
set_option maxHeartbeats 8000000
theorem Rm (s:ByteArray) (age:Int) (rv:Value) (rs:List Int) (w:World) (hB:Base6 w) (hag:(Lit.int .i64 age).wf=true) (hrs:Ints w rv rs) (hss:s.size≤maxLen):Calls Tryz.prog 3 #[.string s,.int .i64 age,rv] w fun e w'=>e= .returned (.bool true)∧Below w.heap.size w w':=by
 have hmx:MaxOk w:=hB.1.2.1;obtain ⟨a,c,rfl,hn1,hn2,hcell⟩:=hrs.open;obtain ⟨nm,rfl⟩:∃ nm,s=mk nm:=⟨un s,(x8 s).symm⟩;rw [zi] at hss;unfold maxLen at hn2 hss;have HAW:=KZ9 (fun W (hW:Below w.heap.size w W)=>Rn W (hB.below hW) (hmx.below hW hmx.lt));by_cases h20:rs.length≤20
 ·by_cases h200:nm.length≤200
  ·have HVN:=KZ9 (gr (mk nm) w (by rw [zi];omega));rw [zk] at HVN;by_cases hnm:zG nm=true
   ·rw [hnm] at HVN;have HCE:=KZ9 hcell;have HB:=KZ9 hB;have HMX:=KZ9 hmx;have HAG:=KZ9 hag;obtain ⟨k,hk⟩:∃ k:Nat,(k:Int)=1+age % 9:=⟨(1+age % 9).toNat,by omega⟩;have hk1:1≤k:=by omega
    have hk9:k≤9:=by omega
    have hwk:IntKind.i64.wrap (1+age % 9)=(k:Int):=by rw [←hk,IntKind.wrap_i64];omega
    have HMD:=KZ9 (fun W=>Sj age 9 W hag (by decide) (by decide));have HST:Hid (∀ W,Below w.heap.size w W→Calls Tryz.prog 6 #[.int .i64 40,.slice none 0 0] W fun e w'=>∃ (I:DK) (pm b:Nat),e= .returned (.tuple #[.pointer (some ⟨I.dd,0,none⟩),.pointer (some ⟨pm,0,none⟩),.bool true])∧(∀ k,I.S k→W.heap.size≤k)∧W.heap.size≤b∧MonQ I 40 2 19 9 0 0 [] (wF 40) b pm 0 w'∧Below W.heap.size W w'):=KZ9 (fun W hW=>Wz 40 2 19 9 W (hB.below hW) V2 (by decide) (by decide) (by decide) (by decide) (by decide) (by decide) Sc);obtain ⟨dk,hdk⟩:=KZ6 ([UInt8.ofNat (48+k)]);obtain ⟨vk,hvk⟩:=KZ6 (rp k);obtain ⟨a1,ha1⟩:∃ x,x=[104,116,116,112,115,58,47,47]++nm:=⟨_,rfl⟩;obtain ⟨u1,hu1⟩:∃ x,x=zP++58::([47,47]++(nm++[47])):=⟨_,rfl⟩;obtain ⟨a2,ha2⟩:∃ x,x=[119,115,58,47,47]++nm:=⟨_,rfl⟩;obtain ⟨u2,hu2⟩:∃ x,x=bWs++58::([47,47]++(nm++[47])):=⟨_,rfl⟩
    obtain ⟨a3,ha3⟩:∃ x,x=[119,115,115,58,47,47]++nm:=⟨_,rfl⟩;obtain ⟨u3,hu3⟩:∃ x,x=th++58::([47,47]++(nm++[47])):=⟨_,rfl⟩;have hE:(⟨#[48,49,50,51,52,53,54,55,56,57]⟩:ByteArray).extract k (k+1)=mk dk:=by rw [hdk];exact QC ⟨k,by omega⟩
    have hF:(⟨#[109,97,120,45,97,103,101,61]⟩:ByteArray)++mk dk=mk vk:=by rw [hdk,hvk];exact (rX [109,97,120,45,97,103,101,61] _)
    have hA1:(⟨#[104,116,116,112,115,58,47,47]⟩:ByteArray)++mk nm=mk a1:=by rw [ha1];exact rX [104,116,116,112,115,58,47,47] _
    have hA2:mk a1++(⟨#[47]⟩:ByteArray)=mk u1:=by rw [ha1,hu1];exact (rX _ [47]).trans (by simp [zP])
    have hW1:(⟨#[119,115,58,47,47]⟩:ByteArray)++mk nm=mk a2:=by rw [ha2];exact rX [119,115,58,47,47] _
    have hW2:mk a2++(⟨#[47]⟩:ByteArray)=mk u2:=by rw [ha2,hu2];exact (rX _ [47]).trans (by simp [bWs])
    have hX1:(⟨#[119,115,115,58,47,47]⟩:ByteArray)++mk nm=mk a3:=by rw [ha3];exact rX [119,115,115,58,47,47] _
    have hX2:mk a3++(⟨#[47]⟩:ByteArray)=mk u3:=by rw [ha3,hu3];exact (rX _ [47]).trans (by simp [th])
    have z1:a1.length≤300:=by rw [ha1];simp;omega
    have z2:a2.length≤300:=by rw [ha2];simp;omega
    have z3:a3.length≤300:=by rw [ha3];simp;omega
    have zd:dk.length=1:=by rw [hdk];rfl
    have HVK:=KZ9 hvk;have HU1:=KZ9 hu1;have HU2:=KZ9 hu2;have HU3:=KZ9 hu3;have HPO:=KZ9 (fun W=>b9 vk W (by rw [hvk];simp [rp]));clear hk hag hB hmx hcell hrs hdk hvk ha1 hu1 ha2 hu2 ha3 hu3;go_enter Tryz.func3,Tryz.ntmps3
    go_wp2_with fail
    all_goals try omega
    refine HVN.out.mono ?_;rintro e w1 ⟨rfl,hb1⟩;have HB1:=KZ9 hb1;clear hb1 HVN;go_wp2_with fail
    all_goals try omega
    refine (HST.out w1 HB1.out).mono ?_;rintro e w2 ⟨I,pm,b,rfl,hS,hbb,hq,hb2⟩;have HS:=KZ9 (fun k hk=>Nat.le_trans HB1.out.size (hS k hk));have HBB:=KZ9 (Nat.le_trans HB1.out.size hbb);have HQ:=KZ9 hq;have HB2:=KZ9 (HB1.out.trans (hb2.mono HB1.out.size));clear hS hbb hq hb2 HST HB1;go_wp2_with fail
    all_goals try omega
    refine (HMD.out w2).mono ?_;rintro e w3 ⟨rfl,rfl⟩;go_wp2_with fail
    all_goals try omega
    refine (HPO.out w2).mono ?_;rintro e w3 ⟨g,gc,rfl,hby,hg,hb3⟩;rw [HVK.out] at hby ⊢;obtain ⟨hq1,ps0,lp0,v0,hq2,hq3,hq4,hq5⟩:=HQ.out;have hob:=Wf I pm b g gc k nm w3 (HB.out.below (HB2.out.trans (hb3.mono HB2.out.size))) (HMX.out.below (HB2.out.trans (hb3.mono HB2.out.size)) HMX.out.lt) ⟨hq1,ps0,lp0,v0,hq2.below hq2.lt hb3,hq3,hq4.below hq4.lt hb3,hq5.below hb3⟩ hnm h200 hk1 hk9 hby;rw [←HU1.out] at hob;obtain ⟨pl,hpl⟩:=KZ6 ((vX (rp k)).length);rw [←hpl] at hob ⊢;have HOB:=KZ9 hob;have HB3:=KZ9 (HB2.out.trans (hb3.mono HB2.out.size));have hfd:∀ (v:Int) (W:World),(Instr.field 32 (.agg #[.int .i64 v,.int .i64 0]) 0).run Tryz.prog W= .ok (.int .i64 v) W:=fun _ _=>by kernel_rfl
    have hfe:∀ (v:Int) (a:Option Addr) (n c:Nat) (W:World),(Instr.field 49 (.agg #[.int .i64 v,.slice a n c]) 0).run Tryz.prog W= .ok (.int .i64 v) W:=fun _ _ _ _ _=>by kernel_rfl
    clear hob hby hg hb3 hq1 hq2 hq3 hq4 hq5 hpl HQ HPO HB2 HMX HMD;go_wp2_with fail
    all_goals try omega
    refine HOB.out.mono ?_;rintro e w4 ⟨lp,ps,rfl,hck,hb4⟩;have HCK:=KZ9 hck;have HB4:Hid (Below w.heap.size w w4):=KZ9 (HB3.out.trans (hb4.to_below (fun k hk=>hk.elim (HS.out k) (fun h8=>Nat.le_trans HBB.out h8)) HB3.out.size));clear hck hb4 HOB HB3;go_wp2_with fail
    all_goals try omega
    go_loopw [10,11] (fun cv iv wr=>∃ (j:Nat) (clk:Int),cv= .int .i64 clk∧iv= .int .i64 j∧j≤rs.length∧Hid (0≤clk∧clk≤1099511627776)∧Hid (CkI pm lp ps b ⟨nm,false,(k:Int)⟩ clk wr)∧Hid (Below w.heap.size w wr)) (fun _ iv _=>rs.length - (intOf iv).toNat)
    case atStart=>exact ⟨0,0,rfl,rfl,by omega,KZ9 ⟨by decide,by decide⟩,HCK,HB4⟩
    case round =>
     obtain ⟨j,clk,rfl,rfl,hj,hcl,hCk,hBr⟩:=hrel;by_cases hlt:j<rs.length
     ·obtain ⟨bb,off,rfl,hbl,hcc⟩:=HCE.out (by omega);have cj:=(hBr.out.cell (p:=⟨bb,off+j,none⟩) hbl).trans (hcc j hlt);obtain ⟨r,hr⟩:=KZ6 (rs[j]);rw [←hr] at cj;obtain ⟨ck,hckk⟩:∃ ck,max clk (min r 1099511627776)=ck:=⟨_,rfl⟩;have hck0:0≤ck∧ck≤1099511627776:=by have:=hcl.out;omega
      have HR:Hid (Below wr.heap.size wr wr):=KZ9 (Below.refl _ wr);obtain ⟨va,vc,k1,k2,k3,k4,k5⟩:=hCk.out;have hok:OkS clk [⟨nm,false,(k:Int)⟩]:=⟨hcl.out.1,hcl.out.2,by simp,fun p hp=>by obtain rfl:=List.mem_singleton.1 hp;exact ⟨by simp [xU,hnm];omega,by show nm.length≤300;omega,by show (0:Int)≤(k:Int);omega,by show (k:Int)≤_;omega⟩⟩;have htk:=RS pm ps lp clk r [⟨nm,false,(k:Int)⟩] _ wr k1 (HB.out.below hBr.out).1 k2 hok;rw [hckk] at htk;have HTK:=KZ9 htk;have HK4:=KZ9 k4;have HK1:=KZ9 k1;have HCK0:=KZ9 hck0;clear k1 k2 k3 k4 htk hok hcc hr hCk hck0 hcl HR;go_wp2_with fail
      all_goals try omega
      refine HTK.out.mono ?_;rintro e w5 ⟨ta,tc,rfl,t1,t2,t3,t4⟩;have hb5:Below w.heap.size w w5:=hBr.out.trans (t4.to_below (fun i hi=>by rw [hi];have:=HBB.out;omega) hBr.out.size);have hck5:CkI pm lp ps b ⟨nm,false,(k:Int)⟩ ck w5:=⟨ta,tc,t1,t2,fun i hi e=>by have:=t3 i hi;have:=HK1.out.lt;omega,HK4.out.but t4 (fun e=>sM HK4.out HK1.out (by decide) e),k5⟩;have cj5:=(hb5.cell (p:=⟨bb,off+j,none⟩) hbl).trans ((hBr.out.cell (p:=⟨bb,off+j,none⟩) hbl).symm.trans cj);have HCK5:=KZ9 hck5;have HB5:=KZ9 hb5;clear t1 t2 t3 t4 hb5 hck5 HTK HK4 HK1 cj;go_wp2_with fail
      all_goals try omega
      have hfr:=BlkL.new w5 45 [.string ⟨#[104,116,116,112,58,47,47,122,47]⟩,.slice none 0 0];have hbf:Below w5.heap.size w5 (w5.alloc (.cells #[.string ⟨#[104,116,116,112,58,47,47,122,47]⟩,.slice none 0 0] 45)):=(Below.refl _ w5).alloc (Nat.le_refl _) _;have hdc:=UV pm lp ps b w5.heap.size 1 k nm ck _ (HB.out.below (HB5.out.trans (hbf.mono HB5.out.size))) hnm h200 hk1 hk9 (HCK5.out.below hbf) HCK0.out.1 HCK0.out.2 (hfr.c 0 _ rfl) (hfr.c 1 _ rfl) hfr.lt;rw [←HU2.out,←HU3.out] at hdc;refine hdc.mono ?_;rintro e w6 ⟨⟨ac,dr,ul,rfl,hcase⟩,hb6⟩;have hb56:Below w5.heap.size w5 (w6.alloc (.cells #[.int .i64 ac,.int .i64 dr,.string (mk ul)] 38)):=(hbf.trans (hb6.mono hbf.size)).alloc (Nat.le_trans hbf.size hb6.size) _;have hck7:=HCK5.out.below hb56;obtain ⟨va,vc,k1,k2,k3,k4,k5⟩:=id hck7;have HSTT:=KZ9 (T8 pm ps lp ck [⟨nm,false,(k:Int)⟩] _ _ k1 k2 (by simp))
      have hy:=BlkL.new w6 38 [.int .i64 ac,.int .i64 dr,.string (mk ul)];have HY:=KZ9 hy;have HCK7:=KZ9 hck7;have HB7:=KZ9 (HB5.out.trans (hb56.mono HB5.out.size));clear hfr hbf hdc hb6 hb56 hck7 k1 k2 k3 k4 hy HCK5 HB5 cj5;rcases hcase with ⟨q1,rfl,rfl⟩ | ⟨q1,rfl⟩
      ·have q2:decide (ck<(k:Int))=true:=KZ7 q1;go_wp2_with fail
       all_goals try omega
       refine HSTT.out.mono ?_;rintro e w8 ⟨sa,sc,rfl,hb8⟩;have hy8:=HY.out.below HY.out.lt hb8;have y0:=hy8.c 0 _ rfl;have y2:=hy8.c 2 _ rfl;have HCK8:=KZ9 (HCK7.out.below hb8);have HB8:=KZ9 (HB7.out.trans (hb8.mono HB7.out.size));clear hy8 hb8 HSTT HY HCK7 HB7;go_wp2_with fail
       all_goals try omega
       go_roundw
       case rel=>exact ⟨j+1,ck,rfl,by go_num,by omega,HCK0,HCK8,HB8⟩
       case measure=>simp [intOf];omega
      have q2:decide (ck<(k:Int))=false:=KZ8 q1;go_wp2_with fail
      all_goals try omega
      refine HSTT.out.mono ?_;rintro e w8 ⟨sa,sc,rfl,hb8⟩;have hy8:=HY.out.below HY.out.lt hb8;have y0:=hy8.c 0 _ rfl;have y2:=hy8.c 2 _ rfl;have HCK8:=KZ9 (HCK7.out.below hb8);have HB8:=KZ9 (HB7.out.trans (hb8.mono HB7.out.size));clear hy8 hb8 HSTT HY HCK7 HB7;go_wp2_with fail
      all_goals try omega
      go_roundw
      case rel=>exact ⟨j+1,ck,rfl,by go_num,by omega,HCK0,HCK8,HB8⟩
      case measure=>simp [intOf];omega
     go_wp2_with fail
     all_goals try omega
     refine (HAW.out _ hBr.out).mono ?_;rintro e w9 ⟨rfl,hb9⟩;have HB9:=KZ9 (hBr.out.trans (hb9.mono hBr.out.size));clear hb9;go_wp2_with fail
     all_goals try omega
     go_ret;exact ⟨rfl,HB9.out⟩
   have hnf:zG nm=false:=by simpa using hnm
   rw [hnf] at HVN;go_enter Tryz.func3,Tryz.ntmps3
   go_wp2_with fail
   all_goals try omega
   refine HVN.out.mono ?_;rintro e w1 ⟨rfl,hb1⟩;go_wp2_with fail
   all_goals try omega
   refine (HAW.out _ hb1).mono ?_;rintro e w9 ⟨rfl,hb9⟩;have HB9:=KZ9 (hb1.trans (hb9.mono hb1.size));clear hb9;go_wp2_with fail
   all_goals try omega
   go_ret;exact ⟨rfl,HB9.out⟩
  go_enter Tryz.func3,Tryz.ntmps3
  go_wp2_with fail
  all_goals try omega
  refine (HAW.out _ (Below.refl _ w)).mono ?_;rintro e w9 ⟨rfl,hb9⟩;have HB9:=KZ9 hb9;clear hb9;go_wp2_with fail
  all_goals try omega
  go_ret;exact ⟨rfl,HB9.out⟩
 go_enter Tryz.func3,Tryz.ntmps3
 go_wp2_with fail
 all_goals try omega
 refine (HAW.out _ (Below.refl _ w)).mono ?_;rintro e w9 ⟨rfl,hb9⟩;have HB9:=KZ9 hb9;clear hb9;go_wp2_with fail
 all_goals try omega
 go_ret;exact ⟨rfl,HB9.out⟩
end Go.Proofs.YtbnnlkdhpifpeaaGreatDoor
namespace Go.Proofs.YtbnnlkdhpifpeaaGreatDoor
open Go.RowKit Hs
theorem Tn (s:ByteArray) (age:Int) (rv:Value) (rs:List Int) (w:World) (hB:Base6 w) (hss:s.size≤maxLen) (hag:(Lit.int .i64 age).wf=true) (hrs:Ints w rv rs) (hrm:∀ n∈rs,(Lit.int .i64 n).wf=true):Calls Tryz.prog 3 #[.string s,.int .i64 age,rv] w fun e w'=>e= .returned (.bool true)∧Below w.heap.size w w':=Rm s age rv rs w hB hag hrs hss
end Go.Proofs.YtbnnlkdhpifpeaaGreatDoor
namespace Hs
open Go
theorem Yi {H:Type} {enc:TypeId × Value→H} {a:Assume} {C:Checked} {os:Os} {f:FuncId} {fn:Func} {s:ChangeSpec} {conds:List PathCond} {apart fresh handsOn again:Bool} {X:World→Array Value→Prop}
  (hX:∀ (w w':World) (args:Array Value),w.heap=w'.heap→X w args→X w' args)
  (own:ownKnob C.prog.godebug=none) (started:os.Started) (noInit:C.prog.inits.idxOf? f=none) (hfn:C.prog.funcs[f]? =some fn)
  (witness:∃ (w:World) (tape:Tape) (i:Input),w.os=os∧(w.forCall tape i).Shaped C.prog∧i.vars=[]∧Input.okWide C.prog (w.forCall tape i) .any w.heap.size f i ∧
   ((s.pre enc C.prog fn conds apart (w.forCall tape i).memory i.args∧X (w.forCall tape i).memory i.args)∧sizedMet enc C.prog fn (OpenSpec.ofChange s) apart (w.forCall tape i).memory i.args)∧a.holds C.prog (lone (Frame.enter C.prog f i.args .normal) [] (w.forCall tape i)))
  (walk:∀ (W:World) (base:Nat) (args:Array Value) (ds gs:List (DataW H)) (before:List MemPlace),
   (∀ (j:Nat) t v,fn.params[j]? =some t→args[j]? =some v→Value.okWide C.prog W .any base t v) →
   DataW.Whole enc C.prog fn.params.toList s.vars apart W args.toList ds gs before→X W args→W.ShapedOpen C.prog →
   Calls C.prog f args W fun e W'=>∃ v,e= .returned v∧s.post enc C.prog fn apart fresh handsOn again W args v W') :
  ReturnsInHanded a C os f .any (fun w args=>(s.pre enc C.prog fn conds apart w args∧X w args)∧sizedMet enc C.prog fn (OpenSpec.ofChange s) apart w args) (s.post enc C.prog fn apart fresh handsOn again):=by
 refine returnsInHanded_of_calls own started noInit witness ?_;rintro w tape i _ hsh _ ⟨_,_,_,g,hg,_,_,_,_,hval⟩ ⟨⟨⟨ds,gs,before,hw,_⟩,hx⟩,_⟩ _;obtain rfl:g=fn:=Option.some.inj (hg.symm.trans hfn);refine (walk (w.forCall tape i) w.heap.size i.args ds gs before hval (DataW.Whole.of_heap (w':=w.forCall tape i) (by rfl) hw) (hX _ _ _ (by rfl) hx) hsh).mono ?_;rintro e W' ⟨v,rfl,hp⟩;exact ChangeSpec.post_blind hp
end Hs
namespace Go.Proofs.YtbnnlkdhpifpeaaGreatDoor
open Go.RowKit Hs Go.ChangeShapes Go.WideShapes
theorem gTz : Tryz.prog.globalNamed "math/bits.deBruijn64tab" = some 5 := by kernel_rfl
theorem tTz:(Tryz.prog.globals[5]?).map (·.type)=some 227:=by kernel_rfl
set_option maxRecDepth 100000
theorem U1 {W:World} (h:laidMetH Tryz.prog Rows.topClockRow.laid W) (hsh:W.ShapedOpen Tryz.prog):Base6 W:=by
 rw [MakeChecks.laidMetH_plain _ _ _ (by kernel_rfl)] at h;have h0 := laidMet.tail h;have h1 : Lib.TabIs Tryz.prog W "math/bits.deBruijn64tab" .u8 [0, 1, 56, 2, 57, 49, 28, 3, 61, 58, 42, 50, 38, 29, 17, 4, 62, 47, 59, 36, 45, 43, 51, 22, 53, 39, 33, 30, 24, 18, 12, 5, 63, 55, 48, 27, 60, 41, 37, 16, 46, 35, 44, 21, 52, 32, 23, 11, 54, 26, 40, 15, 34, 20, 31, 10, 25, 14, 19, 9, 13, 8, 7, 6] := Lib.tabIs_of_head gTz tTz Tryz.underlying227 Tryz.underlying5 (by kernel_rfl) (by kernel_rfl) h0;have h2 : Lib.TabIs Tryz.prog W "internal/strconv.uint64pow10" .u64 Lib.pow10Tab := Lib.tabIs_of_head Q6 Pn Tryz.underlying402 Tryz.underlying152 SR UX (laidMet.tail h0);have e3 : (Rows.laid_unicode_utf8_first : DataW Unit) = Lib.firstData := by kernel_rfl
 have e4:(Rows.laid_unicode_utf8_acceptRanges:DataW Unit)=Lib.acceptData:=by kernel_rfl
 have r3 : Lib.VarReads Tryz.prog W "unicode/utf8.first" Rows.laid_unicode_utf8_first := Lib.laidMet.reads h (.tail _ (.tail _ (.tail _ (.tail _ (.head _)))));have r4 : Lib.VarReads Tryz.prog W "unicode/utf8.acceptRanges" Rows.laid_unicode_utf8_acceptRanges := Lib.laidMet.reads h (.tail _ (.tail _ (.tail _ (.head _))));rw [e3] at r3;rw [e4] at r4;have hX : U8Extra Tryz.prog Tryz.lays196_ren := ⟨by kernel_rfl, by kernel_rfl, by kernel_rfl, by kernel_rfl, by kernel_rfl, by kernel_rfl, by kernel_rfl⟩;have h8 : U8 W := utf8Tabs_of_readsT (U8Types.of196 Tryz.lays196) hX r3 r4;refine ⟨⟨⟨h2, World.block_lt_of_cell? W _ (h2.cell Q6 0 (by decide))⟩, ?_, h8⟩, h1.cell gTz 15 (by decide)⟩;exact cell_of_shapedOpen_int (g := 0) (t := 3) (zero := #[.int .i64 0]) hsh (of_decide_eq_true (by kernel_rfl)) (by kernel_rfl) rfl (by kernel_rfl) (by kernel_rfl) Tryz.underlying3
end Go.Proofs.YtbnnlkdhpifpeaaGreatDoor
