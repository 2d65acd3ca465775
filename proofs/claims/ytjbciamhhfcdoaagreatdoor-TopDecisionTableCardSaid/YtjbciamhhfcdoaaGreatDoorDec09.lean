/- What the proof of TopDecisionTable uses, part Dec09. -/
import Derived.Test.YtjbciamhhfcdoaaGreatDoorDec08
set_option linter.unusedSimpArgs false
set_option linter.unusedVariables false
namespace Go.Proofs.YtjbciamhhfcdoaaGreatDoor
open Go.RowKit Hs
theorem sU (s:ByteArray) (h:0<s.size):s.toList.isEmpty=false:=by
 rw [zl];cases he:(un s).isEmpty
 ·rfl
 have h3:s.size=0:=by rw [←zb,List.isEmpty_iff.1 he];rfl
 omega
theorem Yl (s:ByteArray) (h:2≤s.size):un s=s[0]'(by omega)::s[1]'(by omega)::(un s).drop 2:=by
 have h0:0<(un s).length:=by rw [zb];omega
 have h1:1<(un s).length:=by rw [zb];omega
 have e0:=List.drop_eq_getElem_cons h0;have e1:=List.drop_eq_getElem_cons h1;rw [List.drop_zero] at e0;rw [e1] at e0;exact e0
theorem ZB (l:Bs) (b:UInt8) (r:Bs) (h:l=48::b::r) (hb:b=120∨b=88):zr l=yz 16 (l.drop 2):=by
 subst h;unfold zr;rw [if_neg (by simp),if_pos (by simp [vq,hb])]
theorem RF (l:Bs) (b:UInt8) (r:Bs) (h:l=48::b::r) (h1:b≠120) (h2:b≠88):zr l=yz 8 (l.drop 1):=by
 subst h;unfold zr;rw [if_neg (by simp),if_neg (by simp [vq,h1,h2]),if_pos (by simp)]
theorem X2 (l:Bs) (a:UInt8) (r:Bs) (h:l=a::r) (ha:a=48→r=[]):zr l=yz 10 l:=by
 subst h;unfold zr;rw [if_neg (by simp),if_neg (by cases r with | nil=>simp [vq] | cons b r=>simp [vq];intro e;exact absurd (ha e) (by simp)),if_neg (by rintro ⟨h1,h2⟩;simp at h2;rw [ha h2] at h1;simp at h1)]
set_option maxHeartbeats 2000000
theorem km (s:ByteArray) (w:World) (hs:s.size≤100000000) (hn:s.size=1):Calls Tryz.prog 64 #[.string s] w fun e w'=>e= .returned (.tuple #[.int .i64 (zr (un s)).1,.bool (zr (un s)).2])∧Below w.heap.size w w':=by
 have hep:zr (un s)=yz 10 (un s):=by
  have hl:(un s).length=1:=by rw [zb];exact hn
  match h:un s,hl with
  | [a],_=>exact X2 _ a [] rfl (fun _=>rfl)
 have g2:(s.size:Int)<2:=by omega
 have h1:=sU s (by omega);obtain ⟨U,hU⟩:=KZ6 (un s);have EP:Hid (zr (un s)=yz 10 U):=KZ9 (by rw [hU];exact hep);have HU:Hid (U=un s):=KZ9 (by rw [hU]);clear hep hU;go_enter Tryz.func64,Tryz.ntmps64
 go_wp2;go_loop [5,6] (fun nv iv=>∃ k:Nat,iv= .int .i64 k∧k≤s.size∧nv= .int .i64 (yO 10 (U.take k) 0)∧yO 10 (U.take k) 0≤1099511627776∧Hid (zR 10 U=zR 10 (U.drop k))) (fun _ iv=>s.size - (intOf iv).toNat)
 case atStart=>exact ⟨0,rfl,by omega,rfl,by simp [yO],rfl⟩
 case round =>
  obtain ⟨k,rfl,hk,rfl,hle,ha⟩:=hrel;by_cases hlt:k<s.size
  ·have hlu:k<(U).length:=by rw [HU.out,zb];exact hlt
   have hst:=KZ9 (wY 10 U k hlu);have hge:(U)[k]'hlu=s[k]'hlt:=by simp only [HU.out];rfl
   rw [hge] at hst;have hnx:Hid (yD (s[k]'hlt)<10→zR 10 U=zR 10 (U.drop (k+1))):=by
    intro h;have e:=ha.out;rw [zR,zR,zQ U _ k hlu true (KZ7 (by rw [hge];exact h))] at e;exact e
   have hno:Hid (¬ yD (s[k]'hlt)<10→yz 10 U=(0,false)):=by
    intro h;have e:zR 10 U=false:=by rw [ha.out];unfold zR;rw [zQ U _ k hlu false (KZ8 (by rw [hge];exact h))];rfl
    exact if_neg (by simp [e])
   have HD:=KZ9 (fun W=>tD (s[k]'hlt) _ rfl W);clear ha hge;obtain ⟨v,hv⟩:=KZ6 (yO 10 (U.take k) 0);rw [←hv] at hle hst ⊢;clear hv;obtain ⟨q,hq⟩:=KZ6 (yD (s[k]'hlt));rw [←hq] at hnx hno hst HD;clear hq;by_cases hqb:q<10
   ·have HN:=KZ9 (hnx.out hqb);have g1:decide ((10:Int)≤(q:Int))=false:=KZ8 (by omega);clear hnx hno;go_wp2_with fail
    refine (HD.out _).mono ?_;rintro e w2 ⟨rfl,rfl⟩;go_wp2
    all_goals try omega
    go_round
    case rel =>
     refine ⟨k+1,by go_num,by omega,?_,by rw [hst.out];omega,HN⟩;rw [hst.out]
     congr 1
     omega
    case measure=>simp [intOf];omega
   have HN:=KZ9 (hno.out hqb);have g1:decide ((10:Int)≤(q:Int))=true:=KZ7 (by omega);clear hnx hno;go_wp2_with fail
   refine (HD.out _).mono ?_;rintro e w2 ⟨rfl,rfl⟩;go_wp2
   all_goals try omega
   go_ret2;rw [EP.out,HN.out];exact ⟨rfl,by first | exact Below.refl _ _ | exact below_drewN (Below.refl _ _) _⟩
  obtain rfl:k=s.size:=by omega
  have hall:Hid (yz 10 U=(yO 10 U 0,true)):=KZ9 (by
   have hlen:s.size=(U).length:=by rw [HU.out,zb]
   have e:=ha.out;rw [hlen,List.drop_length] at e;unfold yz;rw [e];rfl)
  have htk:(U).take s.size=U:=List.take_of_length_le (by rw [HU.out,zb];exact Nat.le_refl _);rw [htk] at hle ⊢;clear ha htk;go_wp2;go_ret2;rw [EP.out,hall.out];exact ⟨rfl,by first | exact Below.refl _ _ | exact below_drewN (Below.refl _ _) _⟩
theorem kk (s:ByteArray) (w:World) (hs:s.size≤100000000) (hs2:2≤s.size) (h0:s[0]'(by omega)≠48):Calls Tryz.prog 64 #[.string s] w fun e w'=>e= .returned (.tuple #[.int .i64 (zr (un s)).1,.bool (zr (un s)).2])∧Below w.heap.size w w':=by
 have hep:=X2 _ _ _ (Yl s hs2) (fun e=>absurd e h0);have g2:(2:Int)≤(s.size:Int):=by omega
 have g3:(((s[0]'(by omega)).toNat:Int)==48)=false:=by rw [beq_eq_false_iff_ne];intro e;exact h0 (UInt8.toNat_inj.1 (by have:(48:UInt8).toNat=48:=rfl;omega))
 have h1:=sU s (by omega);obtain ⟨U,hU⟩:=KZ6 (un s);have EP:Hid (zr (un s)=yz 10 U):=KZ9 (by rw [hU];exact hep);have HU:Hid (U=un s):=KZ9 (by rw [hU]);clear hep hU;go_enter Tryz.func64,Tryz.ntmps64
 go_wp2;go_loop [5,6] (fun nv iv=>∃ k:Nat,iv= .int .i64 k∧k≤s.size∧nv= .int .i64 (yO 10 (U.take k) 0)∧yO 10 (U.take k) 0≤1099511627776∧Hid (zR 10 U=zR 10 (U.drop k))) (fun _ iv=>s.size - (intOf iv).toNat)
 case atStart=>exact ⟨0,rfl,by omega,rfl,by simp [yO],rfl⟩
 case round =>
  obtain ⟨k,rfl,hk,rfl,hle,ha⟩:=hrel;by_cases hlt:k<s.size
  ·have hlu:k<(U).length:=by rw [HU.out,zb];exact hlt
   have hst:=KZ9 (wY 10 U k hlu);have hge:(U)[k]'hlu=s[k]'hlt:=by simp only [HU.out];rfl
   rw [hge] at hst;have hnx:Hid (yD (s[k]'hlt)<10→zR 10 U=zR 10 (U.drop (k+1))):=by
    intro h;have e:=ha.out;rw [zR,zR,zQ U _ k hlu true (KZ7 (by rw [hge];exact h))] at e;exact e
   have hno:Hid (¬ yD (s[k]'hlt)<10→yz 10 U=(0,false)):=by
    intro h;have e:zR 10 U=false:=by rw [ha.out];unfold zR;rw [zQ U _ k hlu false (KZ8 (by rw [hge];exact h))];rfl
    exact if_neg (by simp [e])
   have HD:=KZ9 (fun W=>tD (s[k]'hlt) _ rfl W);clear ha hge;obtain ⟨v,hv⟩:=KZ6 (yO 10 (U.take k) 0);rw [←hv] at hle hst ⊢;clear hv;obtain ⟨q,hq⟩:=KZ6 (yD (s[k]'hlt));rw [←hq] at hnx hno hst HD;clear hq;by_cases hqb:q<10
   ·have HN:=KZ9 (hnx.out hqb);have g1:decide ((10:Int)≤(q:Int))=false:=KZ8 (by omega);clear hnx hno;go_wp2_with fail
    refine (HD.out _).mono ?_;rintro e w2 ⟨rfl,rfl⟩;go_wp2
    all_goals try omega
    go_round
    case rel =>
     refine ⟨k+1,by go_num,by omega,?_,by rw [hst.out];omega,HN⟩;rw [hst.out]
     congr 1
     omega
    case measure=>simp [intOf];omega
   have HN:=KZ9 (hno.out hqb);have g1:decide ((10:Int)≤(q:Int))=true:=KZ7 (by omega);clear hnx hno;go_wp2_with fail
   refine (HD.out _).mono ?_;rintro e w2 ⟨rfl,rfl⟩;go_wp2
   all_goals try omega
   go_ret2;rw [EP.out,HN.out];exact ⟨rfl,by first | exact Below.refl _ _ | exact below_drewN (Below.refl _ _) _⟩
  obtain rfl:k=s.size:=by omega
  have hall:Hid (yz 10 U=(yO 10 U 0,true)):=KZ9 (by
   have hlen:s.size=(U).length:=by rw [HU.out,zb]
   have e:=ha.out;rw [hlen,List.drop_length] at e;unfold yz;rw [e];rfl)
  have htk:(U).take s.size=U:=List.take_of_length_le (by rw [HU.out,zb];exact Nat.le_refl _);rw [htk] at hle ⊢;clear ha htk;go_wp2;go_ret2;rw [EP.out,hall.out];exact ⟨rfl,by first | exact Below.refl _ _ | exact below_drewN (Below.refl _ _) _⟩
theorem jq (s:ByteArray) (w:World) (hs:s.size≤100000000) (hs2:2≤s.size) (h0:s[0]'(by omega)=48) (h1b:s[1]'(by omega)=120):Calls Tryz.prog 64 #[.string s] w fun e w'=>e= .returned (.tuple #[.int .i64 (zr (un s)).1,.bool (zr (un s)).2])∧Below w.heap.size w w':=by
 have hep:=ZB (un s) (s[1]'(by omega)) ((un s).drop 2) (by rw [←h0];exact Yl s hs2) (by rw [h1b];decide);have g2:(2:Int)≤(s.size:Int):=by omega
 have g3:(((s[0]'(by omega)).toNat:Int)==48)=true:=by rw [h0];rfl
 have g5:(((s[1]'(by omega)).toNat:Int)==120)=true:=by rw [h1b];rfl
 have h1:=sU s (by omega);obtain ⟨U,hU⟩:=KZ6 ((un s).drop 2);have EP:Hid (zr (un s)=yz 16 U):=KZ9 (by rw [hU];exact hep);have HU:Hid (U=un (s.extract 2 s.size)):=KZ9 (by rw [hU];rw [jw]);clear hep hU;go_enter Tryz.func64,Tryz.ntmps64
 go_wp2;go_quiet (fail)
 go_wp2;go_loop [5,6] (fun nv iv=>∃ k:Nat,iv= .int .i64 k∧k≤(s.extract 2 s.size).size∧nv= .int .i64 (yO 16 (U.take k) 0)∧yO 16 (U.take k) 0≤1099511627776∧Hid (zR 16 U=zR 16 (U.drop k))) (fun _ iv=>s.size - (intOf iv).toNat)
 case atStart=>exact ⟨0,rfl,by omega,rfl,by simp [yO],rfl⟩
 case round =>
  obtain ⟨k,rfl,hk,rfl,hle,ha⟩:=hrel;by_cases hlt:k<(s.extract 2 s.size).size
  ·have hlt2:k<s.size - 2:=by rw [ByteArray.size_extract] at hlt;omega
   have hlu:k<(U).length:=by rw [HU.out,zb];exact hlt
   have hst:=KZ9 (wY 16 U k hlu);have hge:(U)[k]'hlu=(s.extract 2 s.size)[k]'hlt:=by simp only [HU.out];rfl
   rw [hge] at hst;have hnx:Hid (yD ((s.extract 2 s.size)[k]'hlt)<16→zR 16 U=zR 16 (U.drop (k+1))):=by
    intro h;have e:=ha.out;rw [zR,zR,zQ U _ k hlu true (KZ7 (by rw [hge];exact h))] at e;exact e
   have hno:Hid (¬ yD ((s.extract 2 s.size)[k]'hlt)<16→yz 16 U=(0,false)):=by
    intro h;have e:zR 16 U=false:=by rw [ha.out];unfold zR;rw [zQ U _ k hlu false (KZ8 (by rw [hge];exact h))];rfl
    exact if_neg (by simp [e])
   have HD:=KZ9 (fun W=>tD ((s.extract 2 s.size)[k]'hlt) _ rfl W);clear ha hge;obtain ⟨v,hv⟩:=KZ6 (yO 16 (U.take k) 0);rw [←hv] at hle hst ⊢;clear hv;obtain ⟨q,hq⟩:=KZ6 (yD ((s.extract 2 s.size)[k]'hlt));rw [←hq] at hnx hno hst HD;clear hq;by_cases hqb:q<16
   ·have HN:=KZ9 (hnx.out hqb);have g1:decide ((16:Int)≤(q:Int))=false:=KZ8 (by omega);clear hnx hno;go_wp2_with fail
    refine (HD.out _).mono ?_;rintro e w2 ⟨rfl,rfl⟩;go_wp2
    all_goals try omega
    go_round
    case rel =>
     refine ⟨k+1,by go_num,by omega,?_,by rw [hst.out];omega,HN⟩;rw [hst.out]
     congr 1
     omega
    case measure=>simp [intOf];omega
   have HN:=KZ9 (hno.out hqb);have g1:decide ((16:Int)≤(q:Int))=true:=KZ7 (by omega);clear hnx hno;go_wp2_with fail
   refine (HD.out _).mono ?_;rintro e w2 ⟨rfl,rfl⟩;go_wp2
   all_goals try omega
   go_ret2;rw [EP.out,HN.out];exact ⟨rfl,by first | exact Below.refl _ _ | exact below_drewN (Below.refl _ _) _⟩
  obtain rfl:k=(s.extract 2 s.size).size:=by omega
  have hall:Hid (yz 16 U=(yO 16 U 0,true)):=KZ9 (by
   have hlen:(s.extract 2 s.size).size=(U).length:=by rw [HU.out,zb]
   have e:=ha.out;rw [hlen,List.drop_length] at e;unfold yz;rw [e];rfl)
  have htk:(U).take (s.extract 2 s.size).size=U:=List.take_of_length_le (by rw [HU.out,zb];exact Nat.le_refl _);rw [htk] at hle ⊢;clear ha htk;go_wp2;go_ret2;rw [EP.out,hall.out];exact ⟨rfl,by first | exact Below.refl _ _ | exact below_drewN (Below.refl _ _) _⟩
theorem jr (s:ByteArray) (w:World) (hs:s.size≤100000000) (hs2:2≤s.size) (h0:s[0]'(by omega)=48) (h1b:s[1]'(by omega)=88):Calls Tryz.prog 64 #[.string s] w fun e w'=>e= .returned (.tuple #[.int .i64 (zr (un s)).1,.bool (zr (un s)).2])∧Below w.heap.size w w':=by
 have hep:=ZB (un s) (s[1]'(by omega)) ((un s).drop 2) (by rw [←h0];exact Yl s hs2) (by rw [h1b];decide);have g2:(2:Int)≤(s.size:Int):=by omega
 have g3:(((s[0]'(by omega)).toNat:Int)==48)=true:=by rw [h0];rfl
 have g5:(((s[1]'(by omega)).toNat:Int)==120)=false:=by rw [h1b];rfl
 have g6:(((s[1]'(by omega)).toNat:Int)==88)=true:=by rw [h1b];rfl
 have h1:=sU s (by omega);obtain ⟨U,hU⟩:=KZ6 ((un s).drop 2);have EP:Hid (zr (un s)=yz 16 U):=KZ9 (by rw [hU];exact hep);have HU:Hid (U=un (s.extract 2 s.size)):=KZ9 (by rw [hU];rw [jw]);clear hep hU;go_enter Tryz.func64,Tryz.ntmps64
 go_wp2;go_quiet (fail)
 go_wp2;go_loop [5,6] (fun nv iv=>∃ k:Nat,iv= .int .i64 k∧k≤(s.extract 2 s.size).size∧nv= .int .i64 (yO 16 (U.take k) 0)∧yO 16 (U.take k) 0≤1099511627776∧Hid (zR 16 U=zR 16 (U.drop k))) (fun _ iv=>s.size - (intOf iv).toNat)
 case atStart=>exact ⟨0,rfl,by omega,rfl,by simp [yO],rfl⟩
 case round =>
  obtain ⟨k,rfl,hk,rfl,hle,ha⟩:=hrel;by_cases hlt:k<(s.extract 2 s.size).size
  ·have hlt2:k<s.size - 2:=by rw [ByteArray.size_extract] at hlt;omega
   have hlu:k<(U).length:=by rw [HU.out,zb];exact hlt
   have hst:=KZ9 (wY 16 U k hlu);have hge:(U)[k]'hlu=(s.extract 2 s.size)[k]'hlt:=by simp only [HU.out];rfl
   rw [hge] at hst;have hnx:Hid (yD ((s.extract 2 s.size)[k]'hlt)<16→zR 16 U=zR 16 (U.drop (k+1))):=by
    intro h;have e:=ha.out;rw [zR,zR,zQ U _ k hlu true (KZ7 (by rw [hge];exact h))] at e;exact e
   have hno:Hid (¬ yD ((s.extract 2 s.size)[k]'hlt)<16→yz 16 U=(0,false)):=by
    intro h;have e:zR 16 U=false:=by rw [ha.out];unfold zR;rw [zQ U _ k hlu false (KZ8 (by rw [hge];exact h))];rfl
    exact if_neg (by simp [e])
   have HD:=KZ9 (fun W=>tD ((s.extract 2 s.size)[k]'hlt) _ rfl W);clear ha hge;obtain ⟨v,hv⟩:=KZ6 (yO 16 (U.take k) 0);rw [←hv] at hle hst ⊢;clear hv;obtain ⟨q,hq⟩:=KZ6 (yD ((s.extract 2 s.size)[k]'hlt));rw [←hq] at hnx hno hst HD;clear hq;by_cases hqb:q<16
   ·have HN:=KZ9 (hnx.out hqb);have g1:decide ((16:Int)≤(q:Int))=false:=KZ8 (by omega);clear hnx hno;go_wp2_with fail
    refine (HD.out _).mono ?_;rintro e w2 ⟨rfl,rfl⟩;go_wp2
    all_goals try omega
    go_round
    case rel =>
     refine ⟨k+1,by go_num,by omega,?_,by rw [hst.out];omega,HN⟩;rw [hst.out]
     congr 1
     omega
    case measure=>simp [intOf];omega
   have HN:=KZ9 (hno.out hqb);have g1:decide ((16:Int)≤(q:Int))=true:=KZ7 (by omega);clear hnx hno;go_wp2_with fail
   refine (HD.out _).mono ?_;rintro e w2 ⟨rfl,rfl⟩;go_wp2
   all_goals try omega
   go_ret2;rw [EP.out,HN.out];exact ⟨rfl,by first | exact Below.refl _ _ | exact below_drewN (Below.refl _ _) _⟩
  obtain rfl:k=(s.extract 2 s.size).size:=by omega
  have hall:Hid (yz 16 U=(yO 16 U 0,true)):=KZ9 (by
   have hlen:(s.extract 2 s.size).size=(U).length:=by rw [HU.out,zb]
   have e:=ha.out;rw [hlen,List.drop_length] at e;unfold yz;rw [e];rfl)
  have htk:(U).take (s.extract 2 s.size).size=U:=List.take_of_length_le (by rw [HU.out,zb];exact Nat.le_refl _);rw [htk] at hle ⊢;clear ha htk;go_wp2;go_ret2;rw [EP.out,hall.out];exact ⟨rfl,by first | exact Below.refl _ _ | exact below_drewN (Below.refl _ _) _⟩
theorem kn (s:ByteArray) (w:World) (hs:s.size≤100000000) (hs2:2≤s.size) (h0:s[0]'(by omega)=48) (h1b:s[1]'(by omega)≠120) (h1c:s[1]'(by omega)≠88):Calls Tryz.prog 64 #[.string s] w fun e w'=>e= .returned (.tuple #[.int .i64 (zr (un s)).1,.bool (zr (un s)).2])∧Below w.heap.size w w':=by
 have hep:=RF (un s) (s[1]'(by omega)) ((un s).drop 2) (by rw [←h0];exact Yl s hs2) h1b h1c;have g2:(2:Int)≤(s.size:Int):=by omega
 have g3:(((s[0]'(by omega)).toNat:Int)==48)=true:=by rw [h0];rfl
 have g5:(((s[1]'(by omega)).toNat:Int)==120)=false:=by rw [beq_eq_false_iff_ne];intro e;exact h1b (UInt8.toNat_inj.1 (by have:(120:UInt8).toNat=120:=rfl;omega))
 have g6:(((s[1]'(by omega)).toNat:Int)==88)=false:=by rw [beq_eq_false_iff_ne];intro e;exact h1c (UInt8.toNat_inj.1 (by have:(88:UInt8).toNat=88:=rfl;omega))
 have h1:=sU s (by omega);obtain ⟨U,hU⟩:=KZ6 ((un s).drop 1);have EP:Hid (zr (un s)=yz 8 U):=KZ9 (by rw [hU];exact hep);have HU:Hid (U=un (s.extract 1 s.size)):=KZ9 (by rw [hU];rw [jw]);clear hep hU;go_enter Tryz.func64,Tryz.ntmps64
 go_wp2;go_quiet (fail)
 go_wp2;go_loop [5,6] (fun nv iv=>∃ k:Nat,iv= .int .i64 k∧k≤(s.extract 1 s.size).size∧nv= .int .i64 (yO 8 (U.take k) 0)∧yO 8 (U.take k) 0≤1099511627776∧Hid (zR 8 U=zR 8 (U.drop k))) (fun _ iv=>s.size - (intOf iv).toNat)
 case atStart=>exact ⟨0,rfl,by omega,rfl,by simp [yO],rfl⟩
 case round =>
  obtain ⟨k,rfl,hk,rfl,hle,ha⟩:=hrel;by_cases hlt:k<(s.extract 1 s.size).size
  ·have hlt2:k<s.size - 1:=by rw [ByteArray.size_extract] at hlt;omega
   have hlu:k<(U).length:=by rw [HU.out,zb];exact hlt
   have hst:=KZ9 (wY 8 U k hlu);have hge:(U)[k]'hlu=(s.extract 1 s.size)[k]'hlt:=by simp only [HU.out];rfl
   rw [hge] at hst;have hnx:Hid (yD ((s.extract 1 s.size)[k]'hlt)<8→zR 8 U=zR 8 (U.drop (k+1))):=by
    intro h;have e:=ha.out;rw [zR,zR,zQ U _ k hlu true (KZ7 (by rw [hge];exact h))] at e;exact e
   have hno:Hid (¬ yD ((s.extract 1 s.size)[k]'hlt)<8→yz 8 U=(0,false)):=by
    intro h;have e:zR 8 U=false:=by rw [ha.out];unfold zR;rw [zQ U _ k hlu false (KZ8 (by rw [hge];exact h))];rfl
    exact if_neg (by simp [e])
   have HD:=KZ9 (fun W=>tD ((s.extract 1 s.size)[k]'hlt) _ rfl W);clear ha hge;obtain ⟨v,hv⟩:=KZ6 (yO 8 (U.take k) 0);rw [←hv] at hle hst ⊢;clear hv;obtain ⟨q,hq⟩:=KZ6 (yD ((s.extract 1 s.size)[k]'hlt));rw [←hq] at hnx hno hst HD;clear hq;by_cases hqb:q<8
   ·have HN:=KZ9 (hnx.out hqb);have g1:decide ((8:Int)≤(q:Int))=false:=KZ8 (by omega);clear hnx hno;go_wp2_with fail
    refine (HD.out _).mono ?_;rintro e w2 ⟨rfl,rfl⟩;go_wp2
    all_goals try omega
    go_round
    case rel =>
     refine ⟨k+1,by go_num,by omega,?_,by rw [hst.out];omega,HN⟩;rw [hst.out]
     congr 1
     omega
    case measure=>simp [intOf];omega
   have HN:=KZ9 (hno.out hqb);have g1:decide ((8:Int)≤(q:Int))=true:=KZ7 (by omega);clear hnx hno;go_wp2_with fail
   refine (HD.out _).mono ?_;rintro e w2 ⟨rfl,rfl⟩;go_wp2
   all_goals try omega
   go_ret2;rw [EP.out,HN.out];exact ⟨rfl,by first | exact Below.refl _ _ | exact below_drewN (Below.refl _ _) _⟩
  obtain rfl:k=(s.extract 1 s.size).size:=by omega
  have hall:Hid (yz 8 U=(yO 8 U 0,true)):=KZ9 (by
   have hlen:(s.extract 1 s.size).size=(U).length:=by rw [HU.out,zb]
   have e:=ha.out;rw [hlen,List.drop_length] at e;unfold yz;rw [e];rfl)
  have htk:(U).take (s.extract 1 s.size).size=U:=List.take_of_length_le (by rw [HU.out,zb];exact Nat.le_refl _);rw [htk] at hle ⊢;clear ha htk;go_wp2;go_ret2;rw [EP.out,hall.out];exact ⟨rfl,by first | exact Below.refl _ _ | exact below_drewN (Below.refl _ _) _⟩
theorem xA (s:ByteArray) (w:World) (hs:s.size≤100000000):Calls Tryz.prog 64 #[.string s] w fun e w'=>e= .returned (.tuple #[.int .i64 (zr (un s)).1,.bool (zr (un s)).2])∧Below w.heap.size w w':=by
 by_cases h0:s.size=0
 ·have hun:un s=[]:=List.eq_nil_of_length_eq_zero (by rw [zb];exact h0);have h1:s.toList.isEmpty=true:=by rw [zl,hun];rfl
  have ep:zr (un s)=(0,false):=by rw [hun];rfl
  rw [ep];clear hun ep;go_enter Tryz.func64,Tryz.ntmps64
  go_wp2;go_ret2;exact ⟨rfl,Below.refl _ _⟩
 by_cases h1:s.size=1
 ·exact km s w hs h1
 have h2:2≤s.size:=by omega
 by_cases a:s[0]'(by omega)=48
 ·by_cases b:s[1]'(by omega)=120
  ·exact jq s w hs h2 a b
  by_cases c:s[1]'(by omega)=88
  ·exact jr s w hs h2 a c
  exact kn s w hs h2 a b c
 exact kk s w hs h2 a
set_option maxRecDepth 100000
set_option maxHeartbeats 4000000
theorem YC (s:ByteArray) (w:World) (hs:s.size≤100000000) (hN:(zH (un s)).length=1):Calls Tryz.prog 156 #[.string s] w fun e w'=>e= .returned (.tuple #[.int .u32 (xw (un s)).1,.bool (xw (un s)).2])∧Below w.heap.size w w':=by
 have HS:=KZ9 (uq s w hs);have HLEN:=KZ9 (wU (un s));obtain ⟨R,hR⟩:=KZ6 (xw (un s));have hfin:Hid (R=vh (zn 32 (zH (un s)) 0)):=KZ9 (by rw [hR];unfold xw;rw [hN];rfl);rw [←hR];clear hR;obtain ⟨L,hL⟩:=KZ6 (zH (un s));rw [←hL] at HS HLEN hN hfin;clear hL;rw [zb] at HLEN;have HN:=KZ9 hN;go_enter Tryz.func156,Tryz.ntmps156
 go_wp2_with fail
 refine HS.out.mono ?_;rintro e w1 ⟨v,rfl,hst,hb⟩;clear HS;obtain ⟨a,c,rfl,hn,hm,hc⟩:=hst.open;unfold maxLen at hm;have HC:=KZ9 hc;clear hc hst;rw [hN] at hn ⊢;clear hN;go_wp2;go_loopw [5,6] (fun vv iv wr=>∃ (k v V:Nat),iv= .int .i64 k∧k≤1∧vv= .int .i64 V∧V<4294967296∧Hid ((k<1→v<256 ^ k∧V=v*2 ^ (32 - 8*k))∧(1≤k→V=v))∧Hid (zn 32 L 0=zn 32 (L.drop k) v)∧Below w1.heap.size w1 wr) (fun _ iv _=>1 - (intOf iv).toNat)
 case atStart=>exact ⟨0,0,0,rfl,by omega,rfl,by omega,KZ9 ⟨fun _=>by simp,fun h=>by omega⟩,KZ9 rfl,Below.refl _ _⟩
 case round =>
  obtain ⟨k,v,V,rfl,hk,rfl,hV,hvk,hst,hnx⟩:=hrel;rcases (by omega:k=0∨k=1) with rfl | rfl
  ·obtain ⟨b,off,rfl,hb1,hcell⟩:=HC.out (by rw [HN.out];omega);have hkl:0<L.length:=by rw [HN.out];omega
   have c0:=((yA hnx).1 b (off+0) hb1).trans (hcell 0 hkl);rw [Nat.add_zero] at c0;have hlen:=HLEN.out L[0] (List.getElem_mem hkl);have hst2:Hid (zn 32 L 0=zn 32 (L[0]::L.drop 1) v):=KZ9 (by rw [hst.out,List.drop_eq_getElem_cons hkl]);obtain ⟨x,hx⟩:=KZ6 (L[0]);rw [←hx] at c0 hlen hst2;clear hcell hst hx hkl;have hd:=fun W=>xA (mk x) W (by rw [zh];omega);simp only [zj] at hd;have hlst:Hid (∀ F v,zn F [x] v=if (zr x).2=true∧(zr x).1<2 ^ F then some (v*2 ^ F+(zr x).1) else none):=KZ9 (fun F v=>xg F x v);have hmid:Hid (∀ F r v,r≠[]→zn F (x::r) v=if (zr x).2=true∧(zr x).1≤255 then zn F r (v*256+(zr x).1) else none):=KZ9 (fun F r v h=>xE F x r v h);have hle:=wg x;obtain ⟨m,hm2⟩:=KZ6 (zr x);rw [←hm2] at hlst hmid hle;simp only [←hm2] at hd;clear hm2;obtain ⟨m,ok⟩:=m;simp only at hd hlst hmid hle;have HD:=KZ9 hd
   have hv1:v<1:=by have:=(hvk.out.1 (by omega)).1;simpa using this
   have hv2:V=v*4294967296:=by have:=(hvk.out.1 (by omega)).2;simpa using this
   clear hd hvk;have hdr:L.drop 1=[]:=List.drop_of_length_le (by rw [HN.out];omega);have hnx2:Hid (zn 32 L 0=if ok=true∧m<4294967296 then some (v*4294967296+m) else none):=KZ9 (by rw [hst2.out,hdr,hlst.out]);have hdn:Hid (zn 32 (L.drop 1) (v*4294967296+m)=some (v*4294967296+m)):=KZ9 (by rw [hdr];rfl);clear hst2 hdr hlst hmid;cases ok
   ·have hend:Hid (R=(0,false)):=KZ9 (by rw [hfin.out,hnx2.out,if_neg (by simp)];rfl);clear hnx2 hdn;go_wp2_with fail
    refine (HD.out _).mono ?_;rintro e w2 ⟨rfl,hb2⟩;go_wp2
    all_goals try omega
    (try rw [Exit.noGoto_ret])
    go_ret2;rw [hend.out];exact ⟨rfl,hb.trans ((hnx.trans (hb2.mono hnx.size)).mono hb.size)⟩
   by_cases hn5:4294967296≤m
   ·have g2:decide ((4294967296:Int)≤(m:Int))=true:=KZ7 (by omega);have hend:Hid (R=(0,false)):=KZ9 (by rw [hfin.out,hnx2.out,if_neg (by omega)];rfl);clear hnx2 hdn;go_wp2_with fail
    refine (HD.out _).mono ?_;rintro e w2 ⟨rfl,hb2⟩;go_wp2
    all_goals try omega
    (try rw [Exit.noGoto_ret])
    go_ret2;rw [hend.out];exact ⟨rfl,hb.trans ((hnx.trans (hb2.mono hnx.size)).mono hb.size)⟩
   have g2:decide ((4294967296:Int)≤(m:Int))=false:=KZ8 (by omega);have hnx3:Hid (zn 32 L 0=zn 32 (L.drop 1) (v*4294967296+m)):=KZ9 (by rw [hnx2.out,if_pos ⟨rfl,by omega⟩,hdn.out]);clear hnx2 hdn;go_wp2_with fail
   refine (HD.out _).mono ?_;rintro e w2 ⟨rfl,hb2⟩;go_wp2
   all_goals try omega
   go_roundw
   case rel=>exact ⟨1,v*4294967296+m,V+m,by go_num,by omega,by go_num,by omega,KZ9 ⟨fun h=>absurd h (by omega),fun _=>by omega⟩,hnx3,hnx.trans (hb2.mono hnx.size)⟩
   case measure=>simp [intOf]
  have hv0:V=v:=hvk.out.2 (by omega);subst hv0;have hend:Hid (R=(V,true)):=KZ9 (by rw [hfin.out,hst.out,List.drop_of_length_le (by rw [HN.out];omega)];rfl);have m1:(V:Int) % 4294967296=(V:Int):=by omega
  clear hst hvk;go_wp2
  (try rw [Exit.noGoto_ret])
  go_ret2;rw [hend.out];exact ⟨rfl,hb.trans (hnx.mono hb.size)⟩
theorem YB (s:ByteArray) (w:World) (hs:s.size≤100000000) (hN:(zH (un s)).length=2):Calls Tryz.prog 156 #[.string s] w fun e w'=>e= .returned (.tuple #[.int .u32 (xw (un s)).1,.bool (xw (un s)).2])∧Below w.heap.size w w':=by
 have HS:=KZ9 (uq s w hs);have HLEN:=KZ9 (wU (un s));obtain ⟨R,hR⟩:=KZ6 (xw (un s));have hfin:Hid (R=vh (zn 24 (zH (un s)) 0)):=KZ9 (by rw [hR];unfold xw;rw [hN];rfl);rw [←hR];clear hR;obtain ⟨L,hL⟩:=KZ6 (zH (un s));rw [←hL] at HS HLEN hN hfin;clear hL;rw [zb] at HLEN;have HN:=KZ9 hN;go_enter Tryz.func156,Tryz.ntmps156
 go_wp2_with fail
 refine HS.out.mono ?_;rintro e w1 ⟨v,rfl,hst,hb⟩;clear HS;obtain ⟨a,c,rfl,hn,hm,hc⟩:=hst.open;unfold maxLen at hm;have HC:=KZ9 hc;clear hc hst;rw [hN] at hn ⊢;clear hN;go_wp2;go_loopw [5,6] (fun vv iv wr=>∃ (k v V:Nat),iv= .int .i64 k∧k≤2∧vv= .int .i64 V∧V<4294967296∧Hid ((k<2→v<256 ^ k∧V=v*2 ^ (32 - 8*k))∧(2≤k→V=v))∧Hid (zn 24 L 0=zn 24 (L.drop k) v)∧Below w1.heap.size w1 wr) (fun _ iv _=>2 - (intOf iv).toNat)
 case atStart=>exact ⟨0,0,0,rfl,by omega,rfl,by omega,KZ9 ⟨fun _=>by simp,fun h=>by omega⟩,KZ9 rfl,Below.refl _ _⟩
 case round =>
  obtain ⟨k,v,V,rfl,hk,rfl,hV,hvk,hst,hnx⟩:=hrel;rcases (by omega:k=0∨k=1∨k=2) with rfl | rfl | rfl
  ·obtain ⟨b,off,rfl,hb1,hcell⟩:=HC.out (by rw [HN.out];omega);have hkl:0<L.length:=by rw [HN.out];omega
   have c0:=((yA hnx).1 b (off+0) hb1).trans (hcell 0 hkl);rw [Nat.add_zero] at c0;have hlen:=HLEN.out L[0] (List.getElem_mem hkl);have hst2:Hid (zn 24 L 0=zn 24 (L[0]::L.drop 1) v):=KZ9 (by rw [hst.out,List.drop_eq_getElem_cons hkl]);obtain ⟨x,hx⟩:=KZ6 (L[0]);rw [←hx] at c0 hlen hst2;clear hcell hst hx hkl;have hd:=fun W=>xA (mk x) W (by rw [zh];omega);simp only [zj] at hd;have hlst:Hid (∀ F v,zn F [x] v=if (zr x).2=true∧(zr x).1<2 ^ F then some (v*2 ^ F+(zr x).1) else none):=KZ9 (fun F v=>xg F x v);have hmid:Hid (∀ F r v,r≠[]→zn F (x::r) v=if (zr x).2=true∧(zr x).1≤255 then zn F r (v*256+(zr x).1) else none):=KZ9 (fun F r v h=>xE F x r v h);have hle:=wg x;obtain ⟨m,hm2⟩:=KZ6 (zr x);rw [←hm2] at hlst hmid hle;simp only [←hm2] at hd;clear hm2;obtain ⟨m,ok⟩:=m;simp only at hd hlst hmid hle;have HD:=KZ9 hd
   have hv1:v<1:=by have:=(hvk.out.1 (by omega)).1;simpa using this
   have hv2:V=v*4294967296:=by have:=(hvk.out.1 (by omega)).2;simpa using this
   clear hd hvk;have hne:L.drop 1≠[]:=by
    intro e;have e2:=congrArg List.length e;rw [List.length_drop,HN.out] at e2;simp at e2
   have hnx2:Hid (zn 24 L 0=if ok=true∧m≤255 then zn 24 (L.drop 1) (v*256+m) else none):=KZ9 (by rw [hst2.out,hmid.out _ _ _ hne]);clear hst2 hne hlst hmid;cases ok
   ·have hend:Hid (R=(0,false)):=KZ9 (by rw [hfin.out,hnx2.out,if_neg (by simp)];rfl);clear hnx2;go_wp2_with fail
    refine (HD.out _).mono ?_;rintro e w2 ⟨rfl,hb2⟩;go_wp2
    all_goals try omega
    (try rw [Exit.noGoto_ret])
    go_ret2;rw [hend.out];exact ⟨rfl,hb.trans ((hnx.trans (hb2.mono hnx.size)).mono hb.size)⟩
   by_cases hn5:255<m
   ·have g2:decide ((255:Int)<(m:Int))=true:=KZ7 (by omega);have hend:Hid (R=(0,false)):=KZ9 (by rw [hfin.out,hnx2.out,if_neg (by omega)];rfl);clear hnx2;go_wp2_with fail
    refine (HD.out _).mono ?_;rintro e w2 ⟨rfl,hb2⟩;go_wp2
    all_goals try omega
    (try rw [Exit.noGoto_ret])
    go_ret2;rw [hend.out];exact ⟨rfl,hb.trans ((hnx.trans (hb2.mono hnx.size)).mono hb.size)⟩
   have g2:decide ((255:Int)<(m:Int))=false:=KZ8 (by omega);have hnx3:Hid (zn 24 L 0=zn 24 (L.drop 1) (v*256+m)):=KZ9 (by rw [hnx2.out,if_pos ⟨rfl,by omega⟩]);clear hnx2;go_wp2_with fail
   refine (HD.out _).mono ?_;rintro e w2 ⟨rfl,hb2⟩;go_wp2
   all_goals try omega
   go_roundw
   case rel=>exact ⟨1,v*256+m,V+m*16777216,by go_num,by omega,by go_num,by omega,KZ9 ⟨fun _=>⟨by simp;omega,by simp;omega⟩,fun h=>by omega⟩,hnx3,hnx.trans (hb2.mono hnx.size)⟩
   case measure=>simp [intOf]
  ·obtain ⟨b,off,rfl,hb1,hcell⟩:=HC.out (by rw [HN.out];omega);have hkl:1<L.length:=by rw [HN.out];omega
   have c0:=((yA hnx).1 b (off+1) hb1).trans (hcell 1 hkl)
   skip
   have hlen:=HLEN.out L[1] (List.getElem_mem hkl);have hst2:Hid (zn 24 L 0=zn 24 (L[1]::L.drop 2) v):=KZ9 (by rw [hst.out,List.drop_eq_getElem_cons hkl]);obtain ⟨x,hx⟩:=KZ6 (L[1]);rw [←hx] at c0 hlen hst2;clear hcell hst hx hkl;have hd:=fun W=>xA (mk x) W (by rw [zh];omega);simp only [zj] at hd;have hlst:Hid (∀ F v,zn F [x] v=if (zr x).2=true∧(zr x).1<2 ^ F then some (v*2 ^ F+(zr x).1) else none):=KZ9 (fun F v=>xg F x v);have hmid:Hid (∀ F r v,r≠[]→zn F (x::r) v=if (zr x).2=true∧(zr x).1≤255 then zn F r (v*256+(zr x).1) else none):=KZ9 (fun F r v h=>xE F x r v h);have hle:=wg x;obtain ⟨m,hm2⟩:=KZ6 (zr x);rw [←hm2] at hlst hmid hle;simp only [←hm2] at hd;clear hm2;obtain ⟨m,ok⟩:=m;simp only at hd hlst hmid hle;have HD:=KZ9 hd;have hv1:v<256:=by have:=(hvk.out.1 (by omega)).1;simpa using this
   have hv2:V=v*16777216:=by have:=(hvk.out.1 (by omega)).2;simpa using this
   clear hd hvk;have hdr:L.drop 2=[]:=List.drop_of_length_le (by rw [HN.out];omega);have hnx2:Hid (zn 24 L 0=if ok=true∧m<16777216 then some (v*16777216+m) else none):=KZ9 (by rw [hst2.out,hdr,hlst.out]);have hdn:Hid (zn 24 (L.drop 2) (v*16777216+m)=some (v*16777216+m)):=KZ9 (by rw [hdr];rfl);clear hst2 hdr hlst hmid;cases ok
   ·have hend:Hid (R=(0,false)):=KZ9 (by rw [hfin.out,hnx2.out,if_neg (by simp)];rfl);clear hnx2 hdn;go_wp2_with fail
    refine (HD.out _).mono ?_;rintro e w2 ⟨rfl,hb2⟩;go_wp2
    all_goals try omega
    (try rw [Exit.noGoto_ret])
    go_ret2;rw [hend.out];exact ⟨rfl,hb.trans ((hnx.trans (hb2.mono hnx.size)).mono hb.size)⟩
   by_cases hn5:16777216≤m
   ·have g2:decide ((16777216:Int)≤(m:Int))=true:=KZ7 (by omega);have hend:Hid (R=(0,false)):=KZ9 (by rw [hfin.out,hnx2.out,if_neg (by omega)];rfl);clear hnx2 hdn;go_wp2_with fail
    refine (HD.out _).mono ?_;rintro e w2 ⟨rfl,hb2⟩;go_wp2
    all_goals try omega
    (try rw [Exit.noGoto_ret])
    go_ret2;rw [hend.out];exact ⟨rfl,hb.trans ((hnx.trans (hb2.mono hnx.size)).mono hb.size)⟩
   have g2:decide ((16777216:Int)≤(m:Int))=false:=KZ8 (by omega);have hnx3:Hid (zn 24 L 0=zn 24 (L.drop 2) (v*16777216+m)):=KZ9 (by rw [hnx2.out,if_pos ⟨rfl,by omega⟩,hdn.out]);clear hnx2 hdn;go_wp2_with fail
   refine (HD.out _).mono ?_;rintro e w2 ⟨rfl,hb2⟩;go_wp2
   all_goals try omega
   go_roundw
   case rel=>exact ⟨2,v*16777216+m,V+m,by go_num,by omega,by go_num,by omega,KZ9 ⟨fun h=>absurd h (by omega),fun _=>by omega⟩,hnx3,hnx.trans (hb2.mono hnx.size)⟩
   case measure=>simp [intOf]
  have hv0:V=v:=hvk.out.2 (by omega);subst hv0;have hend:Hid (R=(V,true)):=KZ9 (by rw [hfin.out,hst.out,List.drop_of_length_le (by rw [HN.out];omega)];rfl);have m1:(V:Int) % 4294967296=(V:Int):=by omega
  clear hst hvk;go_wp2
  (try rw [Exit.noGoto_ret])
  go_ret2;rw [hend.out];exact ⟨rfl,hb.trans (hnx.mono hb.size)⟩
theorem YA (s:ByteArray) (w:World) (hs:s.size≤100000000) (hN:(zH (un s)).length=3):Calls Tryz.prog 156 #[.string s] w fun e w'=>e= .returned (.tuple #[.int .u32 (xw (un s)).1,.bool (xw (un s)).2])∧Below w.heap.size w w':=by
 have HS:=KZ9 (uq s w hs);have HLEN:=KZ9 (wU (un s));obtain ⟨R,hR⟩:=KZ6 (xw (un s));have hfin:Hid (R=vh (zn 16 (zH (un s)) 0)):=KZ9 (by rw [hR];unfold xw;rw [hN];rfl);rw [←hR];clear hR;obtain ⟨L,hL⟩:=KZ6 (zH (un s));rw [←hL] at HS HLEN hN hfin;clear hL;rw [zb] at HLEN;have HN:=KZ9 hN;go_enter Tryz.func156,Tryz.ntmps156
 go_wp2_with fail
 refine HS.out.mono ?_;rintro e w1 ⟨v,rfl,hst,hb⟩;clear HS;obtain ⟨a,c,rfl,hn,hm,hc⟩:=hst.open;unfold maxLen at hm;have HC:=KZ9 hc;clear hc hst;rw [hN] at hn ⊢;clear hN;go_wp2;go_loopw [5,6] (fun vv iv wr=>∃ (k v V:Nat),iv= .int .i64 k∧k≤3∧vv= .int .i64 V∧V<4294967296∧Hid ((k<3→v<256 ^ k∧V=v*2 ^ (32 - 8*k))∧(3≤k→V=v))∧Hid (zn 16 L 0=zn 16 (L.drop k) v)∧Below w1.heap.size w1 wr) (fun _ iv _=>3 - (intOf iv).toNat)
 case atStart=>exact ⟨0,0,0,rfl,by omega,rfl,by omega,KZ9 ⟨fun _=>by simp,fun h=>by omega⟩,KZ9 rfl,Below.refl _ _⟩
 case round =>
  obtain ⟨k,v,V,rfl,hk,rfl,hV,hvk,hst,hnx⟩:=hrel;rcases (by omega:k=0∨k=1∨k=2∨k=3) with rfl | rfl | rfl | rfl
  ·obtain ⟨b,off,rfl,hb1,hcell⟩:=HC.out (by rw [HN.out];omega);have hkl:0<L.length:=by rw [HN.out];omega
   have c0:=((yA hnx).1 b (off+0) hb1).trans (hcell 0 hkl);rw [Nat.add_zero] at c0;have hlen:=HLEN.out L[0] (List.getElem_mem hkl);have hst2:Hid (zn 16 L 0=zn 16 (L[0]::L.drop 1) v):=KZ9 (by rw [hst.out,List.drop_eq_getElem_cons hkl]);obtain ⟨x,hx⟩:=KZ6 (L[0]);rw [←hx] at c0 hlen hst2;clear hcell hst hx hkl;have hd:=fun W=>xA (mk x) W (by rw [zh];omega);simp only [zj] at hd;have hlst:Hid (∀ F v,zn F [x] v=if (zr x).2=true∧(zr x).1<2 ^ F then some (v*2 ^ F+(zr x).1) else none):=KZ9 (fun F v=>xg F x v);have hmid:Hid (∀ F r v,r≠[]→zn F (x::r) v=if (zr x).2=true∧(zr x).1≤255 then zn F r (v*256+(zr x).1) else none):=KZ9 (fun F r v h=>xE F x r v h);have hle:=wg x;obtain ⟨m,hm2⟩:=KZ6 (zr x);rw [←hm2] at hlst hmid hle;simp only [←hm2] at hd;clear hm2;obtain ⟨m,ok⟩:=m;simp only at hd hlst hmid hle;have HD:=KZ9 hd
   have hv1:v<1:=by have:=(hvk.out.1 (by omega)).1;simpa using this
   have hv2:V=v*4294967296:=by have:=(hvk.out.1 (by omega)).2;simpa using this
   clear hd hvk;have hne:L.drop 1≠[]:=by
    intro e;have e2:=congrArg List.length e;rw [List.length_drop,HN.out] at e2;simp at e2
   have hnx2:Hid (zn 16 L 0=if ok=true∧m≤255 then zn 16 (L.drop 1) (v*256+m) else none):=KZ9 (by rw [hst2.out,hmid.out _ _ _ hne]);clear hst2 hne hlst hmid;cases ok
   ·have hend:Hid (R=(0,false)):=KZ9 (by rw [hfin.out,hnx2.out,if_neg (by simp)];rfl);clear hnx2;go_wp2_with fail
    refine (HD.out _).mono ?_;rintro e w2 ⟨rfl,hb2⟩;go_wp2
    all_goals try omega
    (try rw [Exit.noGoto_ret])
    go_ret2;rw [hend.out];exact ⟨rfl,hb.trans ((hnx.trans (hb2.mono hnx.size)).mono hb.size)⟩
   by_cases hn5:255<m
   ·have g2:decide ((255:Int)<(m:Int))=true:=KZ7 (by omega);have hend:Hid (R=(0,false)):=KZ9 (by rw [hfin.out,hnx2.out,if_neg (by omega)];rfl);clear hnx2;go_wp2_with fail
    refine (HD.out _).mono ?_;rintro e w2 ⟨rfl,hb2⟩;go_wp2
    all_goals try omega
    (try rw [Exit.noGoto_ret])
    go_ret2;rw [hend.out];exact ⟨rfl,hb.trans ((hnx.trans (hb2.mono hnx.size)).mono hb.size)⟩
   have g2:decide ((255:Int)<(m:Int))=false:=KZ8 (by omega);have hnx3:Hid (zn 16 L 0=zn 16 (L.drop 1) (v*256+m)):=KZ9 (by rw [hnx2.out,if_pos ⟨rfl,by omega⟩]);clear hnx2;go_wp2_with fail
   refine (HD.out _).mono ?_;rintro e w2 ⟨rfl,hb2⟩;go_wp2
   all_goals try omega
   go_roundw
   case rel=>exact ⟨1,v*256+m,V+m*16777216,by go_num,by omega,by go_num,by omega,KZ9 ⟨fun _=>⟨by simp;omega,by simp;omega⟩,fun h=>by omega⟩,hnx3,hnx.trans (hb2.mono hnx.size)⟩
   case measure=>simp [intOf]
  ·obtain ⟨b,off,rfl,hb1,hcell⟩:=HC.out (by rw [HN.out];omega);have hkl:1<L.length:=by rw [HN.out];omega
   have c0:=((yA hnx).1 b (off+1) hb1).trans (hcell 1 hkl)
   skip
   have hlen:=HLEN.out L[1] (List.getElem_mem hkl);have hst2:Hid (zn 16 L 0=zn 16 (L[1]::L.drop 2) v):=KZ9 (by rw [hst.out,List.drop_eq_getElem_cons hkl]);obtain ⟨x,hx⟩:=KZ6 (L[1]);rw [←hx] at c0 hlen hst2;clear hcell hst hx hkl;have hd:=fun W=>xA (mk x) W (by rw [zh];omega);simp only [zj] at hd;have hlst:Hid (∀ F v,zn F [x] v=if (zr x).2=true∧(zr x).1<2 ^ F then some (v*2 ^ F+(zr x).1) else none):=KZ9 (fun F v=>xg F x v);have hmid:Hid (∀ F r v,r≠[]→zn F (x::r) v=if (zr x).2=true∧(zr x).1≤255 then zn F r (v*256+(zr x).1) else none):=KZ9 (fun F r v h=>xE F x r v h);have hle:=wg x;obtain ⟨m,hm2⟩:=KZ6 (zr x);rw [←hm2] at hlst hmid hle;simp only [←hm2] at hd;clear hm2;obtain ⟨m,ok⟩:=m;simp only at hd hlst hmid hle;have HD:=KZ9 hd;have hv1:v<256:=by have:=(hvk.out.1 (by omega)).1;simpa using this
   have hv2:V=v*16777216:=by have:=(hvk.out.1 (by omega)).2;simpa using this
   clear hd hvk;have hne:L.drop 2≠[]:=by
    intro e;have e2:=congrArg List.length e;rw [List.length_drop,HN.out] at e2;simp at e2
   have hnx2:Hid (zn 16 L 0=if ok=true∧m≤255 then zn 16 (L.drop 2) (v*256+m) else none):=KZ9 (by rw [hst2.out,hmid.out _ _ _ hne]);clear hst2 hne hlst hmid;cases ok
   ·have hend:Hid (R=(0,false)):=KZ9 (by rw [hfin.out,hnx2.out,if_neg (by simp)];rfl);clear hnx2;go_wp2_with fail
    refine (HD.out _).mono ?_;rintro e w2 ⟨rfl,hb2⟩;go_wp2
    all_goals try omega
    (try rw [Exit.noGoto_ret])
    go_ret2;rw [hend.out];exact ⟨rfl,hb.trans ((hnx.trans (hb2.mono hnx.size)).mono hb.size)⟩
   by_cases hn5:255<m
   ·have g2:decide ((255:Int)<(m:Int))=true:=KZ7 (by omega);have hend:Hid (R=(0,false)):=KZ9 (by rw [hfin.out,hnx2.out,if_neg (by omega)];rfl);clear hnx2;go_wp2_with fail
    refine (HD.out _).mono ?_;rintro e w2 ⟨rfl,hb2⟩;go_wp2
    all_goals try omega
    (try rw [Exit.noGoto_ret])
    go_ret2;rw [hend.out];exact ⟨rfl,hb.trans ((hnx.trans (hb2.mono hnx.size)).mono hb.size)⟩
   have g2:decide ((255:Int)<(m:Int))=false:=KZ8 (by omega);have hnx3:Hid (zn 16 L 0=zn 16 (L.drop 2) (v*256+m)):=KZ9 (by rw [hnx2.out,if_pos ⟨rfl,by omega⟩]);clear hnx2;go_wp2_with fail
   refine (HD.out _).mono ?_;rintro e w2 ⟨rfl,hb2⟩;go_wp2
   all_goals try omega
   go_roundw
   case rel=>exact ⟨2,v*256+m,V+m*65536,by go_num,by omega,by go_num,by omega,KZ9 ⟨fun _=>⟨by simp;omega,by simp;omega⟩,fun h=>by omega⟩,hnx3,hnx.trans (hb2.mono hnx.size)⟩
   case measure=>simp [intOf]
  ·obtain ⟨b,off,rfl,hb1,hcell⟩:=HC.out (by rw [HN.out];omega);have hkl:2<L.length:=by rw [HN.out];omega
   have c0:=((yA hnx).1 b (off+2) hb1).trans (hcell 2 hkl)
   skip
   have hlen:=HLEN.out L[2] (List.getElem_mem hkl);have hst2:Hid (zn 16 L 0=zn 16 (L[2]::L.drop 3) v):=KZ9 (by rw [hst.out,List.drop_eq_getElem_cons hkl]);obtain ⟨x,hx⟩:=KZ6 (L[2]);rw [←hx] at c0 hlen hst2;clear hcell hst hx hkl;have hd:=fun W=>xA (mk x) W (by rw [zh];omega);simp only [zj] at hd;have hlst:Hid (∀ F v,zn F [x] v=if (zr x).2=true∧(zr x).1<2 ^ F then some (v*2 ^ F+(zr x).1) else none):=KZ9 (fun F v=>xg F x v);have hmid:Hid (∀ F r v,r≠[]→zn F (x::r) v=if (zr x).2=true∧(zr x).1≤255 then zn F r (v*256+(zr x).1) else none):=KZ9 (fun F r v h=>xE F x r v h);have hle:=wg x;obtain ⟨m,hm2⟩:=KZ6 (zr x);rw [←hm2] at hlst hmid hle;simp only [←hm2] at hd;clear hm2;obtain ⟨m,ok⟩:=m;simp only at hd hlst hmid hle;have HD:=KZ9 hd;have hv1:v<65536:=by have:=(hvk.out.1 (by omega)).1;simpa using this
   have hv2:V=v*65536:=by have:=(hvk.out.1 (by omega)).2;simpa using this
   clear hd hvk;have hdr:L.drop 3=[]:=List.drop_of_length_le (by rw [HN.out];omega);have hnx2:Hid (zn 16 L 0=if ok=true∧m<65536 then some (v*65536+m) else none):=KZ9 (by rw [hst2.out,hdr,hlst.out]);have hdn:Hid (zn 16 (L.drop 3) (v*65536+m)=some (v*65536+m)):=KZ9 (by rw [hdr];rfl);clear hst2 hdr hlst hmid;cases ok
   ·have hend:Hid (R=(0,false)):=KZ9 (by rw [hfin.out,hnx2.out,if_neg (by simp)];rfl);clear hnx2 hdn;go_wp2_with fail
    refine (HD.out _).mono ?_;rintro e w2 ⟨rfl,hb2⟩;go_wp2
    all_goals try omega
    (try rw [Exit.noGoto_ret])
    go_ret2;rw [hend.out];exact ⟨rfl,hb.trans ((hnx.trans (hb2.mono hnx.size)).mono hb.size)⟩
   by_cases hn5:65536≤m
   ·have g2:decide ((65536:Int)≤(m:Int))=true:=KZ7 (by omega);have hend:Hid (R=(0,false)):=KZ9 (by rw [hfin.out,hnx2.out,if_neg (by omega)];rfl);clear hnx2 hdn;go_wp2_with fail
    refine (HD.out _).mono ?_;rintro e w2 ⟨rfl,hb2⟩;go_wp2
    all_goals try omega
    (try rw [Exit.noGoto_ret])
    go_ret2;rw [hend.out];exact ⟨rfl,hb.trans ((hnx.trans (hb2.mono hnx.size)).mono hb.size)⟩
   have g2:decide ((65536:Int)≤(m:Int))=false:=KZ8 (by omega);have hnx3:Hid (zn 16 L 0=zn 16 (L.drop 3) (v*65536+m)):=KZ9 (by rw [hnx2.out,if_pos ⟨rfl,by omega⟩,hdn.out]);clear hnx2 hdn;go_wp2_with fail
   refine (HD.out _).mono ?_;rintro e w2 ⟨rfl,hb2⟩;go_wp2
   all_goals try omega
   go_roundw
   case rel=>exact ⟨3,v*65536+m,V+m,by go_num,by omega,by go_num,by omega,KZ9 ⟨fun h=>absurd h (by omega),fun _=>by omega⟩,hnx3,hnx.trans (hb2.mono hnx.size)⟩
   case measure=>simp [intOf]
  have hv0:V=v:=hvk.out.2 (by omega);subst hv0;have hend:Hid (R=(V,true)):=KZ9 (by rw [hfin.out,hst.out,List.drop_of_length_le (by rw [HN.out];omega)];rfl);have m1:(V:Int) % 4294967296=(V:Int):=by omega
  clear hst hvk;go_wp2
  (try rw [Exit.noGoto_ret])
  go_ret2;rw [hend.out];exact ⟨rfl,hb.trans (hnx.mono hb.size)⟩
theorem Yz (s:ByteArray) (w:World) (hs:s.size≤100000000) (hN:(zH (un s)).length=4):Calls Tryz.prog 156 #[.string s] w fun e w'=>e= .returned (.tuple #[.int .u32 (xw (un s)).1,.bool (xw (un s)).2])∧Below w.heap.size w w':=by
 have HS:=KZ9 (uq s w hs);have HLEN:=KZ9 (wU (un s));obtain ⟨R,hR⟩:=KZ6 (xw (un s));have hfin:Hid (R=vh (zn 8 (zH (un s)) 0)):=KZ9 (by rw [hR];unfold xw;rw [hN];rfl);rw [←hR];clear hR;obtain ⟨L,hL⟩:=KZ6 (zH (un s));rw [←hL] at HS HLEN hN hfin;clear hL;rw [zb] at HLEN;have HN:=KZ9 hN;go_enter Tryz.func156,Tryz.ntmps156
 go_wp2_with fail
 refine HS.out.mono ?_;rintro e w1 ⟨v,rfl,hst,hb⟩;clear HS;obtain ⟨a,c,rfl,hn,hm,hc⟩:=hst.open;unfold maxLen at hm;have HC:=KZ9 hc;clear hc hst;rw [hN] at hn ⊢;clear hN;go_wp2;go_loopw [5,6] (fun vv iv wr=>∃ (k v V:Nat),iv= .int .i64 k∧k≤4∧vv= .int .i64 V∧V<4294967296∧Hid ((k<4→v<256 ^ k∧V=v*2 ^ (32 - 8*k))∧(4≤k→V=v))∧Hid (zn 8 L 0=zn 8 (L.drop k) v)∧Below w1.heap.size w1 wr) (fun _ iv _=>4 - (intOf iv).toNat)
 case atStart=>exact ⟨0,0,0,rfl,by omega,rfl,by omega,KZ9 ⟨fun _=>by simp,fun h=>by omega⟩,KZ9 rfl,Below.refl _ _⟩
 case round =>
  obtain ⟨k,v,V,rfl,hk,rfl,hV,hvk,hst,hnx⟩:=hrel;rcases (by omega:k=0∨k=1∨k=2∨k=3∨k=4) with rfl | rfl | rfl | rfl | rfl
  ·obtain ⟨b,off,rfl,hb1,hcell⟩:=HC.out (by rw [HN.out];omega);have hkl:0<L.length:=by rw [HN.out];omega
   have c0:=((yA hnx).1 b (off+0) hb1).trans (hcell 0 hkl);rw [Nat.add_zero] at c0;have hlen:=HLEN.out L[0] (List.getElem_mem hkl);have hst2:Hid (zn 8 L 0=zn 8 (L[0]::L.drop 1) v):=KZ9 (by rw [hst.out,List.drop_eq_getElem_cons hkl]);obtain ⟨x,hx⟩:=KZ6 (L[0]);rw [←hx] at c0 hlen hst2;clear hcell hst hx hkl;have hd:=fun W=>xA (mk x) W (by rw [zh];omega);simp only [zj] at hd;have hlst:Hid (∀ F v,zn F [x] v=if (zr x).2=true∧(zr x).1<2 ^ F then some (v*2 ^ F+(zr x).1) else none):=KZ9 (fun F v=>xg F x v);have hmid:Hid (∀ F r v,r≠[]→zn F (x::r) v=if (zr x).2=true∧(zr x).1≤255 then zn F r (v*256+(zr x).1) else none):=KZ9 (fun F r v h=>xE F x r v h);have hle:=wg x;obtain ⟨m,hm2⟩:=KZ6 (zr x);rw [←hm2] at hlst hmid hle;simp only [←hm2] at hd;clear hm2;obtain ⟨m,ok⟩:=m;simp only at hd hlst hmid hle;have HD:=KZ9 hd
   have hv1:v<1:=by have:=(hvk.out.1 (by omega)).1;simpa using this
   have hv2:V=v*4294967296:=by have:=(hvk.out.1 (by omega)).2;simpa using this
   clear hd hvk;have hne:L.drop 1≠[]:=by
    intro e;have e2:=congrArg List.length e;rw [List.length_drop,HN.out] at e2;simp at e2
   have hnx2:Hid (zn 8 L 0=if ok=true∧m≤255 then zn 8 (L.drop 1) (v*256+m) else none):=KZ9 (by rw [hst2.out,hmid.out _ _ _ hne]);clear hst2 hne hlst hmid;cases ok
   ·have hend:Hid (R=(0,false)):=KZ9 (by rw [hfin.out,hnx2.out,if_neg (by simp)];rfl);clear hnx2;go_wp2_with fail
    refine (HD.out _).mono ?_;rintro e w2 ⟨rfl,hb2⟩;go_wp2
    all_goals try omega
    (try rw [Exit.noGoto_ret])
    go_ret2;rw [hend.out];exact ⟨rfl,hb.trans ((hnx.trans (hb2.mono hnx.size)).mono hb.size)⟩
   by_cases hn5:255<m
   ·have g2:decide ((255:Int)<(m:Int))=true:=KZ7 (by omega);have hend:Hid (R=(0,false)):=KZ9 (by rw [hfin.out,hnx2.out,if_neg (by omega)];rfl);clear hnx2;go_wp2_with fail
    refine (HD.out _).mono ?_;rintro e w2 ⟨rfl,hb2⟩;go_wp2
    all_goals try omega
    (try rw [Exit.noGoto_ret])
    go_ret2;rw [hend.out];exact ⟨rfl,hb.trans ((hnx.trans (hb2.mono hnx.size)).mono hb.size)⟩
   have g2:decide ((255:Int)<(m:Int))=false:=KZ8 (by omega);have hnx3:Hid (zn 8 L 0=zn 8 (L.drop 1) (v*256+m)):=KZ9 (by rw [hnx2.out,if_pos ⟨rfl,by omega⟩]);clear hnx2;go_wp2_with fail
   refine (HD.out _).mono ?_;rintro e w2 ⟨rfl,hb2⟩;go_wp2
   all_goals try omega
   go_roundw
   case rel=>exact ⟨1,v*256+m,V+m*16777216,by go_num,by omega,by go_num,by omega,KZ9 ⟨fun _=>⟨by simp;omega,by simp;omega⟩,fun h=>by omega⟩,hnx3,hnx.trans (hb2.mono hnx.size)⟩
   case measure=>simp [intOf]
  ·obtain ⟨b,off,rfl,hb1,hcell⟩:=HC.out (by rw [HN.out];omega);have hkl:1<L.length:=by rw [HN.out];omega
   have c0:=((yA hnx).1 b (off+1) hb1).trans (hcell 1 hkl)
   skip
   have hlen:=HLEN.out L[1] (List.getElem_mem hkl);have hst2:Hid (zn 8 L 0=zn 8 (L[1]::L.drop 2) v):=KZ9 (by rw [hst.out,List.drop_eq_getElem_cons hkl]);obtain ⟨x,hx⟩:=KZ6 (L[1]);rw [←hx] at c0 hlen hst2;clear hcell hst hx hkl;have hd:=fun W=>xA (mk x) W (by rw [zh];omega);simp only [zj] at hd;have hlst:Hid (∀ F v,zn F [x] v=if (zr x).2=true∧(zr x).1<2 ^ F then some (v*2 ^ F+(zr x).1) else none):=KZ9 (fun F v=>xg F x v);have hmid:Hid (∀ F r v,r≠[]→zn F (x::r) v=if (zr x).2=true∧(zr x).1≤255 then zn F r (v*256+(zr x).1) else none):=KZ9 (fun F r v h=>xE F x r v h);have hle:=wg x;obtain ⟨m,hm2⟩:=KZ6 (zr x);rw [←hm2] at hlst hmid hle;simp only [←hm2] at hd;clear hm2;obtain ⟨m,ok⟩:=m;simp only at hd hlst hmid hle;have HD:=KZ9 hd;have hv1:v<256:=by have:=(hvk.out.1 (by omega)).1;simpa using this
   have hv2:V=v*16777216:=by have:=(hvk.out.1 (by omega)).2;simpa using this
   clear hd hvk;have hne:L.drop 2≠[]:=by
    intro e;have e2:=congrArg List.length e;rw [List.length_drop,HN.out] at e2;simp at e2
   have hnx2:Hid (zn 8 L 0=if ok=true∧m≤255 then zn 8 (L.drop 2) (v*256+m) else none):=KZ9 (by rw [hst2.out,hmid.out _ _ _ hne]);clear hst2 hne hlst hmid;cases ok
   ·have hend:Hid (R=(0,false)):=KZ9 (by rw [hfin.out,hnx2.out,if_neg (by simp)];rfl);clear hnx2;go_wp2_with fail
    refine (HD.out _).mono ?_;rintro e w2 ⟨rfl,hb2⟩;go_wp2
    all_goals try omega
    (try rw [Exit.noGoto_ret])
    go_ret2;rw [hend.out];exact ⟨rfl,hb.trans ((hnx.trans (hb2.mono hnx.size)).mono hb.size)⟩
   by_cases hn5:255<m
   ·have g2:decide ((255:Int)<(m:Int))=true:=KZ7 (by omega);have hend:Hid (R=(0,false)):=KZ9 (by rw [hfin.out,hnx2.out,if_neg (by omega)];rfl);clear hnx2;go_wp2_with fail
    refine (HD.out _).mono ?_;rintro e w2 ⟨rfl,hb2⟩;go_wp2
    all_goals try omega
    (try rw [Exit.noGoto_ret])
    go_ret2;rw [hend.out];exact ⟨rfl,hb.trans ((hnx.trans (hb2.mono hnx.size)).mono hb.size)⟩
   have g2:decide ((255:Int)<(m:Int))=false:=KZ8 (by omega);have hnx3:Hid (zn 8 L 0=zn 8 (L.drop 2) (v*256+m)):=KZ9 (by rw [hnx2.out,if_pos ⟨rfl,by omega⟩]);clear hnx2;go_wp2_with fail
   refine (HD.out _).mono ?_;rintro e w2 ⟨rfl,hb2⟩;go_wp2
   all_goals try omega
   go_roundw
   case rel=>exact ⟨2,v*256+m,V+m*65536,by go_num,by omega,by go_num,by omega,KZ9 ⟨fun _=>⟨by simp;omega,by simp;omega⟩,fun h=>by omega⟩,hnx3,hnx.trans (hb2.mono hnx.size)⟩
   case measure=>simp [intOf]
  ·obtain ⟨b,off,rfl,hb1,hcell⟩:=HC.out (by rw [HN.out];omega);have hkl:2<L.length:=by rw [HN.out];omega
   have c0:=((yA hnx).1 b (off+2) hb1).trans (hcell 2 hkl)
   skip
   have hlen:=HLEN.out L[2] (List.getElem_mem hkl);have hst2:Hid (zn 8 L 0=zn 8 (L[2]::L.drop 3) v):=KZ9 (by rw [hst.out,List.drop_eq_getElem_cons hkl]);obtain ⟨x,hx⟩:=KZ6 (L[2]);rw [←hx] at c0 hlen hst2;clear hcell hst hx hkl;have hd:=fun W=>xA (mk x) W (by rw [zh];omega);simp only [zj] at hd;have hlst:Hid (∀ F v,zn F [x] v=if (zr x).2=true∧(zr x).1<2 ^ F then some (v*2 ^ F+(zr x).1) else none):=KZ9 (fun F v=>xg F x v);have hmid:Hid (∀ F r v,r≠[]→zn F (x::r) v=if (zr x).2=true∧(zr x).1≤255 then zn F r (v*256+(zr x).1) else none):=KZ9 (fun F r v h=>xE F x r v h);have hle:=wg x;obtain ⟨m,hm2⟩:=KZ6 (zr x);rw [←hm2] at hlst hmid hle;simp only [←hm2] at hd;clear hm2;obtain ⟨m,ok⟩:=m;simp only at hd hlst hmid hle;have HD:=KZ9 hd;have hv1:v<65536:=by have:=(hvk.out.1 (by omega)).1;simpa using this
   have hv2:V=v*65536:=by have:=(hvk.out.1 (by omega)).2;simpa using this
   clear hd hvk;have hne:L.drop 3≠[]:=by
    intro e;have e2:=congrArg List.length e;rw [List.length_drop,HN.out] at e2;simp at e2
   have hnx2:Hid (zn 8 L 0=if ok=true∧m≤255 then zn 8 (L.drop 3) (v*256+m) else none):=KZ9 (by rw [hst2.out,hmid.out _ _ _ hne]);clear hst2 hne hlst hmid;cases ok
   ·have hend:Hid (R=(0,false)):=KZ9 (by rw [hfin.out,hnx2.out,if_neg (by simp)];rfl);clear hnx2;go_wp2_with fail
    refine (HD.out _).mono ?_;rintro e w2 ⟨rfl,hb2⟩;go_wp2
    all_goals try omega
    (try rw [Exit.noGoto_ret])
    go_ret2;rw [hend.out];exact ⟨rfl,hb.trans ((hnx.trans (hb2.mono hnx.size)).mono hb.size)⟩
   by_cases hn5:255<m
   ·have g2:decide ((255:Int)<(m:Int))=true:=KZ7 (by omega);have hend:Hid (R=(0,false)):=KZ9 (by rw [hfin.out,hnx2.out,if_neg (by omega)];rfl);clear hnx2;go_wp2_with fail
    refine (HD.out _).mono ?_;rintro e w2 ⟨rfl,hb2⟩;go_wp2
    all_goals try omega
    (try rw [Exit.noGoto_ret])
    go_ret2;rw [hend.out];exact ⟨rfl,hb.trans ((hnx.trans (hb2.mono hnx.size)).mono hb.size)⟩
   have g2:decide ((255:Int)<(m:Int))=false:=KZ8 (by omega);have hnx3:Hid (zn 8 L 0=zn 8 (L.drop 3) (v*256+m)):=KZ9 (by rw [hnx2.out,if_pos ⟨rfl,by omega⟩]);clear hnx2;go_wp2_with fail
   refine (HD.out _).mono ?_;rintro e w2 ⟨rfl,hb2⟩;go_wp2
   all_goals try omega
   go_roundw
   case rel=>exact ⟨3,v*256+m,V+m*256,by go_num,by omega,by go_num,by omega,KZ9 ⟨fun _=>⟨by simp;omega,by simp;omega⟩,fun h=>by omega⟩,hnx3,hnx.trans (hb2.mono hnx.size)⟩
   case measure=>simp [intOf]
  ·obtain ⟨b,off,rfl,hb1,hcell⟩:=HC.out (by rw [HN.out];omega);have hkl:3<L.length:=by rw [HN.out];omega
   have c0:=((yA hnx).1 b (off+3) hb1).trans (hcell 3 hkl)
   skip
   have hlen:=HLEN.out L[3] (List.getElem_mem hkl);have hst2:Hid (zn 8 L 0=zn 8 (L[3]::L.drop 4) v):=KZ9 (by rw [hst.out,List.drop_eq_getElem_cons hkl]);obtain ⟨x,hx⟩:=KZ6 (L[3]);rw [←hx] at c0 hlen hst2;clear hcell hst hx hkl;have hd:=fun W=>xA (mk x) W (by rw [zh];omega);simp only [zj] at hd;have hlst:Hid (∀ F v,zn F [x] v=if (zr x).2=true∧(zr x).1<2 ^ F then some (v*2 ^ F+(zr x).1) else none):=KZ9 (fun F v=>xg F x v);have hmid:Hid (∀ F r v,r≠[]→zn F (x::r) v=if (zr x).2=true∧(zr x).1≤255 then zn F r (v*256+(zr x).1) else none):=KZ9 (fun F r v h=>xE F x r v h);have hle:=wg x;obtain ⟨m,hm2⟩:=KZ6 (zr x);rw [←hm2] at hlst hmid hle;simp only [←hm2] at hd;clear hm2;obtain ⟨m,ok⟩:=m;simp only at hd hlst hmid hle;have HD:=KZ9 hd;have hv1:v<16777216:=by have:=(hvk.out.1 (by omega)).1;simpa using this
   have hv2:V=v*256:=by have:=(hvk.out.1 (by omega)).2;simpa using this
   clear hd hvk;have hdr:L.drop 4=[]:=List.drop_of_length_le (by rw [HN.out];omega);have hnx2:Hid (zn 8 L 0=if ok=true∧m<256 then some (v*256+m) else none):=KZ9 (by rw [hst2.out,hdr,hlst.out]);have hdn:Hid (zn 8 (L.drop 4) (v*256+m)=some (v*256+m)):=KZ9 (by rw [hdr];rfl);clear hst2 hdr hlst hmid;cases ok
   ·have hend:Hid (R=(0,false)):=KZ9 (by rw [hfin.out,hnx2.out,if_neg (by simp)];rfl);clear hnx2 hdn;go_wp2_with fail
    refine (HD.out _).mono ?_;rintro e w2 ⟨rfl,hb2⟩;go_wp2
    all_goals try omega
    (try rw [Exit.noGoto_ret])
    go_ret2;rw [hend.out];exact ⟨rfl,hb.trans ((hnx.trans (hb2.mono hnx.size)).mono hb.size)⟩
   by_cases hn5:256≤m
   ·have g2:decide ((256:Int)≤(m:Int))=true:=KZ7 (by omega);have hend:Hid (R=(0,false)):=KZ9 (by rw [hfin.out,hnx2.out,if_neg (by omega)];rfl);clear hnx2 hdn;go_wp2_with fail
    refine (HD.out _).mono ?_;rintro e w2 ⟨rfl,hb2⟩;go_wp2
    all_goals try omega
    (try rw [Exit.noGoto_ret])
    go_ret2;rw [hend.out];exact ⟨rfl,hb.trans ((hnx.trans (hb2.mono hnx.size)).mono hb.size)⟩
   have g2:decide ((256:Int)≤(m:Int))=false:=KZ8 (by omega);have hnx3:Hid (zn 8 L 0=zn 8 (L.drop 4) (v*256+m)):=KZ9 (by rw [hnx2.out,if_pos ⟨rfl,by omega⟩,hdn.out]);clear hnx2 hdn;go_wp2_with fail
   refine (HD.out _).mono ?_;rintro e w2 ⟨rfl,hb2⟩;go_wp2
   all_goals try omega
   go_roundw
   case rel=>exact ⟨4,v*256+m,V+m,by go_num,by omega,by go_num,by omega,KZ9 ⟨fun h=>absurd h (by omega),fun _=>by omega⟩,hnx3,hnx.trans (hb2.mono hnx.size)⟩
   case measure=>simp [intOf]
  have hv0:V=v:=hvk.out.2 (by omega);subst hv0;have hend:Hid (R=(V,true)):=KZ9 (by rw [hfin.out,hst.out,List.drop_of_length_le (by rw [HN.out];omega)];rfl);have m1:(V:Int) % 4294967296=(V:Int):=by omega
  clear hst hvk;go_wp2
  (try rw [Exit.noGoto_ret])
  go_ret2;rw [hend.out];exact ⟨rfl,hb.trans (hnx.mono hb.size)⟩
theorem XC (s:ByteArray) (w:World) (hs:s.size≤100000000):Calls Tryz.prog 156 #[.string s] w fun e w'=>e= .returned (.tuple #[.int .u32 (xw (un s)).1,.bool (xw (un s)).2])∧Below w.heap.size w w':=by
 have hpos:=uF (un s);by_cases h4:(zH (un s)).length≤4
 ·rcases (by omega:(zH (un s)).length=1∨(zH (un s)).length=2∨(zH (un s)).length=3∨(zH (un s)).length=4) with h | h | h | h
  ·exact YC s w hs h
  ·exact YB s w hs h
  ·exact YA s w hs h
  exact Yz s w hs h
 have hend:Hid (xw (un s)=(0,false)):=KZ9 (by unfold xw;rw [if_neg h4]);have HS:=KZ9 (uq s w hs);obtain ⟨L,hL⟩:=KZ6 (zH (un s));rw [←hL] at HS h4;clear hL hpos;go_enter Tryz.func156,Tryz.ntmps156
 go_wp2_with fail
 refine HS.out.mono ?_;rintro e w1 ⟨v,rfl,hst,hb⟩;clear HS;obtain ⟨a,c,rfl,hn,hm,hc⟩:=hst.open;unfold maxLen at hm;clear hc hst;obtain ⟨n,hn0⟩:∃ n,L.length=n:=⟨_,rfl⟩;rw [hn0] at hn h4 ⊢;have g1:decide ((4:Int)<(n:Int))=true:=KZ7 (by omega);clear hn0;go_wp2_with fail
 all_goals try omega
 (try rw [Exit.noGoto_ret])
 go_ret2;rw [hend.out];exact ⟨rfl,hb⟩
theorem sR (s:ByteArray) (w:World) (hs:s.size≤100000000):Calls Tryz.prog 27 #[.string s] w fun e w'=>e= .returned (.bool (yq (un s)))∧Below w.heap.size w w':=by
 have HS:=KZ9 (uq s w hs);have hlen:=wU (un s);have hpos:=uF (un s);have hpv:Hid (yq (un s)=Tc (((zH (un s)).getLast?).getD [])):=KZ9 (by rw [RN];rfl);obtain ⟨R,hR⟩:=KZ6 (yq (un s));rw [←hR] at hpv ⊢;clear hR;obtain ⟨L,hL⟩:=KZ6 (zH (un s));rw [←hL] at hpv HS hlen hpos;clear hL;rw [zb] at hlen;obtain ⟨n,hn0⟩:∃ n,L.length=n+1:=⟨L.length - 1,by omega⟩;have hxl:=hlen (L[n]'(by omega)) (List.getElem_mem _);have hlast:Hid (L.getLast? =some (L[n]'(by omega))):=KZ9 (by rw [List.getLast?_eq_getElem?];simp only [hn0,Nat.add_sub_cancel];exact List.getElem?_eq_getElem _);have HN:=KZ9 hn0;clear hlen hpos;go_enter Tryz.func27,Tryz.ntmps27
 go_wp2_with fail
 refine HS.out.mono ?_;rintro e w1 ⟨v,rfl,hst,hb⟩;clear HS;obtain ⟨a,c,rfl,hn,hm,hc⟩:=hst.open;unfold maxLen at hm;obtain ⟨b,off,rfl,hb1,hcell⟩:=hc (by rw [HN.out];omega);have c0:=hcell n (by rw [HN.out];omega);rw [HN.out] at hn ⊢;obtain ⟨x,hx⟩:∃ x,x=L[n]'(by rw [HN.out];omega):=⟨_,rfl⟩;rw [←hx] at c0 hxl hlast;rw [hlast.out] at hpv;simp only [Option.getD_some] at hpv;clear hcell hc hst hx hn0 hlast HN;obtain ⟨S,hS⟩:=KZ6 (mk x);have hSx:un S=x:=by rw [hS,zj]
 rw [←hS] at c0;have hSs:S.size≤100000000:=by rw [←zb,hSx];omega
 have cd:=fun W=>Yv S W hSs;have cn:=fun W=>xA S W hSs;rw [hSx] at cn;simp only [hSx] at cd;unfold Tc at hpv;have hx1:x[1]? =if h:1<S.size then some (S[1]'h) else none:=by
  rw [←hSx];split
  ·rename_i h;rw [List.getElem?_eq_getElem (by rw [zb];exact h)];rfl
  exact List.getElem?_eq_none (by rw [zb];omega)
 clear hS hSx;cases hd:tu x
 ·rw [hd] at cd hpv;have CD:=KZ9 cd;have CN:=KZ9 cn;obtain ⟨m,hm2⟩:=KZ6 (zr x);rw [←hm2] at CN hpv;obtain ⟨y,ok⟩:=m;simp only at CN;cases ok
  ·have hend:Hid (R=false):=KZ9 (by rw [hpv.out];rfl);clear cd cn hpv hm2 hd hx1;go_wp2_with fail
   refine (CD.out _).mono ?_;rintro e w2 ⟨rfl,rfl⟩;go_wp2_with fail
   refine (CN.out _).mono ?_;rintro e w2 ⟨rfl,hb2⟩;go_wp2_with fail
   go_ret;rw [hend.out];exact ⟨rfl,hb.trans (hb2.mono hb.size)⟩
  by_cases h2:1<S.size
  ·rw [dif_pos h2] at hx1;have g1:decide ((2:Int)≤(S.size:Int))=true:=KZ7 (by omega);have hin:(1:Int)<(S.size:Int):=by omega
   by_cases h120:S[1]'h2=120
   ·have hend:Hid (R=true):=KZ9 (by rw [hpv.out,hx1,h120];rfl);have g2:(((S[1]'h2).toNat:Int)==120)=true:=by rw [h120];rfl
    clear cd cn hpv hm2 hd hx1 h120;go_wp2_with fail
    refine (CD.out _).mono ?_;rintro e w2 ⟨rfl,rfl⟩;go_wp2_with fail
    refine (CN.out _).mono ?_;rintro e w2 ⟨rfl,hb2⟩;go_wp2_with fail
    go_ret;rw [hend.out];exact ⟨rfl,hb.trans (hb2.mono hb.size)⟩
   have g2:(((S[1]'h2).toNat:Int)==120)=false:=by rw [beq_eq_false_iff_ne];intro e;exact h120 (UInt8.toNat_inj.1 (by have:(120:UInt8).toNat=120:=rfl;omega))
   by_cases h88:S[1]'h2=88
   ·have hend:Hid (R=true):=KZ9 (by rw [hpv.out,hx1,h88];rfl);have g3:(((S[1]'h2).toNat:Int)==88)=true:=by rw [h88];rfl
    clear cd cn hpv hm2 hd hx1 h88 h120;go_wp2_with fail
    refine (CD.out _).mono ?_;rintro e w2 ⟨rfl,rfl⟩;go_wp2_with fail
    refine (CN.out _).mono ?_;rintro e w2 ⟨rfl,hb2⟩;go_wp2_with fail
    go_ret;rw [hend.out];exact ⟨rfl,hb.trans (hb2.mono hb.size)⟩
   have hend:Hid (R=false):=KZ9 (by rw [hpv.out,hx1];simp [h120,h88]);have g3:(((S[1]'h2).toNat:Int)==88)=false:=by rw [beq_eq_false_iff_ne];intro e;exact h88 (UInt8.toNat_inj.1 (by have:(88:UInt8).toNat=88:=rfl;omega))
   clear cd cn hpv hm2 hd hx1 h88 h120;go_wp2_with fail
   refine (CD.out _).mono ?_;rintro e w2 ⟨rfl,rfl⟩;go_wp2_with fail
   refine (CN.out _).mono ?_;rintro e w2 ⟨rfl,hb2⟩;go_wp2_with fail
   go_ret;rw [hend.out];exact ⟨rfl,hb.trans (hb2.mono hb.size)⟩
  rw [dif_neg h2] at hx1;have hend:Hid (R=false):=KZ9 (by rw [hpv.out,hx1];rfl);have g1:decide ((2:Int)≤(S.size:Int))=false:=KZ8 (by omega);clear cd cn hpv hm2 hd hx1;go_wp2_with fail
  refine (CD.out _).mono ?_;rintro e w2 ⟨rfl,rfl⟩;go_wp2_with fail
  refine (CN.out _).mono ?_;rintro e w2 ⟨rfl,hb2⟩;go_wp2_with fail
  go_ret;rw [hend.out];exact ⟨rfl,hb.trans (hb2.mono hb.size)⟩
 rw [hd] at cd hpv;have hend:Hid (R=true):=KZ9 (by rw [hpv.out];rfl);have CD:=KZ9 cd;clear cd cn hpv hd hx1;go_wp2_with fail
 refine (CD.out _).mono ?_;rintro e w2 ⟨rfl,rfl⟩;go_wp2_with fail
 go_ret;rw [hend.out];exact ⟨rfl,hb⟩
theorem gv (s:ByteArray):s.toList.isEmpty=decide (s.size=0):=by
 have h0:un s=[]↔s.size=0:=by rw [←zb];exact List.length_eq_zero_iff.symm
 rw [zl,←zb];cases un s<;>simp
theorem VF (s:ByteArray) (w:World) (h1:1024<s.size) (hs:s.size≤1000000):Calls Tryz.prog 94 #[.string s] w (tk (yY (un s)) w.heap.size w):=by
 have hfin:=KZ9 (ZS (l:=un s) (by rw [zb];exact h1));have HS0:=KZ9 (heap_alloc_new w (.cells (zc zk).toArray 60));have g1:decide ((1024:Int)<(s.size:Int))=true:=KZ7 (by omega);go_enter Tryz.func94,Tryz.ntmps94
 go_wp2_with (first
  | refine wpList_store_row rfl 60 (.tmp 2) (.tmp 18) rfl w.heap.size (zc zk).toArray rfl rfl 60 _ HS0.out zx rfl (ze (yL zk)) ?_)
 all_goals try omega
 refine bodyPost_ret (zf rfl _ _ w.heap.size 60 _ _ rfl ((BlkL.new w 60 (zc zk)).setRow (zc zk)) Tryz.underlying60 rfl zx) rfl ?_;exact ⟨⟨zk,3,rfl,.inr ⟨by decide,rfl,hfin.out⟩⟩,below_setRow ((Below.refl _ w).alloc (Nat.le_refl _) _) (Nat.le_refl _) _⟩
set_option maxHeartbeats 8000000
theorem VE (s:ByteArray) (w:World) (h1:s.size≤1024) (hh:(un s).head? =some 91):Calls Tryz.prog 94 #[.string s] w (tk (yY (un s)) w.heap.size w):=by
 have hlen:(un s).length=s.size:=zb s;have hpos:0<s.size:=by
  rw [←hlen];cases h:un s with
  | nil=>rw [h] at hh;cases hh
  | cons a r=>simp
 have hl:=qU s hpos;have h91:s[0]=91:=by
  have h2:=pg s hpos;rw [h2] at hh;exact Option.some.inj hh
 have hdef:yY (un s)=if (un s).getLast? =some 93 then (xG (((un s).take ((un s).length - 1)).drop 1)).map (fun v=>⟨3,[],0,v⟩) else none:=ge (l:=un s) (by omega) hh
 rw [hl,hlen] at hdef;have hp1:s.size - 1<s.size:=by omega
 have hbA:Below w.heap.size w (w.alloc (.cells (zc zk).toArray 60)):=(Below.refl _ w).alloc (Nat.le_refl _) _;have hr0:BlkL (w.alloc (.cells (zc zk).toArray 60)) w.heap.size 60 (zc zk):=BlkL.new w _ _;have hsz0:w.heap.size+1≤(w.alloc (.cells (zc zk).toArray 60)).heap.size:=by simp
 obtain ⟨W0,hW0⟩:=KZ6 (w.alloc (.cells (zc zk).toArray 60));rw [←hW0] at hbA hr0 hsz0;have HW0:=KZ9 ((uR w).trans hW0.symm);have HR0:=KZ9 hr0;clear hW0 hr0;have he:s.toList.isEmpty=false:=by rw [gv,KZ8 (by omega)]
 have g0:((s[0].toNat:Int)==91)=true:=by rw [h91];rfl
 obtain ⟨n,hn⟩:=KZ6 s.size;by_cases hc:(s[s.size - 1]'hp1)=93
 ·have hd2:=hdef.trans (if_pos (by rw [hc]));have cs:((s[s.size - 1]'hp1).toNat:Int)=93:=by rw [hc];rfl
  have g2:(((s[s.size - 1]'hp1).toNat:Int) != 93)=false:=by rw [cs];rfl
  have h1':1≤s.size - 1:=by
   rcases Nat.eq_or_lt_of_le hpos with h0 | h0
   ·exfalso;have h4:s[s.size - 1]'hp1=s[0]:=by congr 1;omega
    rw [h4,h91] at hc;exact absurd hc (by decide)
   omega
  have hx:s.extract 1 (s.size - 1)=mk (((un s).take (s.size - 1)).drop 1):=by
   rw [yP];unfold seg;rw [List.drop_take]
  have hp6:=TW (mk (((un s).take (s.size - 1)).drop 1)) W0 (by rw [zh,List.length_drop,List.length_take];omega);rw [zj] at hp6;have HP6:=KZ9 hp6;have HX:=KZ9 hx;clear hp6 hx hc hdef hl hh hlen h91;go_enter Tryz.func94,Tryz.ntmps94
  go_wp2_with fail
  all_goals try omega
  rw [HW0.out];rw [HX.out];refine HP6.out.mono ?_;rintro e w1 ⟨rfl,hb1⟩;have hr1:=HR0.out.below (by omega) hb1;have hsz1:=hb1.size;have hall:Below w.heap.size w w1:=hbA.trans (hb1.mono (by omega));have HALL:=KZ9 hall;have HD:=KZ9 hd2;have hne:w.heap.size≠w1.heap.size:=by omega
  clear HP6 HX hb1 hbA hall hd2 HW0;cases hp:xG (((un s).take (s.size - 1)).drop 1) with
  | none =>
   have hfin:=KZ9 (HD.out.trans (by rw [hp]));rw [show Xx none=(z8,false) from rfl];clear HD hp;have hN:=heap_alloc_new w1 (.cells (zg z8).toArray 58);have hR2:=(hr1.alloc (.cells (zg z8).toArray 58)).setRow_other hne (zg z8).toArray;have HN:=KZ9 hN;have HR2:=KZ9 hR2;clear hN hR2;go_wp2_with (first
    | refine wpList_store_row rfl 58 (.tmp 4) (.tmp 45) rfl w1.heap.size (zg z8).toArray rfl rfl 58 _ HN.out zC rfl (xN z8) ?_
    | refine wpList_store_row rfl 60 (.tmp 2) (.tmp 49) rfl w.heap.size (zc zk).toArray rfl rfl 60 _ HR2.out zx rfl (ze (yL zk)) ?_)
   all_goals try omega
   refine bodyPost_ret (zf rfl _ _ w.heap.size 60 _ _ rfl (HR2.out.setRow (zc zk)) Tryz.underlying60 rfl zx) rfl ?_;exact ⟨⟨zk,14,rfl,.inr ⟨by decide,rfl,hfin.out⟩⟩,below_setRow (below_setRow (HALL.out.trans (((Below.refl _ w1).alloc (Nat.le_refl _) _).mono (by omega))) (by omega) _) (Nat.le_refl _) _⟩
  | some v =>
   have hfin:=HD.out;rw [hp] at hfin;have HFIN:Hid (yY (un s)=some ⟨3,[],0,v⟩):=KZ9 hfin;rw [show Xx (some v)=(v,true) from rfl];have h8:=(uZ hp).1;obtain ⟨a,b,c,d,e,f,g,i,rfl⟩:=si h8;clear HD hp hfin h8;have hN:=heap_alloc_new w1 (.cells (zg z8).toArray 58);have hN2:=setRow_heap _ w1.heap.size _ (zg [a,b,c,d,e,f,g,i]).toArray _ _ hN;have hR2:=(hr1.alloc (.cells (zg z8).toArray 58)).setRow_other hne (zg [a,b,c,d,e,f,g,i]).toArray;have HN:=KZ9 hN;have HN2:=KZ9 hN2;have HR2:=KZ9 hR2;clear hN hR2 hN2;go_wp2_with (first
    | refine wpList_store_row rfl 58 (.tmp 4) (.tmp 45) rfl w1.heap.size (zg [a,b,c,d,e,f,g,i]).toArray rfl rfl 58 _ HN.out zC rfl (xN _) ?_
    | refine wpList_load_row rfl 58 (.tmp 4) rfl w1.heap.size rfl 58 _ _ _ HN2.out Tryz.underlying58 rfl zC ?_
    | refine wpList_store_row rfl 60 (.tmp 2) (.tmp 51) rfl w.heap.size (zc ⟨3,[],0,[a,b,c,d,e,f,g,i]⟩).toArray rfl rfl 60 _ HR2.out zx rfl (ze (yL _)) ?_)
   all_goals try omega
   refine bodyPost_ret (zf rfl _ _ w.heap.size 60 _ _ rfl (HR2.out.setRow (zc ⟨3,[],0,[a,b,c,d,e,f,g,i]⟩)) Tryz.underlying60 rfl zx) rfl ?_;exact ⟨⟨_,0,rfl,.inl ⟨rfl,HFIN.out⟩⟩,below_setRow (below_setRow (HALL.out.trans (((Below.refl _ w1).alloc (Nat.le_refl _) _).mono (by omega))) (by omega) _) (Nat.le_refl _) _⟩
 have hfin:=KZ9 (hdef.trans (if_neg (fun e=>hc (Option.some.inj e))));have g1:(((s[s.size - 1]'hp1).toNat:Int) != 93)=true:=by
  simp;intro e;exact hc (UInt8.toNat_inj.1 (by show (s[s.size - 1]'hp1).toNat=93;omega))
 clear hc hdef hl hh hlen h91;go_enter Tryz.func94,Tryz.ntmps94
 go_wp2_with (first
   | refine wpList_store_row rfl 60 (.tmp 2) (.tmp 37) rfl w.heap.size (zc zk).toArray rfl rfl 60 _ (heap_alloc_new w _) zx rfl (ze (yL zk)) ?_)
 all_goals try omega
 refine bodyPost_ret (zf rfl _ _ w.heap.size 60 _ _ rfl ((BlkL.new w 60 (zc zk)).setRow (zc zk)) Tryz.underlying60 rfl zx) rfl ?_;exact ⟨⟨zk,14,rfl,.inr ⟨by decide,rfl,hfin.out⟩⟩,below_setRow ((Below.refl _ w).alloc (Nat.le_refl _) _) (Nat.le_refl _) _⟩
end Go.Proofs.YtjbciamhhfcdoaaGreatDoor
namespace Hs
open Go
theorem Y7 {l:Bs} (h:l.getLast? =some 46):xL l=l.take (l.length - 1):=by
 obtain ⟨m,rfl⟩:∃ m,l=m++[46]:=by
  refine ⟨l.dropLast,?_⟩;have hne:l≠[]:=by rintro rfl;simp at h
  rw [List.getLast?_eq_some_getLast hne] at h;have h3:l.getLast hne=46:=Option.some.inj h;have h2:=List.dropLast_concat_getLast hne;rw [h3] at h2;exact h2.symm
 rw [Y6];simp
theorem k6 {d:List Bs} (y:Bs):ye 46 (d++[y])=ye 46 d++((if d=[] then [] else [46])++y):=by
 by_cases h:d=[]
 ·subst h;rw [if_pos rfl];rfl
 rw [if_neg h,ql 46 y d h];rfl
end Hs
namespace Go.Proofs.YtjbciamhhfcdoaaGreatDoor
open Go.RowKit Hs
set_option maxRecDepth 20000
set_option maxHeartbeats 16000000
theorem VD (s:ByteArray) (w:World) (h1:s.size≤1024) (hb:(un s).head? ≠some 91):Calls Tryz.prog 94 #[.string s] w (tk (yY (un s)) w.heap.size w):=by
 have hdef:=ZR (l:=un s) (by rw [zb];omega) hb;have hbA:Below w.heap.size w (w.alloc (.cells (zc zk).toArray 60)):=(Below.refl _ w).alloc (Nat.le_refl _) _;have hr0:BlkL (w.alloc (.cells (zc zk).toArray 60)) w.heap.size 60 (zc zk):=BlkL.new w _ _;have hsz0:w.heap.size+1≤(w.alloc (.cells (zc zk).toArray 60)).heap.size:=by simp
 obtain ⟨W0,hW0⟩:=KZ6 (w.alloc (.cells (zc zk).toArray 60));rw [←hW0] at hbA hr0 hsz0;have HW0:=KZ9 ((uR w).trans hW0.symm);have HR0:=KZ9 hr0;have HBA:=KZ9 hbA;clear hW0 hr0 hbA;have HDC:=KZ9 (VH s W0 (by omega));have HDEF:=KZ9 hdef;have he0:=gv s;have hg0:∀ (h:0<s.size),((s[0].toNat:Int)==91)=false:=fun h=>by
  have h2:=pg s h;rw [h2] at hb;simp;intro e;exact hb (by rw [show s[0]=91 from UInt8.toNat_inj.1 (by show s[0].toNat=91;omega)])
 have HG0:=KZ9 hg0;clear hb hdef hg0;go_enter Tryz.func94,Tryz.ntmps94
 go_upto_if 17 with fail
 all_goals try omega
 rw [HW0.out];clear HW0;go_upto_region 3 with fail
 all_goals try omega
 go_cut [25] (fun s25 wx=>s25= .bool false∧wx=W0)
 case first =>
  by_cases hz:s.size=0
  ·rw [KZ7 hz] at he0;go_wp2
   all_goals try omega
   all_goals (go_meet;exact ⟨rfl,rfl⟩)
  rw [KZ8 hz] at he0;have g0:=HG0.out (by omega);go_wp2
  all_goals try omega
  all_goals (go_meet;exact ⟨rfl,rfl⟩)
 case rest =>
 obtain ⟨rfl,rfl⟩:=hcut;clear he0 HG0;go_wp2_with fail
 all_goals try omega
 refine HDC.out.mono ?_;rintro e w1 ⟨⟨t,ok,rfl,hres⟩,hb1⟩;have hs1:=hb1.size;have HR1:=KZ9 (HR0.out.below (by omega) hb1);have HALL1:=KZ9 (HBA.out.trans (hb1.mono (by omega)));clear hb1 HDC HR0 HBA;rcases hres with ⟨rfl,hpt⟩ | ⟨rfl,rfl,hpn⟩
 ·have hd2:yY (un s)=vk (xL (un t)):=by
   have h:=HDEF.out;rw [hpt] at h;exact h
  have hlt:(un t).length≤s.size:=by have:=qJ _ _ _ (Nat.le_refl _) hpt;rw [zb] at this;exact this
  have hld:=jm (un t);have hdd1:=Y7 (l:=un t);have hdd2:=rh (t:=un t);have hlast:=qU t;have he1:=gv t;have hlu:=zb t;obtain ⟨q,hq⟩:=KZ6 (xL (un t));rw [←hq] at hd2 hld hdd1 hdd2;have hql:q.length≤1024:=by omega
  have htb:t.size≤1024:=by omega
  obtain ⟨dt,hdt⟩:=KZ6 (decide ((un t).getLast? =some 46));have HD2:=KZ9 hd2;have HDD1:=KZ9 hdd1;have HDD2:=KZ9 hdd2;have HDT:=KZ9 hdt;have HLAST:=KZ9 hlast;have hnum:=sR (mk q);have HN:=KZ9 hnum;have HLU:=KZ9 hlu;clear hd2 hq hpt hnum HDEF hlt hld hdd1 hdd2 hdt hlast hlu;go_upto_region 13 with fail
  all_goals try omega
  go_cut [69] (fun s69 wx=>s69= .bool dt∧wx=w1)
  case first =>
   by_cases hz:t.size=0
   ·rw [KZ7 hz] at he1;have hdf:dt=false:=by
     rw [HDT.out];have:un t=[]:=List.eq_nil_of_length_eq_zero (by rw [HLU.out];exact hz);rw [this];rfl
    go_wp2
    all_goals try omega
    all_goals (go_meet;exact ⟨by rw [hdf],rfl⟩)
   rw [KZ8 hz] at he1;have hp1:t.size - 1<t.size:=by omega
   have hI:(0:Int)≤(t.size:Int) - 1:=by omega
   have hI2:(t.size:Int) - 1<(t.size:Int):=by omega
   have hnn:((t.size:Int) - 1).toNat=t.size - 1:=by omega
   have hl:=HLAST.out (by omega);have hdt2:(((t[t.size - 1]'hp1).toNat:Int)==46)=dt:=by
    rw [HDT.out,hl,Bool.eq_iff_iff];simp;constructor
    ·intro e;exact UInt8.toNat_inj.1 (by show (t[t.size - 1]'hp1).toNat=46;omega)
    intro e;rw [e];rfl
   clear hl;go_wp2
   all_goals try omega
   all_goals (go_meet;exact ⟨by first | rfl | rw [hdt2] | (simp;exact hdt2),rfl⟩)
  case rest =>
  obtain ⟨rfl,rfl⟩:=hcut;go_upto_if 69 with fail
  all_goals try omega
  go_cut [6] (fun s6 wx=>s6= .string (mk q)∧wx=wc)
  case first =>
   cases dt
   ·have hqe:q=un t:=HDD2.out (of_decide_eq_false HDT.out.symm);go_wp2
    all_goals try omega
    all_goals (go_meet;exact ⟨by rw [hqe,vd],rfl⟩)
   have hgl:=of_decide_eq_true HDT.out.symm;have hqe:=HDD1.out hgl;have hpos:0<t.size:=by
    rw [←HLU.out];cases h:un t with
    | nil=>rw [h] at hgl;cases hgl
    | cons a r=>simp
   have hI:(0:Int)≤(t.size:Int) - 1:=by omega
   have hI2:(t.size:Int) - 1≤(t.size:Int):=by omega
   have hnn:((t.size:Int) - 1).toNat=t.size - 1:=by omega
   have hx:t.extract 0 (t.size - 1)=mk q:=by rw [yP,Xt,hqe,HLU.out]
   go_wp2
   all_goals try omega
   all_goals (go_meet;exact ⟨by first | rfl | rw [hx] | rw [hqe,HLU.out],rfl⟩)
  case rest =>
  obtain ⟨rfl,rfl⟩:=hcut;clear he1 HDD1 HDD2 HDT HLAST HLU;have hnum:=HN.out wc (by rw [zh];omega);rw [zj] at hnum;obtain ⟨nm,hnm⟩:=KZ6 (yq q);rw [←hnm] at hnum;have HNN:=KZ9 hnum;have HNM:=KZ9 hnm;clear hnum hnm HN;go_wp2_with fail
  all_goals try omega
  refine HNN.out.mono ?_;rintro e w2 ⟨rfl,hb2⟩;have hs2:=hb2.size;have HR2:=KZ9 (HR1.out.below (by omega) hb2);have HALL2:=KZ9 (HALL1.out.trans (hb2.mono (by omega)));clear hb2 HR1 HALL1 HNN;cases nm
  ·have hd3:=HD2.out;unfold vk SE at hd3;rw [←HNM.out,if_neg (by simp)] at hd3;have hsp:=ko (mk q) w2 (by rw [zh];omega);rw [zj] at hsp;have hll:(zi 46 q).length≤1025:=by
    have:=splitD_count 46 q;omega
   have hle:∀ x∈zi 46 q,x.length≤1024:=fun x hx=>by have:=yJ 46 q x hx;omega
   obtain ⟨L,hL⟩:=KZ6 (zi 46 q);rw [←hL] at hd3 hsp hll hle;have HSP:=KZ9 hsp;have HLE:=KZ9 hle;have HD3:=KZ9 hd3;clear hd3 hsp hL hle HD2 HNM;go_wp2_with fail
   all_goals try omega
   refine HSP.out.mono ?_;rintro e w3 ⟨v,rfl,hst,hb3⟩;have hs3:=hb3.size;have HR3:=KZ9 (HR2.out.below (by omega) hb3);have HALL3:=KZ9 (HALL2.out.trans (hb3.mono (by omega)));obtain ⟨a,cap,rfl,hn,hm,hc⟩:=hst.open;unfold maxLen at hm;have HC:=KZ9 hc;obtain ⟨n,hn0⟩:∃ n,L.length=n:=⟨_,rfl⟩;rw [hn0] at hn hll ⊢;have HNL:=KZ9 hn0;clear hc hst hb3 HSP HR2 HALL2 hn0;go_wp2
   all_goals try omega
   go_loopw [10,12] (fun nv iv wr=>∃ (k:Nat) (d:List Bs),iv= .int .i64 k∧k≤n∧d.length=k∧nv= .string (mk (ye 46 d))∧Hid (∀ y∈d,y.length≤63)∧Hid (BlkL wr w.heap.size 60 (zc zk))∧Hid (Below w.heap.size w wr)∧Hid (Below w3.heap.size w3 wr)∧Hid (x9 L=(x9 (L.drop k)).map (d++·))) (fun _ iv _=>n - (intOf iv).toNat)
   case atStart=>exact ⟨0,[],rfl,by omega,rfl,rfl,KZ9 (by simp),HR3,HALL3,KZ9 (Below.refl _ _),KZ9 (by rw [List.drop_zero];cases x9 L<;>simp)⟩
   case round =>
    obtain ⟨k,d,rfl,hk,hdl,rfl,hd63,hrr,hnx,hn3,hst⟩:=hrel;have hjl:=k7 46 d hd63.out;rw [hdl] at hjl;by_cases hlt:k<n
    ·have hkl:k<L.length:=by rw [HNL.out];exact hlt
     obtain ⟨b,off,rfl,hbl,hcell⟩:=HC.out (by omega);have hdr:L.drop k=L[k]::L.drop (k+1):=List.drop_eq_getElem_cons hkl;have hst2:=hst.out;rw [hdr] at hst2;have hxl:=HLE.out L[k] (List.getElem_mem hkl);have c0:=((yA hn3.out).1 b (off+k) hbl).trans (hcell k hkl);obtain ⟨x,hx⟩:=KZ6 (L[k]);rw [←hx] at hst2 hxl c0;have htoa:=XA (mk x) wr (by rw [zh];omega);rw [zj] at htoa;have HTO:=KZ9 htoa;have HST:=KZ9 hst2;clear hst hst2 hdr hx htoa hcell hkl;go_wp2_with fail
     all_goals try omega
     refine HTO.out.mono ?_;rintro e w4 ⟨⟨y,c,rfl,hres⟩,hb4⟩;have hs4:=hb4.size;have hs5:=hnx.out.size;have hs6:=hn3.out.size;have HR4:=KZ9 (hrr.out.below (by omega) hb4);have HNX4:=KZ9 (hnx.out.trans (hb4.mono (by omega)));have HN34:=KZ9 (hn3.out.trans (hb4.mono (by omega)));clear hb4 hrr hnx hn3 HTO c0;rcases hres with ⟨rfl,hok⟩ | ⟨hc,rfl,hno⟩
     ·have hst5:=KZ9 (kY HST.out hok);have hy63:=qu hok;have hd2:Hid (∀ z∈d++[un y],z.length≤63):=KZ9 fun z hz=>by
       rcases List.mem_append.1 hz with hz | hz
       ·exact hd63.out z hz
       rw [List.mem_singleton.1 hz];exact hy63
      have hys:y.size≤63:=by rw [zb] at hy63;exact hy63
      have hms:(mk (ye 46 d)).size≤64*k:=by rw [zh];exact hjl
      clear HST hok hd63 hy63;by_cases hk0:k=0
      ·have hd0:d=[]:=List.eq_nil_of_length_eq_zero (by omega);have hnext:mk (ye 46 d)++y=mk (ye 46 (d++[un y])):=by
        rw [k6,if_pos hd0,zK,List.nil_append,vd]
       have hki:(k:Int)<1:=by omega
       have HK0:=KZ9 hk0;clear hd0 hk0;go_wp2
       all_goals try omega
       go_roundw
       case rel=>exact ⟨k+1,d++[un y],by go_num,by omega,by simp;omega,by rw [←hnext],hd2,HR4,HNX4,HN34,hst5⟩
       case measure=>simp [intOf];omega
      have hd0:d≠[]:=by rintro rfl;simp at hdl;omega
      have hnext:(mk (ye 46 d)++(⟨#[46]⟩:ByteArray))++y=mk (ye 46 (d++[un y])):=by
       rw [k6,if_neg hd0,zK,zK,vd];show (mk (ye 46 d)++mk [46])++y=mk (ye 46 d)++(mk [46]++y);rw [ByteArray.append_assoc]
      have hsz1:(mk (ye 46 d)++(⟨#[46]⟩:ByteArray)).size≤64*k+1:=by
       show (mk (ye 46 d)++mk [46]).size≤_;rw [←zK,zh];simp;omega
      have hki:(0:Int)<(k:Int):=by omega
      clear hd0;go_wp2
      all_goals try omega
      go_roundw
      case rel=>exact ⟨k+1,d++[un y],by go_num,by omega,by simp;omega,by rw [←hnext],hd2,HR4,HNX4,HN34,hst5⟩
      case measure=>simp [intOf];omega
     have hfin:yY (un s)=none:=by
      rw [HD3.out,kZ HST.out hno]
     have HFIN:=KZ9 hfin;have g4:(c != 0)=true:=by simpa using hc
     have HC:=KZ9 hc;clear HST hno hfin hc;go_wp2_with (first
      | refine wpList_store_row rfl 60 (.tmp 2) (.tmp 105) rfl w.heap.size (zc zk).toArray rfl rfl 60 _ HR4.out zx rfl (ze (yL zk)) ?_)
     all_goals try omega
     refine bodyPost_ret (zf rfl _ _ w.heap.size 60 _ _ rfl (HR4.out.setRow (zc zk)) Tryz.underlying60 rfl zx) rfl ?_;exact ⟨⟨zk,c,rfl,.inr ⟨HC.out,rfl,HFIN.out⟩⟩,below_setRow HNX4.out (Nat.le_refl _) _⟩
    have hkn:k=n:=by omega
    have hdrop:L.drop k=[]:=List.drop_of_length_le (by rw [HNL.out];omega);have hst2:=hst.out;rw [hdrop] at hst2;have hlabs:x9 L=some d:=by rw [hst2];simp [x9]
    have hd4:yY (un s)=Y8 (ye 46 d):=by
     have h:=HD3.out;rw [hlabs] at h;exact h
    obtain ⟨N,hN⟩:=KZ6 (ye 46 d);rw [←hN] at hd4 hjl ⊢;have HD4:=KZ9 hd4;have hsN:(mk N).size=N.length:=zh N;clear hst hst2 hlabs hd4 hdrop hN hd63 HD3 HLE HNL;by_cases h253:253<N.length
    ·have hfin:=KZ9 (HD4.out.trans (if_pos h253));have g5:decide ((253:Int)<(N.length:Int))=true:=KZ7 (by omega);clear HD4;go_wp2_with (first
      | refine wpList_store_row rfl 60 (.tmp 2) (.tmp 117) rfl w.heap.size (zc zk).toArray rfl rfl 60 _ hrr.out zx rfl (ze (yL zk)) ?_)
     all_goals try omega
     refine bodyPost_ret (zf rfl _ _ w.heap.size 60 _ _ rfl (hrr.out.setRow (zc zk)) Tryz.underlying60 rfl zx) rfl ?_;exact ⟨⟨zk,3,rfl,.inr ⟨by decide,rfl,hfin.out⟩⟩,below_setRow hnx.out (Nat.le_refl _) _⟩
    have hd5:=HD4.out;unfold Y8 at hd5;rw [if_neg h253] at hd5;have g5:decide ((253:Int)<(N.length:Int))=false:=KZ8 (by omega);have hnum:=sR (mk N) wr (by omega);rw [zj] at hnum;obtain ⟨nm,hnm⟩:=KZ6 (yq N);rw [←hnm] at hnum hd5;have HN:=KZ9 hnum;have HD5:=KZ9 hd5;clear hnum hnm hd5 HD4;go_wp2_with fail
    all_goals try omega
    refine HN.out.mono ?_;rintro e w6 ⟨rfl,hb6⟩;have hs5:=hnx.out.size;have hs6:=hn3.out.size;have HR6:=KZ9 (hrr.out.below (by omega) hb6);have HNX6:=KZ9 (hnx.out.trans (hb6.mono (by omega)));clear hb6 HN hrr hnx;cases nm
    ·have hfin:=KZ9 (HD5.out.trans (if_neg (by simp)));go_wp2_with (first
      | refine wpList_store_row rfl 60 (.tmp 2) (.tmp 122) rfl w.heap.size (zc ⟨1,N,0,xj⟩).toArray rfl rfl 60 _ HR6.out zx rfl (ze (yL _)) ?_)
     all_goals try omega
     refine bodyPost_ret (zf rfl _ _ w.heap.size 60 _ _ rfl (HR6.out.setRow (zc ⟨1,N,0,xj⟩)) Tryz.underlying60 rfl zx) rfl ?_;exact ⟨⟨_,0,rfl,.inl ⟨rfl,hfin.out⟩⟩,below_setRow HNX6.out (Nat.le_refl _) _⟩
    have hfin:=KZ9 (HD5.out.trans (if_pos rfl));go_wp2_with (first
     | refine wpList_store_row rfl 60 (.tmp 2) (.tmp 120) rfl w.heap.size (zc zk).toArray rfl rfl 60 _ HR6.out zx rfl (ze (yL zk)) ?_)
    all_goals try omega
    refine bodyPost_ret (zf rfl _ _ w.heap.size 60 _ _ rfl (HR6.out.setRow (zc zk)) Tryz.underlying60 rfl zx) rfl ?_;exact ⟨⟨zk,14,rfl,.inr ⟨by decide,rfl,hfin.out⟩⟩,below_setRow HNX6.out (Nat.le_refl _) _⟩
  have hd3:=HD2.out;unfold vk at hd3;rw [←HNM.out,if_pos rfl] at hd3;have hns:=XC (mk q) w2 (by rw [zh];omega);rw [zj] at hns;obtain ⟨⟨v,vok⟩,hv⟩:∃ v,v=xw q:=⟨_,rfl⟩;have hvl:=qP q;rw [←hv] at hns hd3 hvl;simp only at hns hd3 hvl;have HNS:=KZ9 hns;have HD3:=KZ9 hd3;clear hns hd3 hv HD2 HNM;go_wp2_with fail
  all_goals try omega
  refine HNS.out.mono ?_;rintro e w3 ⟨rfl,hb3⟩;have HR3:=KZ9 (HR2.out.below (by omega) hb3);have HNX3:=KZ9 (HALL2.out.trans (hb3.mono (by have:=HALL2.out.size;omega)));clear hb3 HR2 HALL2 HNS;cases vok
  ·have hfin:=KZ9 (HD3.out.trans (if_neg (by simp)));go_wp2_with (first
    | refine wpList_store_row rfl 60 (.tmp 2) (.tmp 84) rfl w.heap.size (zc zk).toArray rfl rfl 60 _ HR3.out zx rfl (ze (yL zk)) ?_)
   all_goals try omega
   refine bodyPost_ret (zf rfl _ _ w.heap.size 60 _ _ rfl (HR3.out.setRow (zc zk)) Tryz.underlying60 rfl zx) rfl ?_;exact ⟨⟨zk,14,rfl,.inr ⟨by decide,rfl,hfin.out⟩⟩,below_setRow HNX3.out (Nat.le_refl _) _⟩
  have hfin:=KZ9 (HD3.out.trans (if_pos rfl));go_wp2_with (first
   | refine wpList_store_row rfl 60 (.tmp 2) (.tmp 86) rfl w.heap.size (zc ⟨2,[],v,xj⟩).toArray rfl rfl 60 _ HR3.out zx rfl (ze (yL _)) ?_)
  all_goals try omega
  refine bodyPost_ret (zf rfl _ _ w.heap.size 60 _ _ rfl (HR3.out.setRow (zc ⟨2,[],v,xj⟩)) Tryz.underlying60 rfl zx) rfl ?_;exact ⟨⟨_,0,rfl,.inl ⟨rfl,hfin.out⟩⟩,below_setRow HNX3.out (Nat.le_refl _) _⟩
 have hd2:=HDEF.out;rw [hpn] at hd2;have hfin:=KZ9 hd2;clear hd2 hpn HDEF;go_wp2_with (first
  | refine wpList_store_row rfl 60 (.tmp 2) (.tmp 59) rfl w.heap.size (zc zk).toArray rfl rfl 60 _ HR1.out zx rfl (ze (yL zk)) ?_)
 all_goals try omega
 refine bodyPost_ret (zf rfl _ _ w.heap.size 60 _ _ rfl (HR1.out.setRow (zc zk)) Tryz.underlying60 rfl zx) rfl ?_;exact ⟨⟨zk,14,rfl,.inr ⟨by decide,rfl,hfin.out⟩⟩,below_setRow HALL1.out (Nat.le_refl _) _⟩
theorem TU (s:ByteArray) (w:World) (hs:s.size≤1000000):Calls Tryz.prog 94 #[.string s] w (tk (yY (un s)) w.heap.size w):=by
 by_cases h1:1024<s.size
 ·exact VF s w h1 hs
 by_cases hb:(un s).head? =some 91
 ·exact VE s w (by omega) hb
 exact VD s w (by omega) hb
end Go.Proofs.YtjbciamhhfcdoaaGreatDoor
namespace Hs
open Go
theorem SD (R:Nat) (h:128≤R) (h1:R≤1114111):2≤(Utf8.encode (R:Int)).size∧(Utf8.encode (R:Int)).size≤4∧∀ j (hj:j<(Utf8.encode (R:Int)).size),j+1=(Utf8.encode (R:Int)).size→128≤((Utf8.encode (R:Int))[j]).toNat:=by
 have key:∀ c:Nat,128≤c→c≤1114111→∀ E:ByteArray,E=(if c<0x80 then ⟨#[UInt8.ofNat c]⟩
   else if c<0x800 then ⟨#[UInt8.ofNat (0xC0+c / 64),UInt8.ofNat (0x80+c % 64)]⟩
   else if c<0x10000 then ⟨#[UInt8.ofNat (0xE0+c / 4096),UInt8.ofNat (0x80+c / 64 % 64),UInt8.ofNat (0x80+c % 64)]⟩
   else ⟨#[UInt8.ofNat (0xF0+c / 262144),UInt8.ofNat (0x80+c / 4096 % 64),UInt8.ofNat (0x80+c / 64 % 64),UInt8.ofNat (0x80+c % 64)]⟩) →
   2≤E.size∧E.size≤4∧∀ j (hj:j<E.size),j+1=E.size→128≤E[j].toNat:=by
  intro c hc hc2 E hE;have hl:128≤(UInt8.ofNat (0x80+c % 64)).toNat:=by rw [UInt8.toNat_ofNat'];omega
  rw [if_neg (by omega)] at hE;by_cases h2:c<0x800
  ·rw [if_pos h2] at hE;subst hE;refine ⟨(by show 2≤2;decide),(by show 2≤4;decide),fun j hj e=> ?_⟩;obtain rfl:j=1:=by have:j+1=2:=e;omega
   exact hl
  rw [if_neg h2] at hE;by_cases h3:c<0x10000
  ·rw [if_pos h3] at hE;subst hE;refine ⟨(by show 2≤3;decide),(by show 3≤4;decide),fun j hj e=> ?_⟩;obtain rfl:j=2:=by have:j+1=3:=e;omega
   exact hl
  rw [if_neg h3] at hE;subst hE;refine ⟨(by show 2≤4;decide),(by show 4≤4;decide),fun j hj e=> ?_⟩;obtain rfl:j=3:=by have:j+1=4:=e;omega
  exact hl
 refine key (if Utf8.valid (R:Int)=true then ((R:Int)).toNat else Utf8.runeError) ?_ ?_ _ rfl
 ·split
  ·omega
  decide
 split
 ·omega
 decide
end Hs
namespace Go.Proofs.YtjbciamhhfcdoaaGreatDoor
open Go.RowKit Hs
theorem JO (pos:Nat) (h:pos<3):(Utf8.decode ⟨#[47,63,35]⟩ pos).2=1∧(Utf8.decode ⟨#[47,63,35]⟩ pos).1<128:=by
 match pos,h with
 | 0,_=>decide
 | 1,_=>decide
 | 2,_=>decide
set_option maxRecDepth 20000
set_option maxHeartbeats 4000000
theorem js (S:ByteArray) (h3:S.size=3) (hS:∀ b∈un S,b.toNat<128) (R:Nat) (w:World) (h:128≤R) (h1:R≤1114111) (hv:R<55296∨57343<R) (he:R≠65533):Calls Tryz.prog 169 #[.string S,.int .i32 (R:Int)] w fun e w'=>e= .returned (.int .i64 (-1))∧Below w.heap.size w w':=by
 have g1:decide ((R:Int)<128)=false:=KZ8 (by omega);have g2:((R:Int)==65533)=false:=by simp;omega
 have hvr:=Tryz.utf8_ValidRune (R:Int) w;have hvt:Lib.validRune (R:Int)=true:=by unfold Lib.validRune;simp;omega
 rw [hvt] at hvr;obtain ⟨e1,e2,e3⟩:=SD R h h1;obtain ⟨E,hE⟩:∃ E,Utf8.encode (R:Int)=E:=⟨_,rfl⟩;rw [hE] at e1 e2;simp only [hE] at e3;obtain ⟨n,hn⟩:=KZ6 E.size;have hb:128≤(E[n - 1]'(by omega)).toNat:=e3 (n - 1) (by omega) (by omega);have hsI:(S.size:Int)=3:=by omega
 have HVR:=KZ9 hvr;obtain ⟨c,hc⟩:∃ c,c=E[n - 1]'(by omega):=⟨_,rfl⟩;rw [←hc] at hb;clear hvr hvt;rcases (show n=2∨n=3∨n=4 by omega) with rfl | rfl | rfl
 ·have hnI:(E.size:Int)=((2:Nat):Int):=by omega
  have hcast:((2:Nat):Int) - 1=1:=rfl;have hEs:E.size=2:=by omega
  have hx:E[1]'(by rw [hEs];decide)=c:=by rw [hc]
  have hs1:(S[1]'(by omega)).toNat<128:=hS _ (by rw [←zL S 1 (by omega)];exact List.getElem_mem _);have g4:((((S[1]'(by omega)).toNat:Nat):Int) != (c.toNat:Int))=true:=by simp;omega
  obtain ⟨T,hT⟩:∃ T,S.extract 2 3=T:=⟨_,rfl⟩;have hib:=fun W=>wJ T c W;rw [uJ c (un T) (fun b hb e=>by
   rw [←hT,xk] at hb;have:=hS b (List.mem_of_mem_drop (List.mem_of_mem_take hb));rw [e] at this;omega)] at hib
  have HIB:=KZ9 hib;clear hib hc hb hs1 e3 hn;go_enter Tryz.func169,Tryz.ntmps169
  go_wp2_with fail
  all_goals try omega
  refine HVR.out.mono ?_;rintro e w1 ⟨rfl,rfl⟩;go_wp2
  all_goals try omega
  go_step3;go_wp2
  all_goals try omega
  go_loopw [9,10] (fun iv fv wr=>iv= .int .i64 1∧fv= .int .i64 0∧Below w1.heap.size w1 wr) (fun _ _ _=>1)
  case atStart=>exact ⟨by first | rfl | simp,rfl,Below.refl _ _⟩
  case round =>
   obtain ⟨rfl,rfl,hbw⟩:=hrel;go_wp2_with fail
   all_goals try omega
   go_step3;go_wp2;go_quiet (fail)
   have hbq:=below_drewN hbw nq;obtain ⟨wq,hwq⟩:=KZ6 (wr.drewN nq);rw [←hwq] at hbq ⊢;clear hbw hwq;go_wp2
   all_goals try omega
   refine wp_region_quiet_lit (by kernel_rfl) (by kernel_rfl) ?_;repeat (go_big_quiet_step (fail))
   go_big_quiet_want
   go_big_quiet_op
   apply Exists.intro;refine ⟨fun _=> ?_,?_⟩
   ·exact Calls.quiet_of_same ((HIB.out _).mono (fun _ _ h=>⟨h.1,h.2.symm⟩))
   go_big_quiet_on
   repeat (go_big_quiet_step (fail))
   refine wpQuiet_nil ?_;intro _ hw';obtain ⟨nq2,hw''⟩:=hw';subst hw'';go_wp2
   all_goals try omega
   simp +zetaDelta only [Exit.noGoto,Exit.then,Exit.inBlock];go_ret;exact ⟨rfl,below_drewN hbq _⟩
 ·have hnI:(E.size:Int)=((3:Nat):Int):=by omega
  have hcast:((3:Nat):Int) - 1=2:=rfl;have hEs:E.size=3:=by omega
  have hx:E[2]'(by rw [hEs];decide)=c:=by rw [hc]
  have hs1:(S[2]'(by omega)).toNat<128:=hS _ (by rw [←zL S 2 (by omega)];exact List.getElem_mem _);have g4:((((S[2]'(by omega)).toNat:Nat):Int) != (c.toNat:Int))=true:=by simp;omega
  have hib:=fun W=>wJ ByteArray.empty c W;rw [show Lib.indexByte (un ByteArray.empty) c= -1 from rfl] at hib;have HIB:=KZ9 hib;clear hib hc hb hs1 e3 hn;go_enter Tryz.func169,Tryz.ntmps169
  go_wp2_with fail
  all_goals try omega
  refine HVR.out.mono ?_;rintro e w1 ⟨rfl,rfl⟩;go_wp2
  all_goals try omega
  go_step3;go_wp2
  all_goals try omega
  go_loopw [9,10] (fun iv fv wr=>iv= .int .i64 2∧fv= .int .i64 0∧Below w1.heap.size w1 wr) (fun _ _ _=>1)
  case atStart=>exact ⟨by first | rfl | simp,rfl,Below.refl _ _⟩
  case round =>
   obtain ⟨rfl,rfl,hbw⟩:=hrel;go_wp2_with fail
   all_goals try omega
   go_step3;go_wp2;go_quiet (fail)
   have hbq:=below_drewN hbw nq;obtain ⟨wq,hwq⟩:=KZ6 (wr.drewN nq);rw [←hwq] at hbq ⊢;clear hbw hwq;go_wp2
   all_goals try omega
   refine wp_region_quiet_lit (by kernel_rfl) (by kernel_rfl) ?_;repeat (go_big_quiet_step (fail))
   go_big_quiet_want
   go_big_quiet_op
   apply Exists.intro;refine ⟨fun _=> ?_,?_⟩
   ·exact Calls.quiet_of_same ((HIB.out _).mono (fun _ _ h=>⟨h.1,h.2.symm⟩))
   go_big_quiet_on
   repeat (go_big_quiet_step (fail))
   refine wpQuiet_nil ?_;intro _ hw';obtain ⟨nq2,hw''⟩:=hw';subst hw'';go_wp2
   all_goals try omega
   simp +zetaDelta only [Exit.noGoto,Exit.then,Exit.inBlock];go_ret;exact ⟨rfl,below_drewN hbq _⟩
 have hnI:(E.size:Int)=((4:Nat):Int):=by omega
 have hcast:((4:Nat):Int) - 1=3:=rfl;clear hc hb e3 hn;go_enter Tryz.func169,Tryz.ntmps169
 go_wp2_with fail
 all_goals try omega
 refine HVR.out.mono ?_;rintro e w1 ⟨rfl,rfl⟩;go_wp2
 all_goals try omega
 go_step3;go_wp2
 all_goals try omega
 go_loopw [9,10] (fun iv fv wr=>iv= .int .i64 3∧fv= .int .i64 0∧Below w1.heap.size w1 wr) (fun _ _ _=>1)
 case atStart=>exact ⟨by first | rfl | simp,rfl,Below.refl _ _⟩
 case round =>
  obtain ⟨rfl,rfl,hbw⟩:=hrel;go_wp2_with fail
  all_goals try omega
  (try rw [Exit.noGoto_ret])
  go_ret;exact ⟨rfl,hbw⟩
theorem Wj (R:Nat) (w:World) (h:128≤R) (h1:R≤1114111) (hv:R<55296∨57343<R):Calls Tryz.prog 169 #[.string ⟨#[47,63,35]⟩,.int .i32 (R:Int)] w fun e w'=>e= .returned (.int .i64 (-1))∧Below w.heap.size w w':=by
 have g1:decide ((R:Int)<128)=false:=KZ8 (by omega);by_cases he:R=65533
 ·have g2:((R:Int)==65533)=true:=by simp;omega
  go_enter Tryz.func169,Tryz.ntmps169
  go_wp2
  all_goals try omega
  go_loopg [] 3 (fun f wr=>∃ pos:Nat,wr.heap[w.heap.size]? =some (.stringIter ⟨#[47,63,35]⟩ pos)∧Below w.heap.size w wr∧3≤pos+f∧pos≤3)
  case atStart=>exact ⟨0,World.iter_heap w _ 0,(Below.refl _ w).alloc (Nat.le_refl _) _,by omega,by omega⟩
  case round =>
   obtain ⟨pos,hit,hbw,hf,hp3⟩:=hrel;by_cases hp:pos<3
   ·obtain ⟨g',rfl⟩:∃ g',gk=g'+1:=⟨gk - 1,by omega⟩;have hnx:∀ ty,(Instr.next (.pointer (some ⟨w.heap.size,0,none⟩)) true ty).run Tryz.prog wr=_:=fun ty=>Lib.run_next_any_at wr w.heap.size _ pos ty hit (show pos<3 from hp);obtain ⟨d1,d2⟩:=JO pos hp;obtain ⟨r,hr⟩:∃ r,(Utf8.decode ⟨#[47,63,35]⟩ pos).1=r:=⟨_,rfl⟩;rw [d1,hr] at hnx;rw [hr] at d2;have g3:((r:Int)==65533)=false:=by simp;omega
    have hit2:=Lib.iterAt_heap wr w.heap.size _ pos (pos+1) hit;have hbw2:=Lib.below_iterAt hbw (k:=w.heap.size) (Nat.le_refl _) ⟨#[47,63,35]⟩ (pos+1);obtain ⟨W,hWd⟩:∃ W,wr.iterAt w.heap.size ⟨#[47,63,35]⟩ (pos+1)=W:=⟨_,rfl⟩;rw [hWd] at hnx hit2 hbw2;clear hWd hit hbw hr d1;go_wp2
    all_goals try omega
    go_roundg g'
    case measure=>omega
    case rel=>exact ⟨pos+1,hit2,hbw2,by omega,by omega⟩
   have hnx:∀ ty,(Instr.next (.pointer (some ⟨w.heap.size,0,none⟩)) true ty).run Tryz.prog wr=_:=fun ty=>Lib.run_next_end_at wr w.heap.size _ pos ty hit (show ¬ pos<3 from hp);go_wp2
   all_goals try omega
   go_ret;exact ⟨rfl,hbw⟩
 exact js ⟨#[47,63,35]⟩ rfl (by decide) R w h h1 hv he
end Go.Proofs.YtjbciamhhfcdoaaGreatDoor
namespace Hs
open Go
def set3:Bs:=[47,63,35]
theorem SG (n b0 b1 b2 b3:Nat) (h:128≤b0) (h0:b0<256):128≤(Lib.decodeN n b0 b1 b2 b3).1∧((Lib.decodeN n b0 b1 b2 b3).1<55296∨57343<(Lib.decodeN n b0 b1 b2 b3).1)∧(1<(Lib.decodeN n b0 b1 b2 b3).2→128≤b1)∧(2<(Lib.decodeN n b0 b1 b2 b3).2→128≤b2)∧(3<(Lib.decodeN n b0 b1 b2 b3).2→128≤b3)∧(Lib.decodeN n b0 b1 b2 b3).2≤4:=by
 unfold Lib.decodeN;rw [if_neg (by omega)]
 repeat' split
 all_goals (refine ⟨?_,?_,?_,?_,?_,?_⟩<;>simp only<;>omega)
theorem Qo {b:UInt8} {r:Bs} (h:128≤b.toNat):128≤(Lib.decodeL (b::r)).1∧((Lib.decodeL (b::r)).1<55296∨57343<(Lib.decodeL (b::r)).1)∧∀ x∈(b::r).take (Lib.decodeL (b::r)).2,128≤x.toNat:=by
 rw [Lib.decodeL_N];obtain ⟨h1,h2,h3,h4,h5,h6⟩:=SG (b::r).length ((b::r).getD 0 0).toNat ((b::r).getD 1 0).toNat ((b::r).getD 2 0).toNat ((b::r).getD 3 0).toNat h b.toNat_lt;refine ⟨h1,h2,?_⟩;generalize (Lib.decodeN (b::r).length ((b::r).getD 0 0).toNat ((b::r).getD 1 0).toNat ((b::r).getD 2 0).toNat ((b::r).getD 3 0).toNat).2=K at *;intro x hx;obtain ⟨j,hj,rfl⟩:=List.getElem_of_mem hx;rw [List.length_take] at hj;rw [List.getElem_take];have hg:∀ k (hk:k<(b::r).length),(b::r).getD k 0=(b::r)[k]:=fun k hk=>by simp [List.getD,List.getElem?_eq_getElem hk]
 match j,hj with
 | 0,_=>exact h
 | 1,hj=>rw [hg 1 (by omega)] at h3;exact h3 (by omega)
 | 2,hj=>rw [hg 2 (by omega)] at h4;exact h4 (by omega)
 | 3,hj=>rw [hg 3 (by omega)] at h5;exact h5 (by omega)
 | j+4,hj=>omega
def tK (pos:Nat) (i:Int):Int:=if i= -1 then -1 else i+pos
theorem sY:∀ (K:Nat) (l:Bs),(∀ x∈l.take K,set3.contains x=false)→K≤l.length→Lib.indexAny l set3=tK K (Lib.indexAny (l.drop K) set3)
 | 0,l,_,_=>by
  rw [List.drop_zero];unfold tK;split
  ·assumption
  omega
 | K+1,[],_,h=>by simp at h
 | K+1,b::r,h,hl=>by
  have hb:set3.contains b=false:=h b (by simp);have ih:=sY K r (fun x hx=>h x (by rw [List.take_succ_cons];exact List.mem_cons_of_mem _ hx)) (by simpa using hl);have hge:=Lib.indexAny_ge set3 r;have hge2:=Lib.indexAny_ge set3 (r.drop K);have hc:Lib.indexAny (b::r) set3=if Lib.indexAny r set3= -1 then -1 else Lib.indexAny r set3+1:=by
   rw [Lib.indexAny,if_neg (by rw [hb];simp)];by_cases he:Lib.indexAny r set3= -1<;>simp [he]
  rw [hc,ih,List.drop_succ_cons];unfold tK
  repeat' split
  all_goals omega
theorem R6 {x:UInt8} (h:128≤x.toNat):set3.contains x=false:=by
 unfold set3;have h1:x≠47:=by rintro rfl;revert h;decide
 have h2:x≠63:=by rintro rfl;revert h;decide
 have h3:x≠35:=by rintro rfl;revert h;decide
 simp [h1,h2,h3]
theorem JN (b:UInt8):decide (0≤Lib.indexByte [47,63,35] b)=set3.contains b:=by
 by_cases h1:b=47
 ·subst h1;decide
 by_cases h2:b=63
 ·subst h2;decide
 by_cases h3:b=35
 ·subst h3;decide
 have e1:Lib.indexByte [47,63,35] b= -1:=uJ b _ (by
  intro x hx;simp only [List.mem_cons,List.not_mem_nil,or_false] at hx;rcases hx with rfl | rfl | rfl
  ·exact fun e=>h1 e.symm
  ·exact fun e=>h2 e.symm
  exact fun e=>h3 e.symm)
 rw [e1];unfold set3;simp [h1,h2,h3]
theorem ji (a b:Nat) (i:Int) (h: -1≤i):tK a (tK b i)=tK (a+b) i:=by
 unfold tK
 repeat' split
 all_goals omega
end Hs
namespace Go.Proofs.YtjbciamhhfcdoaaGreatDoor
open Go.RowKit Hs
set_option maxRecDepth 20000
set_option maxHeartbeats 4000000
theorem qh (s:ByteArray) (w:World) (hs:s.size≤8):Calls Tryz.prog 107 #[.string s,.string ⟨#[47,63,35]⟩] w fun e w'=>e= .returned (.int .i64 (Lib.indexAny (un s) set3))∧Below w.heap.size w w':=by
 have hlen:(un s).length=s.size:=zb s;obtain ⟨l,hl⟩:=KZ6 (un s);rw [←hl] at hlen ⊢;obtain ⟨X,hX⟩:=KZ6 (Lib.indexAny l set3);have HX:Hid (X=tK 0 (Lib.indexAny (l.drop 0) set3)):=KZ9 (by
  rw [hX,List.drop_zero];unfold tK;split
  ·assumption
  omega)
 rw [←hX];have HL:=KZ9 hl;have HLEN:=KZ9 hlen;have hau:=Tryz.strings_shouldUseASCIISet (s.size:Int) w;have g8:decide ((8:Int)<(s.size:Int))=false:=KZ8 (by omega);have HAU:=KZ9 hau;have HIR:=KZ9 (fun (R:Nat) (W:World)=>Wj R W);have HIA:=KZ9 (fun (r:Int) (W:World)=>Tryz.strings_IndexRune_ascii ⟨#[47,63,35]⟩ r W);clear hX hau hl hlen;go_enter Tryz.func107,Tryz.ntmps107
 go_wp2_with fail
 all_goals try omega
 refine HAU.out.mono ?_;rintro e w1 ⟨rfl,rfl⟩;go_wp2
 all_goals try omega
 go_loopg [] s.size (fun f wr=>∃ pos:Nat,wr.heap[w1.heap.size]? =some (.stringIter s pos)∧Below w1.heap.size w1 wr∧Hid (X=tK pos (Lib.indexAny (l.drop pos) set3))∧s.size≤pos+f∧pos≤s.size)
 case atStart=>exact ⟨0,World.iter_heap w1 _ 0,(Below.refl _ w1).alloc (Nat.le_refl _) _,HX,by omega,by omega⟩
 case round =>
  obtain ⟨pos,hit,hbw,hst,hf,hp3⟩:=hrel;by_cases hp:pos<s.size
  ·obtain ⟨g',rfl⟩:∃ g',gk=g'+1:=⟨gk - 1,by omega⟩;have hnx:∀ ty,(Instr.next (.pointer (some ⟨w1.heap.size,0,none⟩)) true ty).run Tryz.prog wr=_:=fun ty=>Lib.run_next_any_at wr w1.heap.size s pos ty hit hp;have hdl:Lib.decodeL (l.drop pos)=Utf8.decode s pos:=by rw [HL.out];exact Lib.decodeL_drop s pos
   have hpl:pos<l.length:=by rw [HLEN.out];exact hp
   have hdc:l.drop pos=l[pos]::l.drop (pos+1):=List.drop_eq_getElem_cons hpl;obtain ⟨b,hb⟩:=KZ6 (l[pos]);rw [←hb] at hdc;clear hb;by_cases hba:b.toNat<128
   ·have hd1:Utf8.decode s pos=(b.toNat,1):=by rw [←hdl,hdc,Lib.decodeL_ascii _ _ hba]
    rw [hd1] at hnx;simp only [] at hnx;have hir:=HIA.out (b.toNat:Int) (wr.iterAt w1.heap.size s (pos+1)) (by omega) (by omega);have hbb:((b.toNat:Int)).toNat.toUInt8=b:=by simp
    rw [hbb] at hir;have hz:=JN b;have hir:Calls Tryz.prog 169 #[.string ⟨#[47,63,35]⟩,.int .i32 (b.toNat:Int)] (wr.iterAt w1.heap.size s (pos+1)) fun e w'=>e= .returned (.int .i64 (Lib.indexByte [47,63,35] b))∧w'=wr.iterAt w1.heap.size s (pos+1):=hir;obtain ⟨z,hzz⟩:=KZ6 (Lib.indexByte [47,63,35] b);rw [←hzz] at hir hz;have hit2:=Lib.iterAt_heap wr w1.heap.size s pos (pos+1) hit;have hbw2:=Lib.below_iterAt hbw (k:=w1.heap.size) (Nat.le_refl _) s (pos+1);obtain ⟨W,hWd⟩:∃ W,wr.iterAt w1.heap.size s (pos+1)=W:=⟨_,rfl⟩;rw [hWd] at hnx hit2 hbw2 hir;have HIRR:=KZ9 hir;by_cases hct:set3.contains b=true
    ·rw [hct] at hz;have hfin:X=(pos:Int):=by
      rw [hst.out,hdc,Lib.indexAny,if_pos hct];unfold tK;rw [if_neg (by decide)];omega
     have HF:=KZ9 hfin;clear hWd hit hbw hdl hdc hd1 hir hzz hst hfin hbb;go_wp2_with fail
     all_goals try omega
     refine HIRR.out.mono ?_;rintro e w2 ⟨rfl,rfl⟩;go_wp2
     all_goals try omega
     go_ret;exact ⟨by rw [HF.out];rfl,hbw2⟩
    have hct2:set3.contains b=false:=by simpa using hct
    rw [hct2] at hz;have hst2:Hid (X=tK (pos+1) (Lib.indexAny (l.drop (pos+1)) set3)):=KZ9 (by
     rw [hst.out,sY 1 (l.drop pos) (by rw [hdc];intro x hx;simp at hx;rw [hx];exact hct2) (by rw [hdc];simp),List.drop_drop,ji _ _ _ (Lib.indexAny_ge _ _)])
    clear hWd hit hbw hdl hdc hd1 hir hzz hst hbb;go_wp2_with fail
    all_goals try omega
    refine HIRR.out.mono ?_;rintro e w2 ⟨rfl,rfl⟩;go_wp2
    all_goals try omega
    go_roundg g'
    case measure=>omega
    case rel=>exact ⟨pos+1,hit2,hbw2,hst2,by omega,by omega⟩
   have hdh:=Qo (b:=b) (r:=l.drop (pos+1)) (by omega);rw [←hdc] at hdh;have hK:=Lib.decodeL_le (l.drop pos) (by rw [hdc];simp);have hK1:=Lib.decodeL_width (l.drop pos);have hR1:=Lib.decodeL_rune (l.drop pos);rw [List.length_drop,HLEN.out] at hK;have hst2:Hid (X=tK (pos+(Lib.decodeL (l.drop pos)).2) (Lib.indexAny (l.drop (pos+(Lib.decodeL (l.drop pos)).2)) set3)):=KZ9 (by
    rw [hst.out,sY (Lib.decodeL (l.drop pos)).2 (l.drop pos) (fun x hx=>R6 (hdh.2.2 x hx)) (by rw [List.length_drop,HLEN.out];exact hK),List.drop_drop,ji _ _ _ (Lib.indexAny_ge _ _)])
   obtain ⟨h128,hsc,_⟩:=hdh;rw [hdl] at hK hK1 hR1 h128 hsc hst2;obtain ⟨R,hR⟩:∃ R,(Utf8.decode s pos).1=R:=⟨_,rfl⟩;obtain ⟨K,hKK⟩:∃ K,(Utf8.decode s pos).2=K:=⟨_,rfl⟩;rw [hR,hKK] at hnx;rw [hR] at hR1 h128 hsc;rw [hKK] at hK hK1 hst2;have hir:=HIR.out R (wr.iterAt w1.heap.size s (pos+K)) h128 hR1 hsc;have hit2:=Lib.iterAt_heap wr w1.heap.size s pos (pos+K) hit;have hbw2:=Lib.below_iterAt hbw (k:=w1.heap.size) (Nat.le_refl _) s (pos+K);obtain ⟨W,hWd⟩:∃ W,wr.iterAt w1.heap.size s (pos+K)=W:=⟨_,rfl⟩;rw [hWd] at hnx hit2 hbw2 hir;have hltW:w1.heap.size<W.heap.size:=(Array.getElem?_eq_some_iff.1 hit2).1;have HIRR:=KZ9 hir;clear hWd hit hbw hdl hdc hir hst hR hKK;go_wp2_with fail
   all_goals try omega
   refine HIRR.out.mono ?_;rintro e w2 ⟨rfl,hb2⟩;go_wp2
   all_goals try omega
   go_roundg g'
   case measure=>omega
   case rel=>exact ⟨pos+K,(hb2.block _ hltW).trans hit2,hbw2.trans (hb2.mono (by omega)),hst2,by omega,by omega⟩
  have hnx:∀ ty,(Instr.next (.pointer (some ⟨w1.heap.size,0,none⟩)) true ty).run Tryz.prog wr=_:=fun ty=>Lib.run_next_end_at wr w1.heap.size s pos ty hit hp;have hfin:X= -1:=by
   rw [hst.out,List.drop_of_length_le (by rw [HLEN.out];omega)];rfl
  have HF:=KZ9 hfin;clear hst hfin;go_wp2
  all_goals try omega
  go_ret;exact ⟨by rw [HF.out];rfl,hbw⟩
theorem gX (s:ByteArray) (w:World) (hs:s.size≤100000000):Calls Tryz.prog 107 #[.string s,.string ⟨#[47,63,35]⟩] w fun e w'=>e= .returned (.int .i64 (Lib.indexAny (un s) [47,63,35]))∧Below w.heap.size w w':=by
 by_cases h8:s.size≤8
 ·exact qh s w h8
 have hz0:(Tryz.prog.info? 188).map (fun i=>(i.zero,i.size))=some (some (.agg (Array.replicate 256 (.bool false))),256):=by kernel_rfl
 have hz:=(zero_of_info hz0).1;refine (Tryz.strings_IndexAny_long hz s ⟨#[47,63,35]⟩ w (by decide) (by omega) (by omega) (by decide) (fun j b hb=> ?_)).mono ?_
 ·have:=List.mem_of_getElem? hb;simp at this;rcases this with rfl | rfl | rfl<;>decide
 rintro e w' ⟨rfl,rfl⟩;exact ⟨rfl,((Below.refl _ w).alloc (Nat.le_refl _) _).alloc (by simp) _⟩
end Go.Proofs.YtjbciamhhfcdoaaGreatDoor
