/- What the proof of TopDecisionTable uses, part Dec05. -/
import Derived.Test.YtjbciamhhfcdoaaGreatDoorDec04
import Derived.LaidMore
import Derived.Stop.LaidErr
import Derived.Shelf.SlSortCmp.WholeK
import Derived.Lib.AppendIntMem
set_option linter.unusedSimpArgs false
set_option linter.unusedVariables false
namespace Go.Proofs.YtjbciamhhfcdoaaGreatDoor
open Go.RowKit Hs
set_option maxHeartbeats 1500000
theorem Vf (s:ByteArray) (w:World) (hs:s.size≤100000000):Calls Tryz.prog 139 #[.string s] w fun e w'=>∃ v,e= .returned v∧w'.ownsRow w.heap.size 9 1 v (sD (un s)).length (zy (sD (un s)))∧(sD (un s)).length≤s.size+1∧Below w.heap.size w w':=by
 obtain ⟨iS0,iS⟩:=info_parts qY;go_enter Tryz.func139,Tryz.ntmps139
 go_wp2;go_loopw [3,4,5] (fun v f i wr=>∃ (k fr:Nat) (D:List Bs),i= .int .i64 k∧f= .int .i64 fr∧fr≤k∧k≤s.size+1∧D.length≤k∧wr.ownsRow w.heap.size 9 1 v D.length (zy D)∧Below w.heap.size w wr∧Hid (WordsTo (un s) D fr k))
  (fun _ _ i _=>s.size+1 - (intOf i).toNat)
 case atStart=>exact ⟨0,0,[],rfl,rfl,by omega,by omega,by simp,World.ownsRow_nil _ _ _ _,Below.refl _ _,WordsTo.start _⟩
 case round =>
  obtain ⟨k,fr,D,rfl,rfl,hfk,hk,hD,hown,hnx,hwt⟩:=hrel;have hsize:=hnx.size;by_cases hlt:k<s.size
  ·cases hb:wR (s[k]'hlt)
   ·have hch:=KZ9 (hwt.out.char hfk (by rw [zb];omega) hb);clear hwt;go_wp2_with (go_at_call 190;refine (wQ _ _ rfl _).mono ?_;rintro e w' ⟨rfl,rfl⟩)
    go_roundw
    case rel=>exact ⟨k+1,fr,D,by go_num,rfl,by omega,by omega,by omega,hown,hnx,hch⟩
    case measure=>simp [intOf];omega
   have hb':∀ hk':k<(un s).length,wR (un s)[k]=true:=fun _=>hb;have hcut:=KZ9 (hwt.out.cut hfk (by rw [zb];omega) hb');clear hwt hb';by_cases hgt:fr<k
   ·have ex:=KZ9 (yP s fr k);go_wp2_with (first | (at_builtin;refine wpList_append_own _ rfl (.tmp 26) (.tmp 31) 39 rfl (w.heap.size) 9 iS0 (.string ByteArray.empty) 1 16 Tryz.underlying39 iS.1 iS.2.1 iS.2.2.1 iS.2.2.2 rfl (by decide) _ _ _ rfl (hown.alloc _) ⟨wr.heap.size,0,none⟩ 1 1 [_] rfl rfl (cell_one_new _ _ _) (by intro u hu;simp at hu;subst hu;rfl) (by unfold maxLen;omega) (by omega) (by simp;omega) ?_;intro v1 w1 hown1 hgrow1 hnil1) | (go_at_call 190;refine (wQ _ _ rfl _).mono ?_;rintro e w' ⟨rfl,rfl⟩))
    go_roundw
    case rel =>
     refine ⟨k+1,k+1,D++[seg (un s) fr k],by go_num,by go_num,by omega,by omega,by simp;omega,?_,(hnx.alloc (by omega) _).grown hgrow1 (by simp;omega) (fun j hj=>(hown.lt j hj).1),?_⟩
     ·have e:=hown1;rw [ex.out] at e;rw [xF,List.length_append];exact e
     have e:=hcut.out;rw [if_pos hgt] at e;exact e
    case measure=>simp [intOf];omega
   go_wp2_with (go_at_call 190;refine (wQ _ _ rfl _).mono ?_;rintro e w' ⟨rfl,rfl⟩)
   go_roundw
   case rel =>
    refine ⟨k+1,k+1,D,by go_num,by go_num,by omega,by omega,by omega,hown,hnx,?_⟩;have e:=hcut.out;rw [if_neg hgt,List.append_nil] at e;exact e
   case measure=>simp [intOf];omega
  by_cases he:k=s.size
  ·have he':(k:Int)≤(s.size:Int):=by omega
   have hlt':¬ ((k:Int)<(s.size:Int)):=by omega
   have HE:=KZ9 he;clear he;have hcut:=KZ9 (hwt.out.cut hfk (by rw [zb];omega) (fun hk'=>absurd hk' (by rw [zb];omega)));clear hwt;by_cases hgt:fr<k
   ·have ex:=KZ9 (yP s fr k);go_wp2_with (first | (at_builtin;refine wpList_append_own _ rfl (.tmp 26) (.tmp 31) 39 rfl (w.heap.size) 9 iS0 (.string ByteArray.empty) 1 16 Tryz.underlying39 iS.1 iS.2.1 iS.2.2.1 iS.2.2.2 rfl (by decide) _ _ _ rfl (hown.alloc _) ⟨wr.heap.size,0,none⟩ 1 1 [_] rfl rfl (cell_one_new _ _ _) (by intro u hu;simp at hu;subst hu;rfl) (by unfold maxLen;omega) (by omega) (by simp;omega) ?_;intro v1 w1 hown1 hgrow1 hnil1) | (go_at_call 190;refine (wQ _ _ rfl _).mono ?_;rintro e w' ⟨rfl,rfl⟩))
    go_roundw
    case rel =>
     refine ⟨k+1,k+1,D++[seg (un s) fr k],by go_num,by go_num,by omega,by omega,by simp;omega,?_,(hnx.alloc (by omega) _).grown hgrow1 (by simp;omega) (fun j hj=>(hown.lt j hj).1),?_⟩
     ·have e:=hown1;rw [ex.out] at e;rw [xF,List.length_append];exact e
     have e:=hcut.out;rw [if_pos hgt] at e;exact e
    case measure=>simp [intOf];omega
   go_wp2_with (go_at_call 190;refine (wQ _ _ rfl _).mono ?_;rintro e w' ⟨rfl,rfl⟩)
   go_roundw
   case rel =>
    refine ⟨k+1,k+1,D,by go_num,by go_num,by omega,by omega,by omega,hown,hnx,?_⟩;have e:=hcut.out;rw [if_neg hgt,List.append_nil] at e;exact e
   case measure=>simp [intOf];omega
  obtain rfl:k=s.size+1:=by omega
  have hfin:Hid (D=sD (un s)):=hwt.out.2 (by rw [zb]);clear hwt he;go_wp2;go_ret;have e:=hfin.out;subst e;exact ⟨_,rfl,hown,hD,hnx⟩
theorem Yv (s:ByteArray) (w:World) (hs:s.size≤100000000):Calls Tryz.prog 63 #[.string s] w fun e w'=>e= .returned (.bool (tu (un s)))∧w=w':=by
  go_enter Tryz.func63,Tryz.ntmps63
  go_wp2;go_loop [3] (fun i=>∃ k:Nat,i= .int .i64 k∧k≤s.size∧Hid ((un s).all zI=((un s).drop k).all zI)) (fun i=>s.size - (intOf i).toNat)
  case atStart=>exact ⟨0,rfl,by omega,rfl⟩
  case round =>
    obtain ⟨k,rfl,hk,ha⟩:=hrel;by_cases hlt:k<s.size
    · cases hb:zI (s[k]'hlt)
      · have hno:Hid (false=tu (un s)):=by
          have e1:=ha.out;unfold tu;rw [e1,zQ (un s) zI k (by rw [zb];omega) false hb];simp [Hid]
        have hb2:=hb;simp only [zI,decide_eq_false_iff_not] at hb2;go_wp2
        all_goals
          first
          | (go_ret
             exact ⟨uD hno.out,rfl⟩)
          | (exfalso;omega)
      · have hyes:Hid ((un s).all zI=((un s).drop (k+1)).all zI):=by
          have e1:=ha.out;rw [e1,zQ (un s) zI k (by rw [zb];omega) true hb];simp [Hid]
        have hb2:=hb;simp only [zI,decide_eq_true_eq] at hb2;go_wp2
        all_goals
          first
          | (exfalso;omega)
          | (go_round
             case rel=>exact ⟨k+1,by go_num,by omega,hyes⟩
             case measure=>simp [intOf];omega)
    · obtain rfl:k=s.size:=by omega
      have hfin:Hid ((un s).all zI=true):=by
        have e1:=ha.out;rw [List.drop_eq_nil_of_le (by rw [zb];omega)] at e1;exact e1
      clear ha;go_wp2;go_ret;exact ⟨uD (by unfold tu;rw [hfin.out,zl];simp),rfl⟩
theorem Uc (n:Int) (v:Value) (l:List Bs) (w:World) (hv:Strs w v l) (hs:∀ t∈l,t.length≤maxLen):Calls Tryz.prog 6 #[.int .i64 n,v] w fun e w'=>e= .returned (.bool (l.all fun t=>decide ((t.length:Int)≤n)))∧w=w':=by
 obtain ⟨a,cap,rfl,hn,hm,hc⟩:=hv.open;unfold maxLen at hm;have HC:=KZ9 hc;have HS:=KZ9 hs;clear hc hs hv;go_enter Tryz.func6,Tryz.ntmps6
 go_wp2;go_loop [5] (fun i=>∃ k:Nat,i= .int .i64 k∧k≤l.length∧Hid ((l.all fun t=>decide ((t.length:Int)≤n))=((l.drop k).all fun t=>decide ((t.length:Int)≤n)))) (fun i=>l.length - (intOf i).toNat)
 case atStart=>exact ⟨0,rfl,by omega,rfl⟩
 case round =>
  obtain ⟨k,rfl,hk,ha⟩:=hrel;by_cases hlt:k<l.length
  ·obtain ⟨b,off,rfl,_,hcell⟩:=HC.out (by omega);have hk':=hcell k hlt;clear hcell;have hsz:(mk l[k]).size≤9223372036854775807:=by have:=HS.out l[k] (List.getElem_mem hlt);rw [zh];simpa [maxLen] using this
   obtain ⟨t,ht⟩:=KZ6 (l[k]);rw [←ht] at hk' hsz;have hd:Hid ((l.drop k).all (fun t=>decide ((t.length:Int)≤n))=(decide ((t.length:Int)≤n)&&(l.drop (k+1)).all fun t=>decide ((t.length:Int)≤n))):=by
    rw [ht,List.drop_eq_getElem_cons hlt,List.all_cons];rfl
   have hz:(mk t).size=t.length:=zh t;clear ht;go_wp2
   ·go_ret;refine ⟨uD ?_,rfl⟩;rw [ha.out,hd.out,KZ8 (by omega)];rfl
   go_round
   case rel =>
    refine ⟨k+1,by go_num,by omega,?_⟩;have e1:=ha.out;rw [hd.out,KZ7 (by omega),Bool.true_and] at e1;exact e1
   case measure=>simp [intOf];omega
  obtain rfl:k=l.length:=by omega
  have hfin:Hid ((l.all fun t=>decide ((t.length:Int)≤n))=true):=by
   have e1:=ha.out;rw [List.drop_length] at e1;exact e1
  go_wp2;go_ret;exact ⟨uD hfin.out.symm,rfl⟩
theorem R3 (s:ByteArray) (w:World) (hs:s.size≤100000000):Calls Tryz.prog 123 #[.string s] w fun e w'=>e= .returned (.bool (vq (un s)))∧w=w':=by
 have e:vq (un s)=(Lib.hasPrefix s.data.toList [48,120]||Lib.hasPrefix s.data.toList [48,88]):=by
  show vq (un s)=(Lib.hasPrefix (un s) [48,120]||Lib.hasPrefix (un s) [48,88])
  match un s with
  | []=>rfl
  | [a]=>simp [vq,Lib.hasPrefix,List.isPrefixOf]
  | a::b::r =>
   rw [Bool.eq_iff_iff];simp [vq,Lib.hasPrefix];constructor
   ·rintro ⟨rfl,rfl | rfl⟩<;>simp
   rintro (⟨rfl,rfl⟩ | ⟨rfl,rfl⟩)<;>simp
 rw [e];have c1:=fun w=>Tryz.strings_HasPrefix s ({ data:=#[48,120] }:ByteArray) w;have c2:=fun w=>Tryz.strings_HasPrefix s ({ data:=#[48,88] }:ByteArray) w;simp only [List.toList_toArray] at c1 c2;generalize Lib.hasPrefix s.data.toList [48,120]=p at c1 ⊢;generalize Lib.hasPrefix s.data.toList [48,88]=q at c2 ⊢;have C1:=KZ9 c1;have C2:=KZ9 c2;clear c1 c2 e;cases p
 ·go_enter Tryz.func123,Tryz.ntmps123
  go_wp2_with fail
  refine (C1.out _).mono ?_;rintro e w1 ⟨rfl,rfl⟩;go_wp2_with fail
  refine (C2.out _).mono ?_;rintro e w1 ⟨rfl,rfl⟩;go_wp2_with fail
  go_ret;exact ⟨rfl,rfl⟩
 go_enter Tryz.func123,Tryz.ntmps123
 go_wp2_with fail
 refine (C1.out _).mono ?_;rintro e w1 ⟨rfl,rfl⟩;go_wp2_with fail
 go_ret;exact ⟨rfl,rfl⟩
theorem uz (b:UInt8):((48:Int)≤(b.toNat:Int)∧(b.toNat:Int)≤57∧yD b=b.toNat - 48)∨((97:Int)≤(b.toNat:Int)∧(b.toNat:Int)≤102∧yD b=b.toNat - 87)∨((65:Int)≤(b.toNat:Int)∧(b.toNat:Int)≤70∧yD b=b.toNat - 55)∨(((b.toNat:Int)<48∨57<(b.toNat:Int))∧((b.toNat:Int)<97∨102<(b.toNat:Int))∧((b.toNat:Int)<65∨70<(b.toNat:Int))∧yD b=99):=by
 unfold yD;by_cases h1:48≤b.toNat∧b.toNat≤57
 ·rw [if_pos h1];omega
 rw [if_neg h1];by_cases h2:97≤b.toNat∧b.toNat≤102
 ·rw [if_pos h2];omega
 rw [if_neg h2];by_cases h3:65≤b.toNat∧b.toNat≤70
 ·rw [if_pos h3];omega
 rw [if_neg h3];omega
set_option maxHeartbeats 1600000
theorem sZ (s:ByteArray) (w:World) (hs:s.size≤100000000):Calls Tryz.prog 125 #[.string s,.int .i64 10] w fun e w'=>e= .returned (.tuple #[.int .i64 (yz 10 (un s)).1,.bool (yz 10 (un s)).2])∧w=w':=by
 go_enter Tryz.func125,Tryz.ntmps125
 go_wp2;go_loop [6,12] (fun nv iv=>∃ k:Nat,iv= .int .i64 k∧k≤s.size∧nv= .int .i64 (yO 10 ((un s).take k) 0)∧yO 10 ((un s).take k) 0≤1099511627776∧Hid (zR 10 (un s)=zR 10 ((un s).drop k))) (fun _ iv=>s.size - (intOf iv).toNat)
 case atStart=>exact ⟨0,rfl,by omega,rfl,by simp [yO],rfl⟩
 case round =>
  obtain ⟨k,rfl,hk,rfl,hle,ha⟩:=hrel;by_cases hlt:k<s.size
  ·have hlu:k<(un s).length:=by rw [zb];exact hlt
   have hst:=KZ9 (wY 10 (un s) k hlu);have hx:=(s[k]'hlt).toNat_lt;have hnx:Hid (yD (s[k]'hlt)<10→zR 10 (un s)=zR 10 ((un s).drop (k+1))):=by
    intro h;have e:=ha.out;rw [zR,zR,zQ (un s) _ k hlu true (KZ7 h)] at e;exact e
   have hno:Hid (¬ yD (s[k]'hlt)<10→yz 10 (un s)=(0,false)):=by
    intro h;have e:zR 10 (un s)=false:=by rw [ha.out];unfold zR;rw [zQ (un s) _ k hlu false (KZ8 h)];rfl
    exact if_neg (by simp [e])
   clear ha;obtain ⟨v,hv⟩:=KZ6 (yO 10 ((un s).take k) 0);rw [←hv] at hle hst ⊢;clear hv;have hdc:=uz (s[k]'hlt);obtain ⟨q,hq⟩:=KZ6 (yD (s[k]'hlt));rw [←hq] at hdc hnx hno;have hst':Hid (yO 10 ((un s).take (k+1)) 0=min (v*10+q) 1099511627776):=by rw [hq];exact hst.out
   clear hst hq;by_cases hqb:q<10
   ·have HN:=KZ9 (hnx.out hqb);clear hnx hno;rcases hdc with ⟨h1,h2,h3⟩ | ⟨h1,h2,h3⟩ | ⟨h1,h2,h3⟩ | ⟨h1,h2,h3,h4⟩
    all_goals try omega
    all_goals
     go_wp2
     all_goals try omega
     go_round
     case rel =>
      refine ⟨k+1,by go_num,by omega,?_,by rw [hst'.out];omega,HN⟩;rw [hst'.out]
      congr 1
      omega
     case measure=>simp [intOf];omega
   have HN:=KZ9 (hno.out hqb);clear hnx hno;rcases hdc with ⟨h1,h2,h3⟩ | ⟨h1,h2,h3⟩ | ⟨h1,h2,h3⟩ | ⟨h1,h2,h3,h4⟩
   all_goals try omega
   all_goals
    go_wp2
    all_goals try omega
    all_goals
     go_ret2;exact ⟨by rw [HN.out];rfl,rfl⟩
  obtain rfl:k=s.size:=by omega
  have htk:(un s).take s.size=un s:=List.take_of_length_le (by rw [zb];exact Nat.le_refl _);have hfin:Hid (yz 10 (un s)=(yO 10 (un s) 0,true)):=by
   have e:zR 10 (un s)=true:=by rw [ha.out,List.drop_eq_nil_of_le (by rw [zb];exact Nat.le_refl _)];rfl
   exact if_pos e
  clear ha;rw [htk] at hle ⊢;go_wp2
  all_goals try omega
  go_ret2;exact ⟨by rw [hfin.out];rfl,rfl⟩
theorem Ui (s:ByteArray) (w:World) (hs:s.size≤100000000):Calls Tryz.prog 125 #[.string s,.int .i64 8] w fun e w'=>e= .returned (.tuple #[.int .i64 (yz 8 (un s)).1,.bool (yz 8 (un s)).2])∧w=w':=by
 go_enter Tryz.func125,Tryz.ntmps125
 go_wp2;go_loop [6,12] (fun nv iv=>∃ k:Nat,iv= .int .i64 k∧k≤s.size∧nv= .int .i64 (yO 8 ((un s).take k) 0)∧yO 8 ((un s).take k) 0≤1099511627776∧Hid (zR 8 (un s)=zR 8 ((un s).drop k))) (fun _ iv=>s.size - (intOf iv).toNat)
 case atStart=>exact ⟨0,rfl,by omega,rfl,by simp [yO],rfl⟩
 case round =>
  obtain ⟨k,rfl,hk,rfl,hle,ha⟩:=hrel;by_cases hlt:k<s.size
  ·have hlu:k<(un s).length:=by rw [zb];exact hlt
   have hst:=KZ9 (wY 8 (un s) k hlu);have hx:=(s[k]'hlt).toNat_lt;have hnx:Hid (yD (s[k]'hlt)<8→zR 8 (un s)=zR 8 ((un s).drop (k+1))):=by
    intro h;have e:=ha.out;rw [zR,zR,zQ (un s) _ k hlu true (KZ7 h)] at e;exact e
   have hno:Hid (¬ yD (s[k]'hlt)<8→yz 8 (un s)=(0,false)):=by
    intro h;have e:zR 8 (un s)=false:=by rw [ha.out];unfold zR;rw [zQ (un s) _ k hlu false (KZ8 h)];rfl
    exact if_neg (by simp [e])
   clear ha;obtain ⟨v,hv⟩:=KZ6 (yO 8 ((un s).take k) 0);rw [←hv] at hle hst ⊢;clear hv;have hdc:=uz (s[k]'hlt);obtain ⟨q,hq⟩:=KZ6 (yD (s[k]'hlt));rw [←hq] at hdc hnx hno;have hst':Hid (yO 8 ((un s).take (k+1)) 0=min (v*8+q) 1099511627776):=by rw [hq];exact hst.out
   clear hst hq;by_cases hqb:q<8
   ·have HN:=KZ9 (hnx.out hqb);clear hnx hno;rcases hdc with ⟨h1,h2,h3⟩ | ⟨h1,h2,h3⟩ | ⟨h1,h2,h3⟩ | ⟨h1,h2,h3,h4⟩
    all_goals try omega
    all_goals
     go_wp2
     all_goals try omega
     go_round
     case rel =>
      refine ⟨k+1,by go_num,by omega,?_,by rw [hst'.out];omega,HN⟩;rw [hst'.out]
      congr 1
      omega
     case measure=>simp [intOf];omega
   have HN:=KZ9 (hno.out hqb);clear hnx hno;rcases hdc with ⟨h1,h2,h3⟩ | ⟨h1,h2,h3⟩ | ⟨h1,h2,h3⟩ | ⟨h1,h2,h3,h4⟩
   all_goals try omega
   all_goals
    go_wp2
    all_goals try omega
    all_goals
     go_ret2;exact ⟨by rw [HN.out];rfl,rfl⟩
  obtain rfl:k=s.size:=by omega
  have htk:(un s).take s.size=un s:=List.take_of_length_le (by rw [zb];exact Nat.le_refl _);have hfin:Hid (yz 8 (un s)=(yO 8 (un s) 0,true)):=by
   have e:zR 8 (un s)=true:=by rw [ha.out,List.drop_eq_nil_of_le (by rw [zb];exact Nat.le_refl _)];rfl
   exact if_pos e
  clear ha;rw [htk] at hle ⊢;go_wp2
  all_goals try omega
  go_ret2;exact ⟨by rw [hfin.out];rfl,rfl⟩
theorem Wp (s:ByteArray) (w:World) (hs:s.size≤100000000):Calls Tryz.prog 125 #[.string s,.int .i64 16] w fun e w'=>e= .returned (.tuple #[.int .i64 (yz 16 (un s)).1,.bool (yz 16 (un s)).2])∧w=w':=by
 go_enter Tryz.func125,Tryz.ntmps125
 go_wp2;go_loop [6,12] (fun nv iv=>∃ k:Nat,iv= .int .i64 k∧k≤s.size∧nv= .int .i64 (yO 16 ((un s).take k) 0)∧yO 16 ((un s).take k) 0≤1099511627776∧Hid (zR 16 (un s)=zR 16 ((un s).drop k))) (fun _ iv=>s.size - (intOf iv).toNat)
 case atStart=>exact ⟨0,rfl,by omega,rfl,by simp [yO],rfl⟩
 case round =>
  obtain ⟨k,rfl,hk,rfl,hle,ha⟩:=hrel;by_cases hlt:k<s.size
  ·have hlu:k<(un s).length:=by rw [zb];exact hlt
   have hst:=KZ9 (wY 16 (un s) k hlu);have hx:=(s[k]'hlt).toNat_lt;have hnx:Hid (yD (s[k]'hlt)<16→zR 16 (un s)=zR 16 ((un s).drop (k+1))):=by
    intro h;have e:=ha.out;rw [zR,zR,zQ (un s) _ k hlu true (KZ7 h)] at e;exact e
   have hno:Hid (¬ yD (s[k]'hlt)<16→yz 16 (un s)=(0,false)):=by
    intro h;have e:zR 16 (un s)=false:=by rw [ha.out];unfold zR;rw [zQ (un s) _ k hlu false (KZ8 h)];rfl
    exact if_neg (by simp [e])
   clear ha;obtain ⟨v,hv⟩:=KZ6 (yO 16 ((un s).take k) 0);rw [←hv] at hle hst ⊢;clear hv;have hdc:=uz (s[k]'hlt);obtain ⟨q,hq⟩:=KZ6 (yD (s[k]'hlt));rw [←hq] at hdc hnx hno;have hst':Hid (yO 16 ((un s).take (k+1)) 0=min (v*16+q) 1099511627776):=by rw [hq];exact hst.out
   clear hst hq;by_cases hqb:q<16
   ·have HN:=KZ9 (hnx.out hqb);clear hnx hno;rcases hdc with ⟨h1,h2,h3⟩ | ⟨h1,h2,h3⟩ | ⟨h1,h2,h3⟩ | ⟨h1,h2,h3,h4⟩
    all_goals try omega
    all_goals
     go_wp2
     all_goals try omega
     go_round
     case rel =>
      refine ⟨k+1,by go_num,by omega,?_,by rw [hst'.out];omega,HN⟩;rw [hst'.out]
      congr 1
      omega
     case measure=>simp [intOf];omega
   have HN:=KZ9 (hno.out hqb);clear hnx hno;rcases hdc with ⟨h1,h2,h3⟩ | ⟨h1,h2,h3⟩ | ⟨h1,h2,h3⟩ | ⟨h1,h2,h3,h4⟩
   all_goals try omega
   all_goals
    go_wp2
    all_goals try omega
    all_goals
     go_ret2;exact ⟨by rw [HN.out];rfl,rfl⟩
  obtain rfl:k=s.size:=by omega
  have htk:(un s).take s.size=un s:=List.take_of_length_le (by rw [zb];exact Nat.le_refl _);have hfin:Hid (yz 16 (un s)=(yO 16 (un s) 0,true)):=by
   have e:zR 16 (un s)=true:=by rw [ha.out,List.drop_eq_nil_of_le (by rw [zb];exact Nat.le_refl _)];rfl
   exact if_pos e
  clear ha;rw [htk] at hle ⊢;go_wp2
  all_goals try omega
  go_ret2;exact ⟨by rw [hfin.out];rfl,rfl⟩
theorem jw (s:ByteArray) (k:Nat):un (s.extract k s.size)=(un s).drop k:=by
 rw [xk,List.take_of_length_le (by rw [List.length_drop,zb];omega)]
theorem tL (s:ByteArray) (w:World) (hs:s.size≤100000000):Calls Tryz.prog 124 #[.string s] w fun e w'=>e= .returned (.tuple #[.int .i64 (zr (un s)).1,.bool (zr (un s)).2])∧w=w':=by
 have c16:=fun w=>Wp (s.extract 2 s.size) w (by rw [ByteArray.size_extract];omega);have c8:=fun w=>Ui (s.extract 1 s.size) w (by rw [ByteArray.size_extract];omega);have c10:=fun w=>sZ s w hs;have ch:=fun w=>R3 s w hs;simp only [jw] at c16 c8;have hlen:s.size=(un s).length:=(zb s).symm;cases he:(un s).isEmpty
 ·have h1:s.toList.isEmpty=false:=by rw [zl];exact he
  have hne:un s≠[]:=fun e=>by rw [e] at he;cases he
  have hpos:0<s.size:=by rw [hlen];exact List.length_pos_iff.2 hne
  cases hx:vq (un s)
  ·rw [hx] at ch;by_cases h8:1<s.size∧(un s)[0]? =some 48
   ·have ep:zr (un s)=yz 8 ((un s).drop 1):=by
     unfold zr;rw [if_neg hne,hx,if_neg (by decide),if_pos (by rw [←hlen];exact h8)]
    rw [ep];have h0:(s[0]'hpos).toNat=48:=by
     have:=h8.2;rw [List.getElem?_eq_getElem (by rw [←hlen];exact hpos)] at this;have h:=Option.some.inj this;show ((un s)[0]'(by rw [←hlen];exact hpos)).toNat=48;rw [h];rfl
    have hgt:=h8.1;have C8:=KZ9 c8;have CH:=KZ9 ch;clear c16 c8 c10 ch he hne hx h8 ep hlen;go_enter Tryz.func124,Tryz.ntmps124
    go_wp2_with fail
    refine (CH.out _).mono ?_;rintro e w1 ⟨rfl,rfl⟩;go_wp2_with fail
    all_goals try omega
    refine (C8.out _).mono ?_;rintro e w1 ⟨rfl,rfl⟩;go_wp2_with fail
    go_ret2;exact ⟨by rw [List.drop_one];rfl,rfl⟩
   have ep:zr (un s)=yz 10 (un s):=by
    unfold zr;rw [if_neg hne,hx,if_neg (by decide),if_neg (by rw [←hlen];exact h8)]
   rw [ep];have h0:1<s.size→(s[0]'hpos).toNat≠48:=by
    intro hgt h;refine h8 ⟨hgt,?_⟩;rw [List.getElem?_eq_getElem (by rw [←hlen];exact hpos)]
    congr 1
    exact UInt8.toNat_inj.1 h
   have C10:=KZ9 c10;have CH:=KZ9 ch;clear c16 c8 c10 ch he hne hx h8 ep hlen;by_cases hgt:1<s.size
   ·have h0':=h0 hgt;clear h0;go_enter Tryz.func124,Tryz.ntmps124
    go_wp2_with fail
    refine (CH.out _).mono ?_;rintro e w1 ⟨rfl,rfl⟩;go_wp2_with fail
    all_goals try omega
    refine (C10.out _).mono ?_;rintro e w1 ⟨rfl,rfl⟩;go_wp2_with fail
    go_ret2;exact ⟨rfl,rfl⟩
   clear h0;go_enter Tryz.func124,Tryz.ntmps124
   go_wp2_with fail
   refine (CH.out _).mono ?_;rintro e w1 ⟨rfl,rfl⟩;go_wp2_with fail
   refine (C10.out _).mono ?_;rintro e w1 ⟨rfl,rfl⟩;go_wp2_with fail
   go_ret2;exact ⟨rfl,rfl⟩
  rw [hx] at ch;have ep:zr (un s)=yz 16 ((un s).drop 2):=by
   unfold zr;rw [if_neg hne,hx,if_pos rfl]
  rw [ep];have hgt:2≤s.size:=by
   rw [hlen]
   match h:un s,hx with
   | a::b::r,_=>simp
  have C16:=KZ9 c16;have CH:=KZ9 ch;clear c16 c8 c10 ch he hne hx ep hlen;go_enter Tryz.func124,Tryz.ntmps124
  go_wp2_with fail
  refine (CH.out _).mono ?_;rintro e w1 ⟨rfl,rfl⟩;go_wp2_with fail
  refine (C16.out _).mono ?_;rintro e w1 ⟨rfl,rfl⟩;go_wp2_with fail
  go_ret2;exact ⟨rfl,rfl⟩
 have h1:s.toList.isEmpty=true:=by rw [zl];exact he
 have ep:zr (un s)=(0,false):=by unfold zr;rw [if_pos (by simpa using he)]
 rw [ep];clear c16 c8 c10 ch ep hlen he;go_enter Tryz.func124,Tryz.ntmps124
 go_wp2;go_ret2;exact ⟨rfl,rfl⟩
def U8 (w:World):Prop:=Lib.Utf8Tabs 1 2 w
theorem U8.below {w w':World} (h:U8 w) (hb:Below w.heap.size w w'):U8 w':=by
 have key:∀ g k v,w.cell? ⟨g,k,none⟩=some v→w'.cell? ⟨g,k,none⟩=some v:=fun g k v e=>((yA hb).1 g k (World.block_lt_of_cell? w _ e)).trans e;exact ⟨fun c hc=>key _ _ _ (h.1 c hc),fun i hi=>⟨key _ _ _ (h.2 i hi).1,key _ _ _ (h.2 i hi).2⟩⟩
def Tab (w : World) : Prop := Lib.TabIs Tryz.prog w "internal/strconv.uint64pow10" .u64 Lib.pow10Tab ∧ 3 < w.heap.size
theorem Jn : Tryz.prog.globalNamed "internal/strconv.uint64pow10" = some 3 := by kernel_rfl
theorem Tab.below {w w':World} (h:Tab w) (hb:Below w.heap.size w w'):Tab w':=by
 refine ⟨?_,by have:=hb.size;have:=h.2;omega⟩;have h1:=h.1;unfold Lib.TabIs at *;rw [←h1];unfold World.var?;rw [Jn];simp only [Option.bind_some];rw [hb.block _ h.2]
theorem JE:(Tryz.prog.globals[3]?).map (·.type)=some 256:=by kernel_rfl
theorem SL:Tryz.prog.cellsOf 256=20:=by kernel_rfl
theorem QC:Tryz.prog.cellsOf 167=1:=by kernel_rfl
def Base (w:World):Prop:=Tab w∧(∃ m,w.cell? ⟨0,0,none⟩=some (.int .i64 m))∧U8 w
theorem Base.below {w w':World} (h:Base w) (hb:Below w.heap.size w w'):Base w':=by
 obtain ⟨h1,⟨m,h2⟩,h3⟩:=h;exact ⟨h1.below hb,⟨m,((yA hb).1 0 0 (World.block_lt_of_cell? w _ h2)).trans h2⟩,h3.below hb⟩
theorem ZK (s:ByteArray) (w:World) (hB:Base w) (hs:s.size≤100000000):Calls Tryz.prog 179 #[.string s,.string ⟨#[46]⟩] w fun e w'=>∃ v,e= .returned v∧Strs w' v (zi 46 (un s))∧Below w.heap.size w w':=by
 obtain ⟨_,⟨m,hm⟩,_⟩:=hB;refine (Tryz.strings_Split s ⟨#[46]⟩ m w (by omega) hm (by decide)).mono ?_;rintro e w' ⟨rfl,rfl⟩;have hlen:=Lib.splitB_all (⟨#[46]⟩:ByteArray) (by decide) 0 (Lib.countB s ⟨#[46]⟩) s rfl;have hle:=Lib.count_le s.data.toList [46];have hmap:(Lib.splitB (⟨#[46]⟩:ByteArray) 0 (Lib.countB s ⟨#[46]⟩) s).map un=zi 46 (un s):=(Lib.splitB_data _ 0 _ s).trans (pB 46 (un s));have hl1:=zb s;have hst:=jP w (Lib.splitB (⟨#[46]⟩:ByteArray) 0 (Lib.countB s ⟨#[46]⟩) s) 9 (by rw [hlen];show Lib.count s.data.toList [46]+1≤maxLen;unfold maxLen;change (s.data.toList).length=s.size at hl1;omega);rw [hmap,hlen] at hst;exact ⟨_,rfl,hst,(Below.refl _ w).alloc (Nat.le_refl _) _⟩
theorem WU {w:World} {A:List Bs} {x:Bs} {a:Option Addr} {n c:Nat} (h:Strs w (.slice a (n+1) c) (A++[x])) (hn:A.length=n):Strs w (.slice a n c) A:=by
 subst hn;obtain ⟨hl,a',c',hv,hn,hm,hc⟩:=h;injection hv with e1 e2 e3
 subst e1;subst e3;rw [List.length_append] at hn;refine ⟨by simp,_,_,rfl,by omega,hm,?_⟩;rcases Nat.eq_zero_or_pos A.length with h0 | hpos
 ·exact .inl h0
 obtain ⟨b,off,rfl,hb,hcell⟩:=hc.resolve_left (by simp);exact .inr ⟨b,off,rfl,hb,fun j u hj=>hcell j u (by rw [xF,List.getElem?_append_left (by have:=(List.getElem?_eq_some_iff.1 hj).1;exact this)];exact hj)⟩
theorem Wo (s:ByteArray) (w:World) (hB:Base w) (hs:s.size≤100000000):Calls Tryz.prog 122 #[.string s] w fun e w'=>∃ v,e= .returned v∧Strs w' v (zH (un s))∧Below w.heap.size w w':=by
 have HS:=KZ9 (ZK s w hB hs);go_enter Tryz.func122,Tryz.ntmps122
 go_wp2_with fail
 refine HS.out.mono ?_;rintro e w1 ⟨v,rfl,hst,hb⟩;clear HS;have hpos:=rZ (un s);have hpd:Hid (zH (un s)=if 1<(zi 46 (un s)).length∧(zi 46 (un s)).getLast? =some [] then (zi 46 (un s)).dropLast else zi 46 (un s)):=KZ9 rfl;obtain ⟨P,hP⟩:=KZ6 (zH (un s));rw [←hP] at hpd;have HP:=KZ9 hP;clear hP;generalize zi 46 (un s)=L at hst hpos hpd;rcases List.eq_nil_or_concat L with rfl | ⟨A,x,hL⟩
 ·simp at hpos
 rw [List.concat_eq_append] at hL;subst hL;have hpd2:Hid (P=if 1<(A++[x]).length∧x=[] then A else A++[x]):=KZ9 (by rw [hpd.out];simp);clear hpd hpos;obtain ⟨a,c,rfl,hn,hm,hc⟩:=hst.open;unfold maxLen at hm;obtain ⟨b,off,rfl,hb1,hcell⟩:=hc (by simp);obtain ⟨n,hA⟩:∃ n,A.length=n:=⟨_,rfl⟩;have hlen:(A++[x]).length=n+1:=by simp [hA]
 have c0:=hcell n (by rw [hlen];omega);rw [List.getElem_append_right (by omega)] at c0;simp only [hA,Nat.sub_self,List.getElem_singleton] at c0;have hca:n+1≤c:=by rw [←hlen];exact hn
 rw [hlen] at hst ⊢;rw [hlen] at hpd2;have HST:=KZ9 hst;clear hc hcell hn hst hlen;by_cases h0:0<n
 ·have h0':(0:Int)<(n:Int):=by omega
  cases hx:x.isEmpty
  ·have hfin:Hid (P=A++[x]):=KZ9 (by rw [hpd2.out,if_neg (by rintro ⟨_,rfl⟩;cases hx)]);have hx2:(mk x).toList.isEmpty=false:=by rw [zl,zj];exact hx
   clear hpd2 hx;go_wp2_with fail
   all_goals try omega
   go_ret;exact ⟨_,rfl,by rw [←HP.out,hfin.out];exact HST.out,hb⟩
  have hfin:Hid (P=A):=KZ9 (by rw [hpd2.out,if_pos ⟨by omega,by simpa using hx⟩]);have hx2:(mk x).toList.isEmpty=true:=by rw [zl,zj];exact hx
  have HC:=KZ9 (WU HST.out hA);clear hpd2 hx;go_wp2_with fail
  all_goals try omega
  go_ret;exact ⟨_,rfl,by rw [←HP.out,hfin.out];exact HC.out,hb⟩
 obtain rfl:n=0:=by omega
 have hfin:Hid (P=A++[x]):=KZ9 (by rw [hpd2.out,if_neg (by omega)]);clear hpd2;go_wp2_with fail
 all_goals try omega
 go_ret;exact ⟨_,rfl,by rw [←HP.out,hfin.out];exact HST.out,hb⟩
end Go.Proofs.YtjbciamhhfcdoaaGreatDoor
namespace Hs
open Go
theorem Ug (c:UInt8) (l:Bs):Lib.index l [c]=Lib.indexByte l c:=Lib.index_one l c
def pW (c:UInt8) (l:Bs):Bs × Bs × Bool:=if Lib.indexByte l c<0 then (l,[],false) else (l.take (Lib.indexByte l c).toNat,l.drop ((Lib.indexByte l c).toNat+1),true)
theorem Qr (c:UInt8) (l:Bs):Lib.cut l [c]=pW c l:=by
 unfold Lib.cut pW;rw [Ug];by_cases h:Lib.indexByte l c<0
 ·rw [if_neg (by omega),if_pos h]
 rw [if_pos (by omega),if_neg h];rfl
theorem b6 (c:UInt8) (l:Bs):Lib.hasPrefix l [c]=decide (l.head? =some c):=by
 rw [so];cases l with
 | nil=>simp
 | cons a r=>simp
theorem jM (c:UInt8) (l:Bs):Lib.trimPrefix l [c]=if l.head? =some c then l.drop 1 else l:=by
 rw [rM];have:(l.take ([c]:Bs).length=[c])↔l.head? =some c:=by
  cases l with
  | nil=>simp
  | cons a r=>simp
 by_cases h:l.head? =some c
 ·rw [if_pos h,if_pos (this.2 h)];rfl
 rw [if_neg h,if_neg (fun e=>h (this.1 e))]
end Hs
namespace Go.Proofs.YtjbciamhhfcdoaaGreatDoor
open Go.RowKit Hs
theorem wJ (s:ByteArray) (c:UInt8) (w:World):Calls Tryz.prog 167 #[.string s,.int .u8 (c.toNat:Int)] w fun e w'=>e= .returned (.int .i64 (Lib.indexByte (un s) c))∧w=w':=by
 refine (Tryz.strings_IndexByte s (c.toNat:Int) w).mono ?_;rintro e w' ⟨rfl,rfl⟩;have:((c.toNat:Int)).toNat.toUInt8=c:=by
  show UInt8.ofNat c.toNat=c;exact UInt8.ofNat_toNat
 rw [this];exact ⟨rfl,rfl⟩
theorem sf (s:ByteArray) (c:UInt8) (w:World) (hs:s.size≤100000000):Calls Tryz.prog 76 #[.string s,.int .u8 (c.toNat:Int)] w fun e w'=>e= .returned (.int .i64 (zo c (un s)))∧w=w':=by
 refine (Tryz.strings_LastIndexByte s (c.toNat:Int) (by omega) w).mono ?_;rintro e w' ⟨rfl,rfl⟩;rw [tH];exact ⟨rfl,rfl⟩
theorem vU (s:ByteArray) (c:UInt8) (w:World):Calls Tryz.prog 108 #[.string s,.string ⟨#[c]⟩] w fun e w'=>e= .returned (.bool (decide ((un s).head? =some c)))∧w=w':=by
 refine (Tryz.strings_HasPrefix s ⟨#[c]⟩ w).mono ?_;rintro e w' ⟨rfl,rfl⟩;refine ⟨?_,rfl⟩;rw [←b6];rfl
theorem kT (s:ByteArray) (c:UInt8) (w:World):Calls Tryz.prog 176 #[.string s,.string ⟨#[c]⟩] w fun e w'=>e= .returned (.string (mk (if (un s).head? =some c then (un s).drop 1 else un s)))∧w=w':=by
 refine (Tryz.strings_TrimPrefix s ⟨#[c]⟩ w).mono ?_;rintro e w' ⟨rfl,rfl⟩;refine ⟨?_,rfl⟩;rw [←jM];rfl
theorem Wg (s:ByteArray) (w:World) (hs:s.size≤100000000):Calls Tryz.prog 210 #[.string s,.string ⟨#[46]⟩] w fun e w'=>e= .returned (.string (mk (xL (un s))))∧w=w':=by
 refine (Tryz.strings_TrimSuffix s ⟨#[46]⟩ w (by omega)).mono ?_;rintro e w' ⟨rfl,rfl⟩;exact ⟨rfl,rfl⟩
theorem Wk (s:ByteArray) (c:UInt8) (w:World) (hB:Base w) (hs:s.size≤100000000):Calls Tryz.prog 103 #[.string s,.string ⟨#[c]⟩] w fun e w'=>e= .returned (.tuple #[.string (mk (pW c (un s)).1),.string (mk (pW c (un s)).2.1),.bool (pW c (un s)).2.2])∧Below w.heap.size w w':=by
 obtain ⟨_,⟨m,hm⟩,_⟩:=hB;refine (Tryz.strings_Cut s ⟨#[c]⟩ m w (by omega) hm).mono ?_;rintro e w' ⟨rfl,n,rfl⟩;have h:Lib.cut s.data.toList (⟨#[c]⟩:ByteArray).data.toList=pW c (un s):=Qr c (un s);rw [h];exact ⟨rfl,below_drewN (Below.refl _ w) n⟩
end Go.Proofs.YtjbciamhhfcdoaaGreatDoor
namespace Hs
def xO (d:Int):Bool:=decide (1≤d∧d≤22)
def sE (d:Int) (b:Bool):Int :=
 if 1≤d∧d≤22 then (if d=4 then 1 else if d=2∨d=20∨(d=9∧b=false) then 2 else 3) else 0
theorem Z7 (d r:Int) (h:(d=4∧r=1)∨((d=2∨d=20∨d=9)∧r=2)∨(d≠4∧d≠2∧d≠20∧d≠9∧1≤d∧d≤22∧r=3)∨(¬ (1≤d∧d≤22)∧r=0)):r=sE d false:=by
 unfold sE;simp only [and_true]
 (repeat' split)<;>omega
theorem Va (d r:Int) (h:(d=4∧r=1)∨((d=2∨d=20)∧r=2)∨(d≠4∧d≠2∧d≠20∧1≤d∧d≤22∧r=3)∨(¬ (1≤d∧d≤22)∧r=0)):r=sE d true:=by
 unfold sE;simp only [Bool.true_eq_false,and_false,or_false]
 (repeat' split)<;>omega
end Hs
namespace Hs
open Go
structure PinP where
 host:Bs
 sub:Bool
 expiry:Int
deriving DecidableEq
structure EntP where
 host:Bs
 sub:Bool
deriving DecidableEq
def tE (p:PinP):Bool:=zJ p.host&&decide (0≤p.expiry∧p.expiry≤1099511627776)
structure CovP where
 source:Nat
 name:Bs
 exact:Bool
deriving DecidableEq
def cov0:CovP:=⟨0,[],false⟩
def covAt (now:Int) (T:List PinP) (L:List EntP) (n:Bs) (exact:Bool):Option CovP :=
 match T.find? (fun p=>decide (p.host=n)) with
 | some p=>if ¬ p.expiry≤now∧(exact=true∨p.sub=true) then some ⟨1,n,exact⟩ else covL L n exact
 | none=>covL L n exact
where covL (L:List EntP) (n:Bs) (exact:Bool):Option CovP:=match L.find? (fun x=>decide (x.host=n)) with
 | some x=>if exact=true∨x.sub=true then some ⟨2,n,exact⟩ else none
 | none=>none
def wH (now:Int) (T:List PinP) (L:List EntP):List Bs→CovP
 | []=>cov0
 | s::r=>match covAt now T L s false with
  | some c=>c
  | none=>wH now T L r
def uT (now:Int) (T:List PinP) (L:List EntP) (h:HostP):CovP :=
 if h.kind=1∧zT h=true then (match covAt now T L h.name true with
  | some c=>c
  | none=>wH now T L (yl h.name))
 else cov0
structure CtxP where
 secure:Bool
 prohibits:Bool
 upgrade:Bool
 blockAll:Bool
 hosts:List Bs
deriving DecidableEq
structure DecP where
 action:Nat
 reason:Nat
 url:Bs
deriving DecidableEq
def ju:DecP:=⟨0,0,[]⟩
def YK (c:CtxP) (h:HostP):Bool:=zT h&&decide (yf h∈c.hosts)
def xK (u:UrlP) (d:Int) (img:Bool) (c:CtxP) (v:CovP):DecP :=
 if zv u.scheme=80∧v.source≠0 then ⟨2,2,yW (yd u)⟩
 else if yv u=true∨u.scheme=Tw then ⟨1,1,yW u⟩
 else if zv u.scheme=80∧c.upgrade=true∧(d≠4∨YK c u.host=true) then ⟨2,3,yW (yd u)⟩
 else if d=4∨c.prohibits=false then ⟨1,6,yW u⟩
 else if zv u.scheme=80∧sE d img=2∧u.host.kind=1∧c.blockAll=false then ⟨2,4,yW (yd u)⟩
 else ⟨3,5,[]⟩
theorem ws (b:UInt8):(we b).toNat=if 65≤b.toNat∧b.toNat≤90 then b.toNat+32 else b.toNat:=by
 have h:(b+32).toNat=(b.toNat+32) % 256:=UInt8.toNat_add b 32;have hb:=b.toNat_lt;unfold we wi;by_cases h1:65≤b.toNat∧b.toNat≤90
 ·rw [if_pos (KZ7 h1),if_pos h1,h];omega
 rw [if_neg (by simpa using h1),if_neg h1]
theorem YO (b c:UInt8) (hc:¬ (97≤c.toNat∧c.toNat≤122)) (hd:¬ (65≤c.toNat∧c.toNat≤90)):we b=c↔b=c:=by
 have h:=ws b;rw [←UInt8.toNat_inj,←UInt8.toNat_inj,h];split<;>omega
theorem WM (b:UInt8):yD (we b)=yD b:=by
 have h:=ws b;unfold yD;rw [h];by_cases h1:65≤b.toNat∧b.toNat≤90
 ·rw [if_pos h1,if_neg (by omega),if_neg (show ¬ (48≤b.toNat∧b.toNat≤57) by omega),if_neg (show ¬ (97≤b.toNat∧b.toNat≤102) by omega)];split<;>split<;>(try split)<;>omega
 rw [if_neg h1]
theorem jW (c:UInt8) (f:UInt8→UInt8) (h:∀ b,f b=c↔b=c):∀ l:Bs,zi c (l.map f)=(zi c l).map (·.map f)
 | []=>rfl
 | b::r=>by
  have ih:=jW c f h r;rw [List.map_cons,zi,zi,ih];by_cases hb:b=c
  ·rw [if_pos hb,if_pos ((h b).2 hb)];rfl
  rw [if_neg hb,if_neg (fun e=>hb ((h b).1 e))];cases hs:zi c r with
  | nil=>exact absurd hs (wu c r)
  | cons x t=>rfl
theorem tT (l:Bs):zi 46 (zt l)=(zi 46 l).map zt:=jW 46 we (fun b=>YO b 46 (by decide) (by decide)) l
theorem rB (l:Bs):zt l=[]↔l=[]:=by simp [zt]
theorem YG (l:Bs):zH (zt l)=(zH l).map zt:=by
 unfold zH;rw [tT,List.length_map,List.getLast?_map];have h:((zi 46 l).getLast?.map zt=some [])↔((zi 46 l).getLast? =some []):=by
  cases (zi 46 l).getLast? with
  | none=>simp
  | some x=>simp [rB]
 by_cases hc:1<(zi 46 l).length∧(zi 46 l).getLast? =some []
 ·rw [if_pos hc,if_pos ⟨hc.1,h.2 hc.2⟩,List.map_dropLast]
 rw [if_neg hc,if_neg (fun e=>hc ⟨e.1,h.1 e.2⟩)]
theorem UH (n:Nat) (l:Bs):zR n (zt l)=zR n l:=by
 unfold zR zt;rw [List.all_map]
 congr 1
 funext b
 show decide (yD (we b)<n)=_;rw [WM]
theorem kb (n:Nat):∀ (l:Bs) (v:Nat),yO n (zt l) v=yO n l v
 | [],_=>rfl
 | b::r,v=>by
  show yO n (we b::zt r) v=_;unfold yO;rw [WM,kb n r]
theorem t7 (n:Nat) (l:Bs):yz n (zt l)=yz n l:=by unfold yz;rw [UH,kb]
theorem gg (l:Bs):vq (zt l)=vq l:=by
 match l with
 | []=>rfl
 | [_]=>rfl
 | a::b::r =>
  show decide (we a=48∧(we b=120∨we b=88))=decide (a=48∧(b=120∨b=88));have h1:=YO a 48 (by decide) (by decide);have h2:=ws b;have h3:(we b=120∨we b=88)↔(b=120∨b=88):=by
   rw [←UInt8.toNat_inj,←UInt8.toNat_inj,←UInt8.toNat_inj,←UInt8.toNat_inj,h2];show (_=120∨_=88)↔(b.toNat=120∨b.toNat=88);split<;>omega
  rw [decide_eq_decide,h1,h3]
theorem V0 (l:Bs):zr (zt l)=zr l:=by
 unfold zr;have h0:(zt l)[0]? =some 48↔l[0]? =some 48:=by
  cases l with
  | nil=>simp [zt]
  | cons a r =>
   show some (we a)=some 48↔some a=some 48;rw [Option.some.injEq,Option.some.injEq];exact YO a 48 (by decide) (by decide)
 have hd:∀ k,(zt l).drop k=zt (l.drop k):=fun k=>by simp [zt,List.map_drop]
 rw [gg,hd,hd,t7,t7,t7,yK];by_cases h1:l=[]
 ·rw [if_pos h1,if_pos ((rB l).2 h1)]
 rw [if_neg h1,if_neg (fun e=>h1 ((rB l).1 e))];by_cases h2:vq l=true
 ·rw [if_pos h2,if_pos h2]
 rw [if_neg h2,if_neg h2];by_cases h3:1<l.length∧l[0]? =some 48
 ·rw [if_pos h3,if_pos ⟨h3.1,h0.2 h3.2⟩]
 rw [if_neg h3,if_neg (fun e=>h3 ⟨e.1,h0.1 e.2⟩)]
theorem kL (l:Bs):yq (zt l)=yq l:=by
 unfold yq;rw [YG,List.getLast?_map];have h:(Option.map zt (zH l).getLast?).getD []=zt ((zH l).getLast?.getD []):=by cases (zH l).getLast? <;>rfl
 simp only [h,gg,V0,t7]
 congr 2
 have:=rB ((zH l).getLast?.getD []);cases hx:(zH l).getLast?.getD [] with
 | nil=>rfl
 | cons a r=>rfl
theorem ZN:∀ L:List Bs,(∀ x∈L,rp x=true∧x.length≤256∧ya (zt x)=true)→x9 L=some (L.map zt)
 | [],_=>rfl
 | x::r,h=>by
  have ih:=ZN r (fun y hy=>h y (List.mem_cons_of_mem _ hy));have ⟨h1,h2,h3⟩:=h x (List.mem_cons_self ..);rw [x9,qw h1,ih];unfold x8;rw [if_neg (by omega),if_pos h3];rfl
theorem qk {l:Bs} (h:ya l=true):1≤l.length∧l.length≤63:=by
 unfold ya at h;simp only [Bool.and_eq_true,decide_eq_true_eq] at h;exact ⟨h.1.1.1,h.1.1.2.1⟩
theorem jg {l:Bs} (h:ya l=true):∀ b∈l,sj b=true:=by
 unfold ya at h;simp only [Bool.and_eq_true,List.all_eq_true] at h;exact h.1.2
theorem vc {l:Bs} (h:zJ l=true):l.length≤253∧yq l=false∧∀ x∈zi 46 l,ya x=true:=by
 unfold zJ at h;simp only [Bool.and_eq_true,decide_eq_true_eq,List.all_eq_true,Bool.not_eq_true'] at h;exact ⟨h.1.1,h.1.2,h.2⟩
theorem kR (c:UInt8):∀ (l:Bs),∀ b∈l,b=c∨∃ x∈zi c l,b∈x
 | [],b,h=>by cases h
 | a::r,b,h=>by
  have ih:=kR c r;by_cases ha:a=c
  ·rw [zi,if_pos ha];rcases List.mem_cons.1 h with rfl | h
   ·exact .inl ha
   rcases ih b h with h | ⟨x,hx,hb⟩
   ·exact .inl h
   exact .inr ⟨x,List.mem_cons_of_mem _ hx,hb⟩
  rw [zi,if_neg ha];cases hs:zi c r with
  | nil=>exact absurd hs (wu c r)
  | cons p t =>
   rw [hs] at ih;rcases List.mem_cons.1 h with rfl | h
   ·exact .inr ⟨b::p,List.mem_cons_self ..,List.mem_cons_self ..⟩
   rcases ih b h with h | ⟨x,hx,hb⟩
   ·exact .inl h
   rcases List.mem_cons.1 hx with rfl | hx
   ·exact .inr ⟨_,List.mem_cons_self ..,List.mem_cons_of_mem _ hb⟩
   exact .inr ⟨x,List.mem_cons_of_mem _ hx,hb⟩
theorem jV (c:UInt8):∀ (l:Bs),∀ x∈zi c l,∀ b∈x,b∈l
 | [],x,hx,b,hb=>by simp [zi] at hx;subst hx;cases hb
 | a::r,x,hx,b,hb=>by
  have ih:=jV c r;unfold zi at hx;split at hx
  ·rcases List.mem_cons.1 hx with rfl | hx
   ·cases hb
   exact List.mem_cons_of_mem _ (ih x hx b hb)
  cases hs:zi c r with
  | nil=>exact absurd hs (wu c r)
  | cons p t =>
   rw [hs] at hx ih;simp only at hx;rcases List.mem_cons.1 hx with rfl | hx
   ·rcases List.mem_cons.1 hb with rfl | hb
    ·exact List.mem_cons_self ..
    exact List.mem_cons_of_mem _ (ih p (List.mem_cons_self ..) b hb)
   exact List.mem_cons_of_mem _ (ih x (List.mem_cons_of_mem _ hx) b hb)
def xW (b:UInt8):Prop:=(97≤b.toNat∧b.toNat≤122)∨(48≤b.toNat∧b.toNat≤57)∨b.toNat=45∨b.toNat=95∨b.toNat=46
theorem ua {l:Bs} (h:zJ l=true):∀ b∈l,xW b:=fun b hb=>by
 rcases kR 46 l b hb with rfl | ⟨x,hx,hbx⟩
 ·unfold xW;decide
 have:=jg ((vc h).2.2 x hx) b hbx;unfold sj at this;have:=of_decide_eq_true this;unfold xW;omega
theorem X8 {l:Bs} (h:zJ l=true):l≠[]:=by
 intro e;subst e;exact absurd h (by decide)
theorem RH {t:Bs} (h:zJ (zt t)=true):∀ b∈t,(65≤b.toNat∧b.toNat≤90)∨xW b:=fun b hb=>by
 have h2:=ua h (we b) (List.mem_map.2 ⟨b,hb,rfl⟩);unfold xW at h2 ⊢;rw [ws] at h2;split at h2<;>omega
theorem ZJ:∀ {t:Bs},(∀ b∈t,xW b)→zt t=t
 | [],_=>rfl
 | b::r,h=>by
  have h1:=h b (List.mem_cons_self ..);have ih:=ZJ (fun x hx=>h x (List.mem_cons_of_mem _ hx));show we b::zt r=b::r;rw [ih]
  congr 1
  unfold xW at h1;unfold we wi;rw [if_neg];intro e;have:=of_decide_eq_true e;omega
theorem YE:∀ l:Bs,(∀ b∈l,b≠37)→pctV l=some l
 | [],_=>rfl
 | b::r,h=>by
  rw [qc (h b (List.mem_cons_self ..)),YE r (fun x hx=>h x (List.mem_cons_of_mem _ hx))];rfl
theorem Y6 (t:Bs):xL (t++[46])=t:=by
 unfold xL Lib.trimSuffix;rw [if_pos (by rw [Lib.hasSuffix];exact List.isSuffixOf_iff_suffix.2 ⟨t,rfl⟩)];simp
theorem rh {t:Bs} (h:t.getLast? ≠some 46):xL t=t:=by
 unfold xL Lib.trimSuffix;rw [if_neg];intro hs;rw [Lib.hasSuffix] at hs;obtain ⟨x,hx⟩:=List.isSuffixOf_iff_suffix.1 hs;apply h;rw [←hx];simp
theorem VP {t:Bs} (h:zJ (zt t)=true):vk t=some ⟨1,zt t,0,xj⟩:=by
 have ⟨h1,h2,h3⟩:=vc h;rw [tT] at h3;have hb:=RH h;unfold vk SE;rw [←kL,h2,if_neg (by simp)];have hl:x9 (zi 46 t)=some ((zi 46 t).map zt):=ZN _ (fun x hx=>by
  have hx2:=h3 (zt x) (List.mem_map.2 ⟨x,hx,rfl⟩);refine ⟨?_,?_,hx2⟩
  ·unfold rp;rw [List.all_eq_true];intro b hbx;have:=hb b (jV 46 t x hx b hbx);unfold xW at this;exact KZ7 (by omega)
  have:=qk hx2;rw [yK] at this;omega)
 rw [hl];simp only;rw [←tT,sW];unfold Y8;rw [if_neg (by omega),if_neg (by rw [h2];simp)]
theorem p7 (c:UInt8):∀ l:Bs,zi c (l++[c])=zi c l++[[]]
 | []=>by simp [zi]
 | b::r=>by
  rw [List.cons_append,zi,zi,p7 c r];by_cases hb:b=c
  ·rw [if_pos hb,if_pos hb];rfl
  rw [if_neg hb,if_neg hb];cases hs:zi c r with
  | nil=>exact absurd hs (wu c r)
  | cons x t=>rfl
theorem V2 {t:Bs} (h:zJ t=true):t.getLast? ≠some 46:=by
 intro e;have hp:=(vc h).2.2;have hne:=X8 h;have hs:t=t.dropLast++[46]:=by
  obtain ⟨x,hx⟩:=List.getLast?_eq_some_iff.1 e;rw [hx];simp
 have:([]:Bs)∈zi 46 t:=by
  rw [hs,p7];simp
 have:=hp [] this;exact absurd this (by decide)
theorem gd {t:Bs} (h:zJ t=true):yY t=some ⟨1,t,0,xj⟩:=by
 have hb:=ua h;have hl:=(vc h).1;have hlow:zt t=t:=ZJ hb;unfold yY;rw [if_neg (by omega),if_neg,YE]
 ·show vk (xL t)=_;rw [rh (V2 h)];have:=VP (t:=t) (by rw [hlow];exact h);rw [hlow] at this;exact this
 ·intro b hx e;have:=hb b hx;subst e;unfold xW at this
  revert this
  decide
 intro e;have:=hb 91 (List.mem_of_mem_head? e);unfold xW at this
 revert this
 decide
theorem tJ (c:UInt8) (r:Bs):∀ a:Bs,(∀ b∈a,b≠c)→Lib.indexByte (a++c::r) c=a.length
 | [],_=>by simp [Lib.indexByte]
 | b::a,h=>by
  have ih:=tJ c r a (fun x hx=>h x (List.mem_cons_of_mem _ hx));have hb:=h b (List.mem_cons_self ..);rw [List.cons_append,Lib.indexByte,ih];have h1:(b==c)=false:=by simpa using hb
  have h2:((a.length:Int)== -1)=false:=by rw [beq_eq_false_iff_ne];omega
  rw [h1,h2];simp
theorem uJ (c:UInt8):∀ a:Bs,(∀ b∈a,b≠c)→Lib.indexByte a c= -1
 | [],_=>rfl
 | b::a,h=>by
  have ih:=uJ c a (fun x hx=>h x (List.mem_cons_of_mem _ hx));have hb:=h b (List.mem_cons_self ..);rw [Lib.indexByte,ih];have h1:(b==c)=false:=by simpa using hb
  rw [h1];simp
theorem kW (c:UInt8) (l:Bs) (h:∀ b∈l,b≠c):zo c l= -1:=by
 have h1:=(rC c l).2 h;have:=zW c l;omega
theorem sX (cs:Bs) (c:UInt8) (r:Bs) (hc:cs.contains c=true):∀ a:Bs,(∀ b∈a,cs.contains b=false)→Lib.indexAny (a++c::r) cs=a.length
 | [],_=>by rw [List.nil_append,Lib.indexAny,if_pos hc];rfl
 | b::a,h=>by
  have ih:=sX cs c r hc a (fun x hx=>h x (List.mem_cons_of_mem _ hx));have hb:=h b (List.mem_cons_self ..);have h2:((a.length:Int)== -1)=false:=by rw [beq_eq_false_iff_ne];omega
  rw [List.cons_append,Lib.indexAny,ih,h2,hb];simp
theorem QO (a:Bs) (h:∀ b∈a,b≠47∧b≠63∧b≠35):xU (a++[47])=a.length:=by
 have:=sX [47,63,35] 47 [] (by decide) a (fun b hb=>by
  obtain ⟨h1,h2,h3⟩:=h b hb;simp [h1,h2,h3])
 unfold xU;rw [this,if_neg (by omega)];omega
theorem Vu (s x t:Bs) (hs:0<zv s) (hx:∀ b∈x,(65≤b.toNat∧b.toNat≤90)∨xW b) (h0:x≠[]) (ht:t=[]∨t=[58,56,48]):xX s ([47,47]++((x++t)++[47]))=vl ⟨s,[],zk,-1,[47]⟩ x t:=by
 have hne:∀ (b:UInt8) (c:UInt8),b∈x→¬ (65≤c.toNat∧c.toNat≤90)→¬ xW c→b≠c:=by
  rintro b c hb h1 h2 rfl;rcases hx b hb with h | h
  ·exact h1 h
  exact h2 h
 have n47:¬ xW 47:=by unfold xW;decide
 have n63:¬ xW 63:=by unfold xW;decide
 have n35:¬ xW 35:=by unfold xW;decide
 have n64:¬ xW 64:=by unfold xW;decide
 have n58:¬ xW 58:=by unfold xW;decide
 have n91:¬ xW 91:=by unfold xW;decide
 have htb:∀ b∈t,b≠47∧b≠63∧b≠35∧b≠64:=by
  intro b hb;rcases ht with rfl | rfl
  ·cases hb
  simp at hb;rcases hb with rfl | rfl | rfl<;>decide
 have ha:∀ b∈x++t,b≠47∧b≠63∧b≠35∧b≠64:=fun b hb=>by
  rcases List.mem_append.1 hb with hb | hb
  ·exact ⟨hne b 47 hb (by decide) n47,hne b 63 hb (by decide) n63,hne b 35 hb (by decide) n35,hne b 64 hb (by decide) n64⟩
  exact htb b hb
 unfold xX;rw [if_neg (by omega),if_pos (show ([47,47]++((x++t)++[47]):Bs).take 2=[47,47] from rfl)];have hd:([47,47]++((x++t)++[47]):Bs).drop 2=(x++t)++[47]:=rfl;rw [hd,QO _ (fun b hb=>⟨(ha b hb).1,(ha b hb).2.1,(ha b hb).2.2.1⟩)];have e1:((x++t)++[47]).drop (x++t).length=[47]:=List.drop_left;have e2:((x++t)++[47]).take (x++t).length=x++t:=List.take_left;rw [e1,e2];have hu:wE (x++t)=([],x++t):=by
  unfold wE;rw [kW 64 _ (fun b hb=>(ha b hb).2.2.2),if_pos (by decide)]
 have hp:yC (x++t)=some (x,t):=by
  unfold yC;rw [if_neg]
  ·rcases ht with rfl | rfl
   ·rw [List.append_nil,uJ 58 x (fun b hb=>hne b 58 hb (by decide) n58),if_pos (by decide)]
   rw [tJ 58 [56,48] x (fun b hb=>hne b 58 hb (by decide) n58),if_neg (by omega)];have e3:(x++[58,56,48]).take ((x.length:Int)).toNat=x:=List.take_left;have e4:(x++[58,56,48]).drop ((x.length:Int)).toNat=[58,56,48]:=List.drop_left;rw [e3,e4]
  intro e;cases x with
  | nil=>exact h0 rfl
  | cons b r =>
   simp at e;subst e;exact hne 91 91 (List.mem_cons_self ..) (by decide) n91 rfl
 unfold xr;rw [hu,hp];rfl
theorem pL (s r:Bs) (hs:xq s=true) (hr:r.any xB=false) (hc:∀ b∈s,b≠58∧xB b=false):yG (s++58::r)=xX (zt s) r:=by
 unfold yG;have hb:(s++58::r).any xB=false:=by
  rw [List.any_append,List.any_cons,hr,show xB 58=false by decide];simp;exact fun b hb=>(hc b hb).2
 rw [if_neg (by rw [hb];simp),tJ 58 r s (fun b hb=>(hc b hb).1),if_neg (by omega)];have e1:(s++58::r).take ((s.length:Int)).toNat=s:=List.take_left;have e2:(s++58::r).drop ((s.length:Int).toNat+1)=r:=by
  rw [List.drop_append];simp
 rw [e1,e2,if_pos hs]
theorem Vh (x t:Bs) (hx:∀ b∈x,(65≤b.toNat∧b.toNat≤90)∨xW b) (ht:t.any xB=false):([47,47]++((x++t)++[47]):Bs).any xB=false:=by
 have h1:x.any xB=false:=by
  rw [List.any_eq_false];intro b hb e;have:=hx b hb;have e2:=of_decide_eq_true e;unfold xW at this;omega
 rw [List.any_append,List.any_append,List.any_append,h1,ht]
 decide
theorem tZ (s:Bs) {n:Bs} (h:zJ n=true) (hs:xq s=true) (hl:zt s=s) (hp:0<zv s) (hc:∀ b∈s,b≠58∧xB b=false):yG (s++58::([47,47]++((n++[])++[47])))=some ⟨s,[],⟨1,n,0,xj⟩,-1,[47]⟩:=by
 have hx:∀ b∈n,(65≤b.toNat∧b.toNat≤90)∨xW b:=fun b hb=> .inr (ua h b hb);rw [pL s _ hs (Vh _ _ hx (by decide)) hc,hl,Vu s _ _ hp hx (X8 h) (.inl rfl)];unfold vl;rw [if_neg (by simp),gd h];have:vz (([]:Bs).drop 1)=some (-1):=by decide
 rw [this];simp only;split<;>rfl
def yM (s n:Bs):UrlP:=⟨s,[],⟨1,n,0,xj⟩,-1,[47]⟩
theorem tM {n:Bs} (h:zJ n=true):yf ⟨1,n,0,xj⟩=n:=by
 unfold yf;rw [if_pos (by simp [zT,h])];rfl
theorem rt (s:Bs) {n:Bs} (h:zJ n=true) (hp:0<zv s):xd (yM s n)=s++58::([47,47]++((n++[])++[47])):=by
 unfold xd;have:¬ zv (yM s n).scheme<0:=by show ¬ zv s<0;omega
 rw [if_neg this];show s++([58,47,47]++((if ([]:Bs)=[] then [] else _)++(yf ⟨1,n,0,xj⟩++((if (-1:Int)= -1 then [] else _)++[47]))))=_;rw [if_pos rfl,if_pos rfl,tM h];simp
theorem gx (s:Bs) {n:Bs} (h:zJ n=true) (hs:xq s=true) (hl:zt s=s) (hp:0<zv s) (hc:∀ b∈s,b≠58∧xB b=false):yR (yM s n)=true:=by
 unfold yR;rw [rt s h hp,tZ s h hs hl hp hc];exact KZ7 rfl
theorem qn {n:Bs} (h:zJ n=true):yR (yM yQ n)=true:=gx _ h (by decide) (by decide) (by decide) (by decide)
theorem jj {n:Bs} (h:zJ n=true):yR (yM zG n)=true:=gx _ h (by decide) (by decide) (by decide) (by decide)
theorem rX (n:Bs):yd (yM yQ n)=yM zG n:=rfl
theorem pf (c:UInt8):∀ l:Bs,c∈l→0≤Lib.indexByte l c
 | [],h=>by cases h
 | b::r,h=>by
  rw [Lib.indexByte];by_cases hb:b=c
  ·simp [hb]
  have hr:c∈r:=by
   rcases List.mem_cons.1 h with h | h
   ·exact absurd h.symm hb
   exact h
  have ih:=pf c r hr;have h1:(b==c)=false:=by simpa using hb
  have h2:(Lib.indexByte r c== -1)=false:=by rw [beq_eq_false_iff_ne];omega
  rw [h1,h2];simp;omega
theorem Yt (b:UInt8) (r:Bs):xq (b::r)=(zY b&&r.all wI):=rfl
end Hs
namespace Go.Proofs.YtjbciamhhfcdoaaGreatDoor
open Go.RowKit Hs
set_option maxRecDepth 20000
set_option maxHeartbeats 4000000
theorem S4 (s:ByteArray) (w:World) (hs:s.size≤100000000):Calls Tryz.prog 104 #[.string s] w fun e w'=>e= .returned (.bool (xq (un s)))∧w=w':=by
 have hlen:(un s).length=s.size:=zb s;have hem:(s.toList==([]:Bs))=decide (un s=[]):=zF s [];obtain ⟨l,hl⟩:=KZ6 (un s);rw [←hl] at hlen hem ⊢;obtain ⟨R,hR⟩:=KZ6 (xq l);have HR:=KZ9 hR;rw [←hR];have HL:=KZ9 hl;have HLEN:=KZ9 hlen;have HEM:=KZ9 hem;clear hl hlen hem hR;go_enter Tryz.func104,Tryz.ntmps104
 go_wp2;go_loop [8] (fun iv=>∃ k:Nat,iv= .int .i64 k∧k≤s.size∧Hid (0<k→R=(l.drop k).all wI)) (fun iv=>s.size - (intOf iv).toNat)
 case atStart=>exact ⟨0,rfl,by omega,KZ9 (fun h=>by omega)⟩
 case round =>
  obtain ⟨k,rfl,hk,hall⟩:=hrel;by_cases hlt:k<s.size
  ·have hkl:k<l.length:=by rw [HLEN.out];exact hlt
   have hx:l[k]=s[k]:=by
    have:=HL.out;subst this;exact zL s k hlt
   have hdr:l.drop k=s[k]::l.drop (k+1):=by rw [←hx];exact List.drop_eq_getElem_cons hkl
   have hI:=fun W=>wJ ⟨#[48,49,50,51,52,53,54,55,56,57,43,45,46]⟩ s[k] W;have hb256:=(s[k]).toNat_lt;have hlet:zY s[k]=(decide (97≤(s[k]).toNat∧(s[k]).toNat≤122)||decide (65≤(s[k]).toNat∧(s[k]).toNat≤90)):=rfl;have hsch:wI s[k]=(zY s[k]||decide (s[k]∈([48,49,50,51,52,53,54,55,56,57,43,45,46]:Bs))):=rfl;have hun:un (⟨#[48,49,50,51,52,53,54,55,56,57,43,45,46]⟩:ByteArray)=[48,49,50,51,52,53,54,55,56,57,43,45,46]:=rfl;rw [hun] at hI;have h0:k=0→R=(zY s[k]&&(l.drop (k+1)).all wI):=by
    intro h;have:l=s[k]::l.drop (k+1):=by
     conv=>lhs;rw [←List.drop_zero (l:=l),←h]
     exact hdr
    rw [HR.out]
    conv=>lhs;rw [this]
    exact Yt _ _
   have h1:0<k→R=(wI s[k]&&(l.drop (k+1)).all wI):=by
    intro h;rw [hall.out h,hdr,List.all_cons]
   have hin:s[k]∈([48,49,50,51,52,53,54,55,56,57,43,45,46]:Bs)→0≤Lib.indexByte [48,49,50,51,52,53,54,55,56,57,43,45,46] s[k]:=pf _ _;have hnin:s[k]∉([48,49,50,51,52,53,54,55,56,57,43,45,46]:Bs)→Lib.indexByte [48,49,50,51,52,53,54,55,56,57,43,45,46] s[k]= -1:=fun h=>uJ _ _ (fun b hb e=>h (e▸hb));obtain ⟨mem,hmem⟩:=KZ6 (decide (s[k]∈([48,49,50,51,52,53,54,55,56,57,43,45,46]:Bs)));have hin2:mem=true→0≤Lib.indexByte [48,49,50,51,52,53,54,55,56,57,43,45,46] s[k]:=fun h=>hin (of_decide_eq_true (hmem▸h));have hnin2:mem=false→Lib.indexByte [48,49,50,51,52,53,54,55,56,57,43,45,46] s[k]= -1:=fun h=>hnin (of_decide_eq_false (hmem▸h));rw [←hmem] at hsch;obtain ⟨ix,hix⟩:=KZ6 (Lib.indexByte [48,49,50,51,52,53,54,55,56,57,43,45,46] s[k]);rw [←hix] at hin2 hnin2;simp only [←hix] at hI;rw [hsch,hlet] at h1
   rw [hlet] at h0;obtain ⟨x,hx2⟩:=KZ6 ((s[k]).toNat);have cs:(s[k].toNat:Int)=(x:Int):=by rw [hx2]
   rw [←hx2] at h0 h1 hb256;simp only [←hx2] at hI;have HI:=KZ9 hI;have H0:=KZ9 h0;have H1:=KZ9 h1;clear hI h0 h1 hlet hsch hx hx2 hdr hall hun hin hnin hmem hix;by_cases hlt2:(97≤x∧x≤122)∨(65≤x∧x≤90)
   ·have hd:(decide (97≤x∧x≤122)||decide (65≤x∧x≤90))=true:=by simpa using hlt2
    have hnext:Hid (0<k+1→R=(l.drop (k+1)).all wI):=KZ9 fun _=>by
     rcases Nat.eq_zero_or_pos k with h | h
     ·rw [H0.out h,hd,Bool.true_and]
     rw [H1.out h,hd,Bool.true_or,Bool.true_and]
    clear H0 H1 HI hd hin2 hnin2;rcases hlt2 with h | h
    all_goals
     go_wp2
     all_goals try omega
     go_round
     case rel=>exact ⟨k+1,by go_num,by omega,hnext⟩
     case measure=>simp [intOf];omega
   have hd:(decide (97≤x∧x≤122)||decide (65≤x∧x≤90))=false:=by simp;omega
   rcases Nat.eq_zero_or_pos k with h | h
   ·have hfin:Hid (R=false):=KZ9 (by rw [H0.out h,hd,Bool.false_and]);have hk0:((k:Int)==0)=true:=by simp;omega
    clear H0 H1 HI hd hin2 hnin2 h;go_wp2
    all_goals try omega
    all_goals
     go_ret;rw [hfin.out];exact ⟨rfl,rfl⟩
   have hk0:((k:Int)==0)=false:=by simp;omega
   cases mem
   ·have hfin:Hid (R=false):=KZ9 (by rw [H1.out h,hd];rfl);have hixv:=hnin2 rfl;subst hixv;clear H0 H1 hd hin2 hnin2;go_wp2_with fail
    all_goals try omega
    all_goals
     refine (HI.out _).mono ?_;rintro e w1 ⟨rfl,rfl⟩;go_wp2
     all_goals try omega
     go_ret;rw [hfin.out];exact ⟨rfl,rfl⟩
   have hixv:=hin2 rfl;have hnext:Hid (0<k+1→R=(l.drop (k+1)).all wI):=KZ9 fun _=>by rw [H1.out h,hd];simp
   clear H0 H1 hd hin2 hnin2;go_wp2_with fail
   all_goals try omega
   all_goals
    refine (HI.out _).mono ?_;rintro e w1 ⟨rfl,rfl⟩;go_wp2
    all_goals try omega
    go_round
    case rel=>exact ⟨k+1,by go_num,by omega,hnext⟩
    case measure=>simp [intOf];omega
  have hkn:k=s.size:=by omega
  have hdrop:l.drop k=[]:=List.drop_of_length_le (by rw [HLEN.out];omega);rcases Nat.eq_zero_or_pos k with h | h
  ·have hl0:l=[]:=List.eq_nil_of_length_eq_zero (by rw [HLEN.out];omega);have hfin:Hid (R=false):=KZ9 (by rw [HR.out,hl0];rfl);have hem:=HEM.out.trans (KZ7 hl0);clear hall hdrop hl0;go_wp2
   all_goals try omega
   go_ret;rw [hfin.out];exact ⟨rfl,rfl⟩
  have hfin:Hid (R=true):=KZ9 (by rw [hall.out h,hdrop];rfl);have hem:=HEM.out.trans (KZ8 (by intro e;have:=HLEN.out;rw [e] at this;simp at this;omega));clear hall hdrop;go_wp2
  all_goals try omega
  go_ret;rw [hfin.out];exact ⟨rfl,rfl⟩
end Go.Proofs.YtjbciamhhfcdoaaGreatDoor
namespace Go.Proofs.YtjbciamhhfcdoaaGreatDoor
open Go.Shelf
def Tryz.laysSlF06_f44_ren:Go.Shelf.Ren:=⟨fun | 6=>44 | 15=>84 | 14=>83 | 28=>136 | 29=>137 | 20=>128 | 21=>129 | 22=>130 | 23=>131 | 24=>132 | 25=>133 | 26=>134 | 27=>135 | 46=>185 | 47=>186 | 48=>187 | 49=>188 | 50=>189 | 57=>220 | n=>n,fun | 22=>46 | 24=>87 | 25=>94 | 3=>3 | 39=>127 | 0=>0 | 53=>56 | 55=>167 | 4=>4 | 46=>160 | 45=>159 | 50=>80 | 5=>5 | 9=>9 | 66=>199 | 70=>203 | 76=>223 | 77=>168 | n=>n,fun | n=>n⟩
theorem Tryz.laysSlF06_f44:Go.Proofs.SlLaysF0.n6 Tryz.prog Tryz.laysSlF06_f44_ren:={
 mixed:=by kernel_rfl
 f6:=⟨Tryz.f44.name,by decide,Tryz.func44.trans (congrArg some (by kernel_rfl))⟩
 f14:=⟨Tryz.f83.name,by decide,Tryz.func83.trans (congrArg some (by kernel_rfl))⟩
 f15:=Tryz.func84.trans (congrArg some (by kernel_rfl))
 f20:=⟨Tryz.f128.name,by decide,Tryz.func128.trans (congrArg some (by kernel_rfl))⟩
 f21:=⟨Tryz.f129.name,by decide,Tryz.func129.trans (congrArg some (by kernel_rfl))⟩
 f22:=⟨Tryz.f130.name,by decide,Tryz.func130.trans (congrArg some (by kernel_rfl))⟩
 f23:=⟨Tryz.f131.name,by decide,Tryz.func131.trans (congrArg some (by kernel_rfl))⟩
 f24:=⟨Tryz.f132.name,by decide,Tryz.func132.trans (congrArg some (by kernel_rfl))⟩
 f25:=⟨Tryz.f133.name,by decide,Tryz.func133.trans (congrArg some (by kernel_rfl))⟩
 f26:=⟨Tryz.f134.name,by decide,Tryz.func134.trans (congrArg some (by kernel_rfl))⟩
 f27:=⟨Tryz.f135.name,by decide,Tryz.func135.trans (congrArg some (by kernel_rfl))⟩
 f28:=Tryz.func136.trans (congrArg some (by kernel_rfl))
 f29:=Tryz.func137.trans (congrArg some (by kernel_rfl))
 f46:=⟨Tryz.f185.name,by decide,Tryz.func185.trans (congrArg some (by kernel_rfl))⟩
 f47:=Tryz.func186.trans (congrArg some (by kernel_rfl))
 f48:=Tryz.func187.trans (congrArg some (by kernel_rfl))
 f49:=⟨Tryz.f188.name,by decide,Tryz.func188.trans (congrArg some (by kernel_rfl))⟩
 f50:=⟨Tryz.f189.name,by decide,Tryz.func189.trans (congrArg some (by kernel_rfl))⟩
 f57:=⟨Tryz.f220.name,by decide,Tryz.func220.trans (congrArg some (by kernel_rfl))⟩
 t0:=Tryz.underlying0
 a0:=Tryz.isAgg0
 z0:=Tryz.sizeOf0
 v0:=Tryz.zeroValue0
 t3:=Tryz.underlying3
 a3:=Tryz.isAgg3
 z3:=Tryz.sizeOf3
 v3:=Tryz.zeroValue3
 t4:=Tryz.underlying4
 a4:=Tryz.isAgg4
 z4:=Tryz.sizeOf4
 v4:=Tryz.zeroValue4
 t5:=Tryz.underlying5
 a5:=Tryz.isAgg5
 z5:=Tryz.sizeOf5
 v5:=Tryz.zeroValue5
 t9:=Tryz.underlying9
 a9:=Tryz.isAgg9
 z9:=Tryz.sizeOf9
 v9:=Tryz.zeroValue9
 t22:=Tryz.underlying46
 a22:=Tryz.isAgg46
 z22:=Tryz.sizeOf46
 v22:=Tryz.zeroValue46
 t25:=Tryz.underlying94
 a25:=Tryz.isAgg94
 z25:=Tryz.sizeOf94
 v25:=Tryz.zeroValue94
 t39:=Tryz.underlying127
 a39:=Tryz.isAgg127
 z39:=Tryz.sizeOf127
 v39:=Tryz.zeroValue127
 t45:=Tryz.underlying159
 a45:=Tryz.isAgg159
 z45:=Tryz.sizeOf159
 v45:=Tryz.zeroValue159
 t46:=Tryz.underlying160
 a46:=Tryz.isAgg160
 z46:=Tryz.sizeOf160
 v46:=Tryz.zeroValue160
 t50:=Tryz.underlying80
 a50:=Tryz.isAgg80
 z50:=Tryz.sizeOf80
 v50:=Tryz.zeroValue80
 t53:=Tryz.underlying56
 a53:=Tryz.isAgg56
 z53:=Tryz.sizeOf56
 v53:=Tryz.zeroValue56
 t55:=Tryz.underlying167
 a55:=Tryz.isAgg167
 z55:=Tryz.sizeOf167
 v55:=Tryz.zeroValue167
 t66:=Tryz.underlying199
 a66:=Tryz.isAgg199
 z66:=Tryz.sizeOf199
 v66:=Tryz.zeroValue199
 t70:=Tryz.underlying203
 a70:=Tryz.isAgg203
 z70:=Tryz.sizeOf203
 v70:=Tryz.zeroValue203
 t76:=Tryz.underlying223
 a76:=Tryz.isAgg223
 z76:=Tryz.sizeOf223
 v76:=Tryz.zeroValue223
 t77:=Tryz.underlying168
 a77:=Tryz.isAgg168
 z77:=Tryz.sizeOf168
 v77:=Tryz.zeroValue168 }
open Go.RowKit Go.Lib Go.Sort in
open Go.RowKit Go.Lib Go.Sort in
theorem Tryz.slices_SortFunc {α:Type} [Inhabited α] (k:Nat) (aE:∀ w,(isAgg 87).run Tryz.prog w= .ok true w) (zE:∀ w,(Go.sizeOf 87).run Tryz.prog w= .ok k w) (enc:α→List Value) (hk:∀ x,(enc x).length=k) (h1:∀ x,∀ v∈enc x,v.oneCell'=true) (cf:α→α→Int) (hO:SWO (ltOf cf)) (g:Nat) (cb:Array Value) (blk off cap:Nat) (d:Array α) (w:World) (eg:∀ args w,(callFunc g args).run Tryz.prog w= .ok (.enter g args) w) (hcmp:CmpLays Tryz.prog g cb enc k cf blk off d.size w) (hH:HoldsK enc k w blk off d) (hblk:blk<w.heap.size) (hsz:d.size<4611686018427387904) :
  Calls Tryz.prog 44 #[.slice (some ⟨blk,off,none⟩) d.size cap,.func (.func g) #[] cb] w fun e w' =>
   e= .returned (.tuple #[])∧∃ d' n os,PermIn 0 d.size d d'∧SortedIn (ltOf cf) 0 d.size d'∧w'=sortWorldK enc k w blk off n d' os:=AnyQ.slices_SortFunc Tryz.laysSlF06_f44 k aE zE enc hk h1 cf hO g cb blk off cap d w eg hcmp hH hblk hsz
end Go.Proofs.YtjbciamhhfcdoaaGreatDoor
namespace Go.Proofs.YtjbciamhhfcdoaaGreatDoor
open Go.RowKit Hs
theorem Ze (base:Nat) (l:Bs) (k:Nat) (h:k<l.length):xP base (l.take (k+1)) 0=xP base (l.take k) 0*base+yD l[k]:=by
 rw [List.take_succ_eq_append_getElem h,sH];rfl
theorem Ji (v n:Nat) (hv:v<4096) (hn:n<16):bits .or .u16 ((v:Int)*16) (n:Int)=((v*16+n:Nat):Int):=by
 have e:(v <<< 4:Nat)=v*16:=by rw [Nat.shiftLeft_eq]
 have h2:v*16 ||| n=v*16+n:=by
  rw [←e];exact (Nat.shiftLeft_add_eq_or_of_lt (by omega) v).symm
 have h3:=u16_or_nat (v*16) n (by omega) (by omega);rw [h2] at h3
 simpa using h3
set_option maxHeartbeats 2000000
theorem R1 (s:ByteArray) (w:World):Calls Tryz.prog 265 #[.string s] w fun e w'=>e= .returned (.tuple #[.int .u16 (vh (vt (un s))).1,.bool (vh (vt (un s))).2])∧w=w':=by
 have hdef:Hid (vt (un s)=if 1≤s.size∧s.size≤4∧zR 16 (un s)=true then some (xP 16 (un s) 0) else none):=KZ9 (by rw [←zb];rfl);by_cases hz:s.size=0
 ·have hun:un s=[]:=List.eq_nil_of_length_eq_zero (by rw [zb];exact hz);have h1:s.toList.isEmpty=true:=by rw [zl,hun];rfl
  have h0:s.size<1:=by omega
  have hend:Hid (vt (un s)=none):=KZ9 (by rw [hdef.out,if_neg (by omega)]);clear hz hun hdef;go_enter Tryz.func265,Tryz.ntmps265
  go_wp2
  all_goals try omega
  all_goals
   go_ret2;rw [hend.out];exact ⟨rfl,rfl⟩
 have h1:s.toList.isEmpty=false:=by
  rw [zl];cases hu:un s with
  | nil=>exact absurd (by rw [←zb,hu];rfl) hz
  | cons a b=>rfl
 have h0:1≤s.size:=by omega
 by_cases h4:4<s.size
 ·have hend:Hid (vt (un s)=none):=KZ9 (by rw [hdef.out,if_neg (by omega)]);have g1:decide ((4:Int)<(s.size:Int))=true:=KZ7 (by omega);clear hz hdef;go_enter Tryz.func265,Tryz.ntmps265
  go_wp2
  all_goals try omega
  all_goals
   go_ret2;rw [hend.out];exact ⟨rfl,rfl⟩
 have h5:s.size≤4:=by omega
 have g1:decide ((4:Int)<(s.size:Int))=false:=KZ8 (by omega);clear hz;go_enter Tryz.func265,Tryz.ntmps265
 go_wp2
 all_goals try omega
 go_loop [4,16] (fun nv iv=>∃ k:Nat,iv= .int .i64 k∧k≤s.size∧nv= .int .u16 (xP 16 ((un s).take k) 0)∧Hid (xP 16 ((un s).take k) 0<16 ^ k)∧Hid (zR 16 (un s)=zR 16 ((un s).drop k))) (fun _ iv=>s.size - (intOf iv).toNat)
 case atStart=>exact ⟨0,rfl,by omega,rfl,KZ9 (by simp [xP]),rfl⟩
 case round =>
  obtain ⟨k,rfl,hk,rfl,hle,ha⟩:=hrel;by_cases hlt:k<s.size
  ·have hlu:k<(un s).length:=by rw [zb];exact hlt
   have hst:=KZ9 (Ze 16 (un s) k hlu);have hx:=(s[k]'hlt).toNat_lt;have hnx:Hid (yD (s[k]'hlt)<16→zR 16 (un s)=zR 16 ((un s).drop (k+1))):=by
    intro h;have e:=ha.out;rw [zR,zR,zQ (un s) _ k hlu true (KZ7 h)] at e;exact e
   have hno:Hid (¬ yD (s[k]'hlt)<16→vt (un s)=none):=by
    intro h;have e:zR 16 (un s)=false:=by rw [ha.out];unfold zR;rw [zQ (un s) _ k hlu false (KZ8 h)];rfl
    rw [hdef.out,if_neg (by simp [e])]
   clear ha hdef;obtain ⟨v,hv⟩:=KZ6 (xP 16 ((un s).take k) 0);rw [←hv] at hle hst ⊢;clear hv;have hv4:v<4096:=by
    have h6:(16:Nat) ^ k≤16 ^ 3:=Nat.pow_le_pow_right (by decide) (by omega);have:=hle.out;omega
   have hdc:=uz (s[k]'hlt);obtain ⟨q,hq⟩:=KZ6 (yD (s[k]'hlt));rw [←hq] at hdc hnx hno;have hst':Hid (xP 16 ((un s).take (k+1)) 0=v*16+q):=by rw [hq];exact hst.out
   clear hst hq;by_cases hqb:q<16
   ·have HN:=KZ9 (hnx.out hqb);have HLE:Hid (xP 16 ((un s).take (k+1)) 0<16 ^ (k+1)):=KZ9 (by rw [hst'.out,Nat.pow_succ];have:=hle.out;omega);clear hnx hno;rcases hdc with ⟨h1,h2,h3⟩ | ⟨h1,h2,h3⟩ | ⟨h1,h2,h3⟩ | ⟨h1,h2,h3,h4⟩
    all_goals try omega
    all_goals
     have ho:bits .or .u16 ((v:Int)*16) (q:Int)=((v*16+q:Nat):Int):=Ji v q (by omega) (by omega);go_wp2
     all_goals try omega
     go_round
     case rel =>
      refine ⟨k+1,by go_num,by omega,?_,HLE,HN⟩;rw [hst'.out];first | (rw [ho]) | (rw [←ho];congr 1;omega) | (rw [←ho];congr 2;omega) | (congr 1;omega)
     case measure=>simp [intOf];omega
   have HN:=KZ9 (hno.out hqb);clear hnx hno;rcases hdc with ⟨h1,h2,h3⟩ | ⟨h1,h2,h3⟩ | ⟨h1,h2,h3⟩ | ⟨h1,h2,h3,h4⟩
   all_goals try omega
   all_goals
    go_wp2
    all_goals try omega
    all_goals
     go_ret2;rw [HN.out];exact ⟨rfl,rfl⟩
  obtain rfl:k=s.size:=by omega
  have htk:(un s).take s.size=un s:=List.take_of_length_le (by rw [zb];exact Nat.le_refl _);have hfin:Hid (vt (un s)=some (xP 16 (un s) 0)):=KZ9 <| by
   have e:zR 16 (un s)=true:=by rw [ha.out,List.drop_eq_nil_of_le (by rw [zb];exact Nat.le_refl _)];rfl
   rw [hdef.out,if_pos ⟨by omega,by omega,e⟩]
  clear ha hdef;rw [htk] at hle ⊢;have hv5:xP 16 (un s) 0<65536:=by
   have h6:(16:Nat) ^ s.size≤16 ^ 4:=Nat.pow_le_pow_right (by decide) (by omega);have:=hle.out;omega
  obtain ⟨v,hv⟩:=KZ6 (xP 16 (un s) 0);rw [←hv] at hfin hv5 ⊢;clear hv hle htk;have m1:(v:Int) % 65536=(v:Int):=by omega
  go_wp2
  all_goals try omega
  go_ret2;rw [hfin.out];exact ⟨rfl,rfl⟩
theorem Pe (s:ByteArray) (w:World):Calls Tryz.prog 230 #[.string s] w fun e w'=>e= .returned (.tuple #[.int .u16 (vh (vt (un s))).1,.bool (vh (vt (un s))).2])∧w=w':=by
 have hdef:Hid (vt (un s)=if 1≤s.size∧s.size≤4∧zR 16 (un s)=true then some (xP 16 (un s) 0) else none):=KZ9 (by rw [←zb];rfl);by_cases hz:s.size=0
 ·have hun:un s=[]:=List.eq_nil_of_length_eq_zero (by rw [zb];exact hz);have h1:s.toList.isEmpty=true:=by rw [zl,hun];rfl
  have h0:s.size<1:=by omega
  have hend:Hid (vt (un s)=none):=KZ9 (by rw [hdef.out,if_neg (by omega)]);clear hz hun hdef;go_enter Tryz.func230,Tryz.ntmps230
  go_wp2
  all_goals try omega
  all_goals
   go_ret2;rw [hend.out];exact ⟨rfl,rfl⟩
 have h1:s.toList.isEmpty=false:=by
  rw [zl];cases hu:un s with
  | nil=>exact absurd (by rw [←zb,hu];rfl) hz
  | cons a b=>rfl
 have h0:1≤s.size:=by omega
 by_cases h4:4<s.size
 ·have hend:Hid (vt (un s)=none):=KZ9 (by rw [hdef.out,if_neg (by omega)]);have g1:decide ((4:Int)<(s.size:Int))=true:=KZ7 (by omega);clear hz hdef;go_enter Tryz.func230,Tryz.ntmps230
  go_wp2
  all_goals try omega
  all_goals
   go_ret2;rw [hend.out];exact ⟨rfl,rfl⟩
 have h5:s.size≤4:=by omega
 have g1:decide ((4:Int)<(s.size:Int))=false:=KZ8 (by omega);clear hz;go_enter Tryz.func230,Tryz.ntmps230
 go_wp2
 all_goals try omega
 go_loop [4,5] (fun nv iv=>∃ k:Nat,iv= .int .i64 k∧k≤s.size∧nv= .int .i64 (xP 16 ((un s).take k) 0)∧Hid (xP 16 ((un s).take k) 0<16 ^ k)∧Hid (zR 16 (un s)=zR 16 ((un s).drop k))) (fun _ iv=>s.size - (intOf iv).toNat)
 case atStart=>exact ⟨0,rfl,by omega,rfl,KZ9 (by simp [xP]),rfl⟩
 case round =>
  obtain ⟨k,rfl,hk,rfl,hle,ha⟩:=hrel;by_cases hlt:k<s.size
  ·have hlu:k<(un s).length:=by rw [zb];exact hlt
   have hst:=KZ9 (Ze 16 (un s) k hlu);have hx:=(s[k]'hlt).toNat_lt;have hnx:Hid (yD (s[k]'hlt)<16→zR 16 (un s)=zR 16 ((un s).drop (k+1))):=by
    intro h;have e:=ha.out;rw [zR,zR,zQ (un s) _ k hlu true (KZ7 h)] at e;exact e
   have hno:Hid (¬ yD (s[k]'hlt)<16→vt (un s)=none):=by
    intro h;have e:zR 16 (un s)=false:=by rw [ha.out];unfold zR;rw [zQ (un s) _ k hlu false (KZ8 h)];rfl
    rw [hdef.out,if_neg (by simp [e])]
   clear ha hdef;obtain ⟨v,hv⟩:=KZ6 (xP 16 ((un s).take k) 0);rw [←hv] at hle hst ⊢;clear hv;have hv4:v<4096:=by
    have h6:(16:Nat) ^ k≤16 ^ 3:=Nat.pow_le_pow_right (by decide) (by omega);have:=hle.out;omega
   have hdc:=uz (s[k]'hlt);obtain ⟨q,hq⟩:=KZ6 (yD (s[k]'hlt));rw [←hq] at hdc hnx hno;have hst':Hid (xP 16 ((un s).take (k+1)) 0=v*16+q):=by rw [hq];exact hst.out
   clear hst hq;by_cases hqb:q<16
   ·have HN:=KZ9 (hnx.out hqb);have HLE:Hid (xP 16 ((un s).take (k+1)) 0<16 ^ (k+1)):=KZ9 (by rw [hst'.out,Nat.pow_succ];have:=hle.out;omega);clear hnx hno;rcases hdc with ⟨h1,h2,h3⟩ | ⟨h1,h2,h3⟩ | ⟨h1,h2,h3⟩ | ⟨h1,h2,h3,h4⟩
    all_goals try omega
    all_goals
     have ho:True:=trivial;go_wp2
     all_goals try omega
     go_round
     case rel =>
      refine ⟨k+1,by go_num,by omega,?_,HLE,HN⟩;rw [hst'.out]
      congr 1;omega
     case measure=>simp [intOf];omega
   have HN:=KZ9 (hno.out hqb);clear hnx hno;rcases hdc with ⟨h1,h2,h3⟩ | ⟨h1,h2,h3⟩ | ⟨h1,h2,h3⟩ | ⟨h1,h2,h3,h4⟩
   all_goals try omega
   all_goals
    go_wp2
    all_goals try omega
    all_goals
     go_ret2;rw [HN.out];exact ⟨rfl,rfl⟩
  obtain rfl:k=s.size:=by omega
  have htk:(un s).take s.size=un s:=List.take_of_length_le (by rw [zb];exact Nat.le_refl _);have hfin:Hid (vt (un s)=some (xP 16 (un s) 0)):=KZ9 <| by
   have e:zR 16 (un s)=true:=by rw [ha.out,List.drop_eq_nil_of_le (by rw [zb];exact Nat.le_refl _)];rfl
   rw [hdef.out,if_pos ⟨by omega,by omega,e⟩]
  clear ha hdef;rw [htk] at hle ⊢;have hv5:xP 16 (un s) 0<65536:=by
   have h6:(16:Nat) ^ s.size≤16 ^ 4:=Nat.pow_le_pow_right (by decide) (by omega);have:=hle.out;omega
  obtain ⟨v,hv⟩:=KZ6 (xP 16 (un s) 0);rw [←hv] at hfin hv5 ⊢;clear hv hle htk;have m1:(v:Int) % 65536=(v:Int):=by omega
  go_wp2
  all_goals try omega
  go_ret2;rw [hfin.out];exact ⟨rfl,rfl⟩
theorem tG (n:Nat) (w:World) (hB:Base w) (hn:n≤9999999999):Calls Tryz.prog 141 #[.int .i64 (n:Int)] w fun e w'=>e= .returned (.string (mk (Lib.decDigits n)))∧Below w.heap.size w w':=by
 refine (Tryz.strconv_Itoa (n:Int) (by omega) (by omega) _ hB.1.1).mono ?_;rintro e w1 ⟨rfl,k,os,rfl⟩;refine ⟨?_,Lib.below_grow _ _ (Nat.le_refl _) _ _⟩;have hi:Lib.itoa (n:Int)=Lib.decDigits n:=by
  show (if (n:Int)<0 then _ else _)=_;rw [if_neg (by omega)];rfl
 rw [hi];rfl
theorem Jh (v n:Nat) (hv:v<16777216) (hn:n≤255):bits .or .u32 ((v:Int)*256) (n:Int)=((v*256+n:Nat):Int):=by
 have e:(v <<< 8:Nat)=v*256:=by rw [Nat.shiftLeft_eq]
 have h2:v*256 ||| n=v*256+n:=by
  rw [←e];exact (Nat.shiftLeft_add_eq_or_of_lt (by omega) v).symm
 have h3:=u32_or_nat (v*256) n (by omega) (by omega);rw [h2] at h3
 simpa using h3
theorem R2 (s:ByteArray) (w:World) (hB:Base w) (hs:s.size≤100000000):Calls Tryz.prog 266 #[.string s] w fun e w'=>e= .returned (.tuple #[.int .u32 (yS (un s)).1,.bool (yS (un s)).2])∧Below w.heap.size w w':=by
 have HS:=KZ9 (ZK s w hB hs);have HLEN:=KZ9 (yJ 46 (un s));have hpv:Hid (yS (un s)=if (zi 46 (un s)).length=4 then vh (vw (zi 46 (un s)) 0) else (0,false)):=KZ9 rfl;obtain ⟨R,hR⟩:=KZ6 (yS (un s));rw [←hR] at hpv ⊢;clear hR;obtain ⟨L,hL⟩:=KZ6 (zi 46 (un s));rw [←hL] at hpv HS HLEN;clear hL;rw [zb] at HLEN;have HBS:=KZ9 hB;clear hB;go_enter Tryz.func266,Tryz.ntmps266
 go_wp2_with fail
 refine HS.out.mono ?_;rintro e w1 ⟨v,rfl,hst,hb⟩;clear HS;have hB1:=KZ9 (HBS.out.below hb);obtain ⟨a,c,rfl,hn,hm,hc⟩:=hst.open;unfold maxLen at hm;have HC:=KZ9 hc;clear hc hst HBS;by_cases h4:L.length=4
 ·have hfin:Hid (R=vh (vw L 0)):=KZ9 (by rw [hpv.out,if_pos h4]);clear hpv;rw [h4];rw [h4] at hn;have H4:=KZ9 h4;clear h4;go_wp2;go_loopw [5,17] (fun vv iv wr=>∃ (k v:Nat),iv= .int .i64 k∧k≤4∧vv= .int .u32 v∧v<256 ^ k∧Hid (vw L 0=vw (L.drop k) v)∧Below w1.heap.size w1 wr) (fun _ iv _=>4 - (intOf iv).toNat)
  case atStart=>exact ⟨0,0,rfl,by omega,rfl,by simp,KZ9 rfl,Below.refl _ _⟩
  case round =>
   obtain ⟨k,v,rfl,hk,rfl,hv,hst,hnx⟩:=hrel;by_cases hlt:k<4
   ·obtain ⟨b,off,rfl,hb1,hcell⟩:=HC.out (by rw [H4.out];omega);have hkl:k<L.length:=by rw [H4.out];exact hlt
    have c0:=((yA hnx).1 b (off+k) hb1).trans (hcell k hkl);have hlen:=HLEN.out L[k] (List.getElem_mem hkl);have hst2:Hid (vw L 0=vw (L[k]::L.drop (k+1)) v):=KZ9 (by rw [hst.out,List.drop_eq_getElem_cons hkl]);obtain ⟨x,hx⟩:=KZ6 (L[k]);rw [←hx] at c0 hlen hst2;clear hcell hst hx hkl;have hd:=fun W=>sZ (mk x) W (by rw [zh];omega);simp only [zj] at hd;have hsx:Hid (sF x=if (yz 10 x).2=true∧(yz 10 x).1≤255∧Lib.decDigits (yz 10 x).1=x then some (yz 10 x).1 else none):=KZ9 rfl;obtain ⟨m,hm2⟩:=KZ6 (yz 10 x);rw [←hm2] at hsx;simp only [←hm2] at hd;clear hm2;obtain ⟨n,ok⟩:=m;simp only at hd hsx;have HD:=KZ9 hd;have hv3:v<16777216:=by
     have:(256:Nat) ^ k≤256 ^ 3:=Nat.pow_le_pow_right (by decide) (by omega);omega
    clear hd;cases ok
    ·have hend:Hid (R=(0,false)):=KZ9 (by rw [hfin.out,hst2.out,vw,hsx.out,if_neg (by simp)];rfl);clear hst2 hsx;go_wp2_with fail
     refine (HD.out _).mono ?_;rintro e w2 ⟨rfl,rfl⟩;go_wp2_with fail
     go_ret2;rw [hend.out];exact ⟨rfl,hb.trans (hnx.mono hb.size)⟩
    by_cases hn5:255<n
    ·have g1:decide (255<n)=true:=KZ7 hn5;have g2:(255:Int)<(n:Int):=by omega
     have hend:Hid (R=(0,false)):=KZ9 (by rw [hfin.out,hst2.out,vw,hsx.out,if_neg (by simp;omega)];rfl);clear hst2 hsx;go_wp2_with fail
     refine (HD.out _).mono ?_;rintro e w2 ⟨rfl,rfl⟩;go_wp2_with fail
     all_goals try omega
     go_ret2;rw [hend.out];exact ⟨rfl,hb.trans (hnx.mono hb.size)⟩
    have g1:decide (255<n)=false:=KZ8 hn5;have g2:¬ ((255:Int)<(n:Int)):=by omega
    have hBr:=KZ9 (hB1.out.below hnx);have HI:=KZ9 (tG n wr hBr.out (by omega));cases hq:(Lib.decDigits n==x)
    ·have q1:((mk (Lib.decDigits n)).toList==(mk x).toList)=false:=by rw [zl,zl,zj,zj];exact hq
     have hend:Hid (R=(0,false)):=KZ9 (by rw [hfin.out,hst2.out,vw,hsx.out,if_neg (by rintro ⟨_,_,h3⟩;rw [h3] at hq;simp at hq)];rfl);clear hst2 hsx hq;go_wp2_with fail
     refine (HD.out _).mono ?_;rintro e w2 ⟨rfl,rfl⟩;go_wp2_with fail
     all_goals try omega
     refine HI.out.mono ?_;rintro e w2 ⟨rfl,hb2⟩;go_wp2_with fail
     go_ret2;rw [hend.out];exact ⟨rfl,hb.trans ((hnx.trans (hb2.mono hnx.size)).mono hb.size)⟩
    have q1:((mk (Lib.decDigits n)).toList==(mk x).toList)=true:=by rw [zl,zl,zj,zj];exact hq
    have hnext:Hid (vw L 0=vw (L.drop (k+1)) (v*256+n)):=KZ9 (by rw [hst2.out,vw,hsx.out,if_pos ⟨rfl,by omega,by simpa using hq⟩]);have ho:=Jh v n hv3 (by omega);have h256:v*256+n<256 ^ (k+1):=by rw [Nat.pow_succ];generalize (256:Nat) ^ k=q at hv;omega
    have H256:=KZ9 h256;have m1:((v:Int)*256) % 4294967296=(v:Int)*256:=by omega
    have m2:(n:Int) % 4294967296=(n:Int):=by omega
    have HM:=KZ9 hv;clear hst2 hsx hq h256 hv;go_wp2_with fail
    refine (HD.out _).mono ?_;rintro e w2 ⟨rfl,rfl⟩;go_wp2_with fail
    all_goals try omega
    refine HI.out.mono ?_;rintro e w2 ⟨rfl,hb2⟩;go_wp2_with fail
    go_roundw
    case rel=>exact ⟨k+1,v*256+n,by go_num,by omega,by first | rfl | (rw [ho]),H256.out,hnext,hnx.trans (hb2.mono hnx.size)⟩
    case measure=>simp [intOf];omega
   obtain rfl:k=4:=by omega
   have hend:Hid (R=(v,true)):=KZ9 (by rw [hfin.out,hst.out,List.drop_of_length_le (by rw [H4.out];omega)];rfl);clear hst;go_wp2;go_ret2;rw [hend.out];exact ⟨rfl,hb.trans (hnx.mono hb.size)⟩
 have hend:Hid (R=(0,false)):=KZ9 (by rw [hpv.out,if_neg h4]);have g1:((L.length:Int) != 4)=true:=by simp;omega
 clear hpv;go_wp2_with fail
 all_goals try omega
 go_ret2;rw [hend.out];exact ⟨rfl,hb⟩
theorem Te:(Tryz.prog.info? 57).map (fun i=>(i.zero,i.size,i.bytes))=some (some (.int .u16 0),1,2):=by kernel_rfl
theorem uw {w w':World} {base:Nat} {e:TypeId} {size n:Nat} {v:Value} {xs:List Value} (h:w.ownsRow base e size v n xs) (hb:Below w.heap.size w w'):w'.ownsRow base e size v n xs:=by
 refine ⟨h.1,?_⟩;rcases h.2 with h2 | ⟨g,cap,cur,hv,hbg,hg,h3⟩
 ·exact .inl h2
 exact .inr ⟨g,cap,cur,hv,hbg,(hb.block g (Array.getElem?_eq_some_iff.1 hg).1).trans hg,h3⟩
theorem qM {w:World} {base b2:Nat} {e:TypeId} {size n:Nat} {v:Value} {xs:List Value} (h:w.ownsRow base e size v n xs) (hb:b2≤base):w.ownsRow b2 e size v n xs:=by
 refine ⟨h.1,?_⟩;rcases h.2 with h2 | ⟨g,cap,cur,hv,hbg,h3⟩
 ·exact .inl h2
 exact .inr ⟨g,cap,cur,hv,by omega,h3⟩
def zg (l:List Nat):List Value:=l.map fun (g:Nat)=> .int .u16 (g:Int)
@[simp] theorem yc (l:List Nat):(zg l).length=l.length:=by simp [zg]
theorem wL (a b:List Nat):zg (a++b)=zg a++zg b:=by simp [zg]
def Grps (w:World) (v:Value) (l:List Nat):Prop:=Row w v 1 l.length (zg l)
theorem Grps.below {w w':World} {v:Value} {l:List Nat} (h:Grps w v l) (hb:Below w.heap.size w w'):Grps w' v l:=Row.below h hb
theorem Grps.nil (w:World):Grps w (.slice none 0 0) []:=Row.nil w 1
theorem Grps.open {w:World} {v:Value} {l:List Nat} (h:Grps w v l):∃ a cap,v= .slice a l.length cap∧l.length≤cap∧cap≤maxLen ∧
  ∀ (hn:0<l.length),∃ b off,a=some ⟨b,off,none⟩∧b<w.heap.size∧∀ j (hj:j<l.length),w.cell? ⟨b,off+j,none⟩=some (.int .u16 (l[j]:Int)):=by
 obtain ⟨hl,a,cap,rfl,hn,hm,h⟩:=h;refine ⟨a,cap,rfl,hn,hm,fun h0=> ?_⟩;rcases h with h | ⟨b,off,ha,hlt,hc⟩
 ·omega
 exact ⟨b,off,ha,hlt,fun j hj=>hc j _ (by simp [zg,List.getElem?_eq_getElem hj])⟩
theorem Wh (s:ByteArray) (w:World) (hB:Base w) (hs:s.size≤100000000):Calls Tryz.prog 179 #[.string s,.string ⟨#[58]⟩] w fun e w'=>∃ v,e= .returned v∧Strs w' v (zi 58 (un s))∧Below w.heap.size w w':=by
 obtain ⟨_,⟨m,hm⟩,_⟩:=hB;refine (Tryz.strings_Split s ⟨#[58]⟩ m w (by omega) hm (by decide)).mono ?_;rintro e w' ⟨rfl,rfl⟩;have hlen:=Lib.splitB_all (⟨#[58]⟩:ByteArray) (by decide) 0 (Lib.countB s ⟨#[58]⟩) s rfl;have hle:=Lib.count_le s.data.toList [58];have hmap:(Lib.splitB (⟨#[58]⟩:ByteArray) 0 (Lib.countB s ⟨#[58]⟩) s).map un=zi 58 (un s):=(Lib.splitB_data _ 0 _ s).trans (pB 58 (un s));have hl1:=zb s;have hst:=jP w (Lib.splitB (⟨#[58]⟩:ByteArray) 0 (Lib.countB s ⟨#[58]⟩) s) 9 (by rw [hlen];show Lib.count s.data.toList [58]+1≤maxLen;unfold maxLen;change (s.data.toList).length=s.size at hl1;omega);rw [hmap,hlen] at hst;exact ⟨_,rfl,hst,(Below.refl _ w).alloc (Nat.le_refl _) _⟩
theorem splitD_count (c:UInt8):∀ l:Bs,(zi c l).length≤l.length+1
 | []=>by simp [zi]
 | b::r=>by
  have ih:=splitD_count c r;unfold zi;split
  ·simp;omega
  split
  ·rename_i h t e;rw [e] at ih;simp at ih ⊢;omega
  simp
theorem gl {last:Bool} {x:Bs} {g:Nat} (h:vt x=some g) (r:List Bs) (acc:List Nat):xS last (x::r) acc=xS last r (acc++[g]):=by rw [xS,h]
theorem gm {last:Bool} {x:Bs} (h:vt x=none) (r:List Bs) (acc:List Nat):xS last (x::r) acc=if (yS x).2=true∧last=true∧r=[] then some (acc++[(yS x).1 / 65536,(yS x).1 % 65536]) else none:=by rw [xS,h]
set_option maxHeartbeats 4000000
theorem ZQ (s:ByteArray) (last:Bool) (w:World) (hB:Base w) (hs:s.size≤100000):Calls Tryz.prog 252 #[.string s,.bool last] w fun e w'=>∃ v,e= .returned (.tuple #[v,.bool (yH (un s) last).isSome])∧w'.ownsRow w.heap.size 57 1 v ((yH (un s) last).getD []).length (zg ((yH (un s) last).getD []))∧Below w.heap.size w w':=by
 by_cases hz:s.size=0
 ·have hun:un s=[]:=List.eq_nil_of_length_eq_zero (by rw [zb];exact hz);have h1:s.toList.isEmpty=true:=by rw [zl,hun];rfl
  have hend:Hid (yH (un s) last=some []):=KZ9 (by rw [hun];rfl);clear hz hun;go_enter Tryz.func252,Tryz.ntmps252
  go_wp2;go_step3;go_wp2
  (try rw [Exit.noGoto_ret])
  go_ret2;rw [hend.out];exact ⟨_,rfl,World.ownsRow_nil _ _ _ _,Below.refl _ _⟩
 have hne:un s≠[]:=fun e=>hz (by rw [←zb,e];rfl);have h1:s.toList.isEmpty=false:=by
  rw [zl];cases hu:un s with
  | nil=>exact absurd hu hne
  | cons a b=>rfl
 obtain ⟨iU0,iU⟩:=info_parts Te;have HS:=KZ9 (Wh s w hB (by omega));have hlen:=yJ 58 (un s);have hcnt:=splitD_count 58 (un s);have hdef:Hid (yH (un s) last=xS last (zi 58 (un s)) []):=KZ9 (if_neg hne);obtain ⟨R,hR⟩:=KZ6 (yH (un s) last);rw [←hR] at hdef ⊢;obtain ⟨L,hL⟩:=KZ6 (zi 58 (un s));rw [←hL] at hdef HS hlen hcnt;rw [zb] at hlen hcnt;have HLEN:=KZ9 hlen;have HBS:=KZ9 hB;clear hR hL hne hz hlen hB;go_enter Tryz.func252,Tryz.ntmps252
 go_wp2;go_step3;go_wp2_with fail
 refine HS.out.mono ?_;rintro e w1 ⟨v,rfl,hst,hb⟩;clear HS;have HB1:=KZ9 (HBS.out.below hb);obtain ⟨a,c,rfl,hn,hm,hc⟩:=hst.open;unfold maxLen at hm;have HC:=KZ9 hc;clear hc hst HBS;obtain ⟨n,hn0⟩:∃ n,L.length=n:=⟨_,rfl⟩;rw [hn0] at hn hcnt ⊢;have HN:=KZ9 hn0;clear hn0;go_wp2;go_step3;go_wp2;go_loopw [6,20] (fun ov iv wr=>∃ (k:Nat) (acc:List Nat),iv= .int .i64 k∧k≤n∧acc.length≤k∧wr.ownsRow w1.heap.size 57 1 ov acc.length (zg acc)∧Hid (R=xS last (L.drop k) acc)∧Below w1.heap.size w1 wr) (fun _ iv _=>n - (intOf iv).toNat)
 case atStart=>exact ⟨0,[],rfl,by omega,by simp,World.ownsRow_nil _ _ _ _,hdef,Below.refl _ _⟩
 case round =>
  obtain ⟨k,acc,rfl,hk,hacc,hown,hst,hnx⟩:=hrel;have hsz:=hnx.size;by_cases hlt:k<n
  ·obtain ⟨b,off,rfl,hb1,hcell⟩:=HC.out (by rw [HN.out];omega);have hkl:k<L.length:=by rw [HN.out];exact hlt
   have c0:=((yA hnx).1 b (off+k) hb1).trans (hcell k hkl);have hlen:=HLEN.out L[k] (List.getElem_mem hkl);have hst2:Hid (R=xS last (L[k]::L.drop (k+1)) acc):=KZ9 (by rw [hst.out,List.drop_eq_getElem_cons hkl]);obtain ⟨x,hx⟩:=KZ6 (L[k]);rw [←hx] at c0 hlen hst2;clear hcell hst hx hkl;have hd:=fun W=>R1 (mk x) W;simp only [zj] at hd;cases hg:vt x with
   | some g =>
    rw [hg] at hd;have HD:=KZ9 hd;have hnext:Hid (R=xS last (L.drop (k+1)) (acc++[g])):=KZ9 (by rw [hst2.out,gl hg]);clear hd hg hst2;go_wp2_with fail
    refine (HD.out _).mono ?_;rintro e w2 ⟨rfl,rfl⟩;unfold vh;go_wp2_with (first | (at_builtin;refine wpList_append_own _ rfl (.tmp 31) (.tmp 33) 171 rfl (w1.heap.size) 57 iU0 (.int .u16 0) 1 2 Tryz.underlying171 iU.1 iU.2.1 iU.2.2.1 iU.2.2.2 rfl (by decide) _ _ _ rfl (hown.alloc _) ⟨wr.heap.size,0,none⟩ 1 1 [_] rfl rfl (cell_one_new _ _ _) (by intro u hu;simp at hu;subst hu;rfl) (by unfold maxLen;omega) (by omega) (by simp;omega) ?_;intro v1 w3 hown1 hgrow1 hnil1))
    go_roundw
    case rel =>
     refine ⟨k+1,acc++[g],by go_num,by omega,by simp;omega,?_,hnext,(hnx.alloc (by omega) _).grown hgrow1 (by simp;omega) (fun j hj=>(hown.lt j hj).1)⟩;rw [wL,List.length_append];exact hown1
    case measure=>simp [intOf];omega
   | none =>
    rw [hg] at hd;have HD:=KZ9 hd;have hpx:=fun W h=>R2 (mk x) W h (by rw [zh];omega);simp only [zj] at hpx;have hpl:=pK x;have hnext:Hid (R=if (yS x).2=true∧last=true∧L.drop (k+1)=[] then some (acc++[(yS x).1 / 65536,(yS x).1 % 65536]) else none):=KZ9 (by rw [hst2.out,gm hg]);obtain ⟨p,hp⟩:=KZ6 (yS x);simp only [←hp] at hpx hnext hpl;clear hd hg hst2 hp;obtain ⟨p,ok⟩:=p;simp only at hpx hnext hpl;have HP:=KZ9 hpx;clear hpx;have HBr:=KZ9 (HB1.out.below hnx);have hdr:Hid (L.drop (k+1)=[]↔k+1=n):=KZ9 (by rw [List.drop_eq_nil_iff,HN.out];omega);by_cases hgood:ok=true∧last=true∧k+1=n
    ·obtain ⟨rfl,rfl,hkn⟩:=hgood;have hend:Hid (R=some (acc++[p / 65536,p % 65536])):=KZ9 (by rw [hnext.out,if_pos ⟨rfl,rfl,hdr.out.2 hkn⟩]);have g1:decide ((k:Int)<(n:Int) - 1)=false:=KZ8 (by omega);have g2:(n:Int) - 1≤(k:Int):=by omega
     have hp1:(p:Int) / 65536<65536:=by omega
     clear hnext hdr;go_wp2_with fail
     refine (HD.out _).mono ?_;rintro e w2 ⟨rfl,rfl⟩;unfold vh;go_wp2_with fail
     refine (HP.out _ HBr.out).mono ?_;rintro e w3 ⟨rfl,hb3⟩;have hown3:=uw hown hb3;have hs3:=hb3.size;go_wp2_with (first | (at_builtin;refine wpList_append_own _ rfl (.tmp 53) (.tmp 59) 171 rfl w1.heap.size 57 iU0 (.int .u16 0) 1 2 Tryz.underlying171 iU.1 iU.2.1 iU.2.2.1 iU.2.2.2 rfl (by decide) _ _ _ rfl (hown3.alloc _) ⟨w3.heap.size,0,none⟩ 2 2 [_,_] rfl rfl (cell_two_new _ _ _ _) (by intro u hu;simp at hu;rcases hu with rfl | rfl<;>rfl) (by unfold maxLen;omega) (by omega) (by simp;omega) ?_;intro v1 w4 hown1 hgrow1 hnil1))
     all_goals try omega
     (try rw [Exit.noGoto_ret])
     go_ret2;rw [hend.out];refine ⟨_,rfl,?_,hb.trans (((hnx.trans (hb3.mono hnx.size)).alloc (by omega) _ |>.grown hgrow1 (by simp;omega) (fun j hj=>(hown3.lt j hj).1)).mono hb.size)⟩;have e:=qM hown1 hb.size;show World.ownsRow _ _ _ 1 _ (acc++[p / 65536,p % 65536]).length (zg (acc++[p / 65536,p % 65536]));rw [wL,List.length_append];exact e
    have hend:Hid (R=none):=KZ9 (by rw [hnext.out,if_neg (fun h=>hgood ⟨h.1,h.2.1,hdr.out.1 h.2.2⟩)]);have hcs:ok=false∨(ok=true∧last=false)∨(ok=true∧last=true∧k+1<n):=by
     cases ok
     ·exact .inl rfl
     cases last
     ·exact .inr (.inl ⟨rfl,rfl⟩)
     exact .inr (.inr ⟨rfl,rfl,by have:k+1≠n:=fun e=>hgood ⟨rfl,rfl,e⟩;omega⟩)
    clear hnext hdr hgood;rcases hcs with rfl | ⟨rfl,rfl⟩ | ⟨rfl,rfl,hkn⟩
    all_goals
     go_wp2_with fail
     refine (HD.out _).mono ?_;rintro e w2 ⟨rfl,rfl⟩;unfold vh;go_wp2_with fail
     refine (HP.out _ HBr.out).mono ?_;rintro e w3 ⟨rfl,hb3⟩
     (try have g1:decide ((k:Int)<(n:Int) - 1)=true:=KZ7 (by omega))
     (try have g2:(k:Int)<(n:Int) - 1:=by omega)
     go_wp2
     all_goals try omega
     (try rw [Exit.noGoto_ret])
     go_ret2;rw [hend.out];exact ⟨_,rfl,World.ownsRow_nil _ _ _ _,hb.trans ((hnx.trans (hb3.mono hnx.size)).mono hb.size)⟩
  obtain rfl:k=n:=by omega
  have hend:Hid (R=some acc):=KZ9 (by rw [hst.out,List.drop_of_length_le (by rw [HN.out];omega)];rfl);clear hst;go_wp2
  (try rw [Exit.noGoto_ret])
  go_ret2;rw [hend.out];exact ⟨_,rfl,qM hown hb.size,hb.trans (hnx.mono hb.size)⟩
end Go.Proofs.YtjbciamhhfcdoaaGreatDoor
namespace Hs
open Go Go.RowKit
def Blk3 (w:World) (g:Nat) (T:TypeId) (a b c:Value):Prop:=w.heap[g]? =some (.cells #[a,b,c] T (0,0))
section
variable {w w' : World} {g : Nat} {T : TypeId} {a b c : Value}
theorem Blk3.lt (h:Blk3 w g T a b c):g<w.heap.size:=(Array.getElem?_eq_some_iff.1 h).1
theorem Blk3.c0 (h:Blk3 w g T a b c):w.cell? ⟨g,0,none⟩=some a:=by unfold Blk3 at h;simp [World.cell?,h]
theorem Blk3.c1 (h:Blk3 w g T a b c):w.cell? ⟨g,1,none⟩=some b:=by unfold Blk3 at h;simp [World.cell?,h]
theorem Blk3.c2 (h:Blk3 w g T a b c):w.cell? ⟨g,2,none⟩=some c:=by unfold Blk3 at h;simp [World.cell?,h]
theorem Blk3.f0 (h:Blk3 w g T a b c):w.frozen? ⟨g,0,none⟩=false:=by unfold Blk3 at h;simp [World.frozen?,h]
theorem Blk3.f1 (h:Blk3 w g T a b c):w.frozen? ⟨g,1,none⟩=false:=by unfold Blk3 at h;simp [World.frozen?,h]
theorem Blk3.f2 (h:Blk3 w g T a b c):w.frozen? ⟨g,2,none⟩=false:=by unfold Blk3 at h;simp [World.frozen?,h]
theorem Blk3.below (h:Blk3 w g T a b c) (hb:Below w.heap.size w w'):Blk3 w' g T a b c:=(hb.block g h.lt).trans h
theorem Blk3.alloc (h:Blk3 w g T a b c) (o:Obj):Blk3 (w.alloc o) g T a b c:=(Below.heap_alloc w o g h.lt).trans h
theorem Blk3.new (w:World) (T:TypeId) (a b c:Value):Blk3 (w.alloc (.cells #[a,b,c] T)) w.heap.size T a b c:=heap_alloc_new w _
theorem Blk3.other (h:Blk3 w g T a b c) {p:Nat} (hp:g≠p) (j:Nat) (v:Value):Blk3 (w.setCell ⟨p,j,none⟩ v) g T a b c:=(Below.heap_setCell w ⟨p,j,none⟩ v g hp).trans h
theorem Blk3.grown {row:Option Nat} (h:Blk3 w g T a b c) (hg:w.grownBy w' row) (hn:some g≠row):Blk3 w' g T a b c:=(hg.block g h.lt hn).trans h
theorem Blk3.set0 (h:Blk3 w g T a b c) (v:Value):Blk3 (w.setCell ⟨g,0,none⟩ v) g T v b c:=by
 have hlt:=h.lt;have h':w.heap[g]= .cells #[a,b,c] T (0,0):=by simpa [Blk3,Array.getElem?_eq_getElem hlt] using h
 show (w.heap.modify g _)[g]? =_;rw [Array.getElem?_eq_getElem (by simpa using hlt),Array.getElem_modify_self,h'];rfl
theorem Blk3.set1 (h:Blk3 w g T a b c) (v:Value):Blk3 (w.setCell ⟨g,1,none⟩ v) g T a v c:=by
 have hlt:=h.lt;have h':w.heap[g]= .cells #[a,b,c] T (0,0):=by simpa [Blk3,Array.getElem?_eq_getElem hlt] using h
 show (w.heap.modify g _)[g]? =_;rw [Array.getElem?_eq_getElem (by simpa using hlt),Array.getElem_modify_self,h'];rfl
theorem Blk3.set2 (h:Blk3 w g T a b c) (v:Value):Blk3 (w.setCell ⟨g,2,none⟩ v) g T a b v:=by
 have hlt:=h.lt;have h':w.heap[g]= .cells #[a,b,c] T (0,0):=by simpa [Blk3,Array.getElem?_eq_getElem hlt] using h
 show (w.heap.modify g _)[g]? =_;rw [Array.getElem?_eq_getElem (by simpa using hlt),Array.getElem_modify_self,h'];rfl
end
theorem zf {P:Program} {fn:Func} {p u:Tmp} {ty:TypeId} (h:fn.results=#[.cell p ty,.tmp u]) (tmps:Array Value) (w:World) (g:Nat) (t:TypeId) (cs:Array Value) (d:TypeDesc)
  (hp:tmps.getD p undef= .pointer (some ⟨g,0,none⟩)) (hg:w.heap[g]? =some (.cells cs t (0,0))) (hu:P.underlying ty=some d) (hd:(match d with | .struct _ | .array _ _=>true | _=>false)=true) (hi:(P.info? ty).map (·.size)=some cs.size) :
  (results fn tmps).run P w= .ok (.tuple #[.agg cs,tmps.getD u undef]) w:=by
 rw [results_cell_tmp h,hp];simp [asAddr,run_loadVar_row w g t ty cs (0,0) d hg hu hd hi,Result.andThen]
end Hs
