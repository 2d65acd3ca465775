/- What the proof of TopClock uses, part Clk04. -/
import Derived.Test.YtbnnlkdhpifpeaaGreatDoorClk03
import Derived.LaidMore
import Derived.Stop.LaidErr
import Derived.Lib.AppendIntMem
import Derived.Laws.CopyOwn
set_option linter.unusedSimpArgs false
set_option linter.unusedVariables false
namespace Go.Proofs.YtbnnlkdhpifpeaaGreatDoor
open Go.RowKit Hs
set_option maxHeartbeats 1500000
theorem cI (s:ByteArray) (w:World) (hs:s.size≤100000000):Calls Tryz.prog 27 #[.string s] w fun e w'=>e= .returned (.bool (uQ (un s)))∧w=w':=by
  go_enter Tryz.func27,Tryz.ntmps27
  go_wp2;go_loop [3] (fun i=>∃ k:Nat,i= .int .i64 k∧k≤s.size∧Hid ((un s).all zF=((un s).drop k).all zF)) (fun i=>s.size - (intOf i).toNat)
  case atStart=>exact ⟨0,rfl,by omega,rfl⟩
  case round =>
    obtain ⟨k,rfl,hk,ha⟩:=hrel;by_cases hlt:k<s.size
    · cases hb:zF (s[k]'hlt)
      · have hno:Hid (false=uQ (un s)):=by
          have e1:=ha.out;unfold uQ;rw [e1,zB (un s) zF k (by rw [za];omega) false hb];simp [Hid]
        have hb2:=hb;simp only [zF,decide_eq_false_iff_not] at hb2;go_wp2
        all_goals
          first
          | (go_ret
             exact ⟨yH hno.out,rfl⟩)
          | (exfalso;omega)
      · have hyes:Hid ((un s).all zF=((un s).drop (k+1)).all zF):=by
          have e1:=ha.out;rw [e1,zB (un s) zF k (by rw [za];omega) true hb];simp [Hid]
        have hb2:=hb;simp only [zF,decide_eq_true_eq] at hb2;go_wp2
        all_goals
          first
          | (exfalso;omega)
          | (go_round
             case rel=>exact ⟨k+1,by go_num,by omega,hyes⟩
             case measure=>simp [intOf];omega)
    · obtain rfl:k=s.size:=by omega
      have hfin:Hid ((un s).all zF=true):=by
        have e1:=ha.out;rw [List.drop_eq_nil_of_le (by rw [za];omega)] at e1;exact e1
      clear ha;go_wp2;go_ret;exact ⟨yH (by unfold uQ;rw [hfin.out,zy];simp),rfl⟩
theorem Sm (s:ByteArray) (w:World) (hs:s.size≤100000000):Calls Tryz.prog 173 #[.string s] w fun e w'=>e= .returned (.bool (wV (un s)))∧w=w':=by
 have e:wV (un s)=(Lib.hasPrefix s.data.toList [48,120]||Lib.hasPrefix s.data.toList [48,88]):=by
  show wV (un s)=(Lib.hasPrefix (un s) [48,120]||Lib.hasPrefix (un s) [48,88])
  match un s with
  | []=>rfl
  | [a]=>simp [wV,Lib.hasPrefix,List.isPrefixOf]
  | a::b::r =>
   rw [Bool.eq_iff_iff];simp [wV,Lib.hasPrefix];constructor
   ·rintro ⟨rfl,rfl | rfl⟩<;>simp
   rintro (⟨rfl,rfl⟩ | ⟨rfl,rfl⟩)<;>simp
 rw [e];have c1:=fun w=>Tryz.strings_HasPrefix s ({ data:=#[48,120] }:ByteArray) w;have c2:=fun w=>Tryz.strings_HasPrefix s ({ data:=#[48,88] }:ByteArray) w;simp only [List.toList_toArray] at c1 c2;generalize Lib.hasPrefix s.data.toList [48,120]=p at c1 ⊢;generalize Lib.hasPrefix s.data.toList [48,88]=q at c2 ⊢;have C1:=KZ9 c1;have C2:=KZ9 c2;clear c1 c2 e;cases p
 ·go_enter Tryz.func173,Tryz.ntmps173
  go_wp2_with fail
  refine (C1.out _).mono ?_;rintro e w1 ⟨rfl,rfl⟩;go_wp2_with fail
  refine (C2.out _).mono ?_;rintro e w1 ⟨rfl,rfl⟩;go_wp2_with fail
  go_ret;exact ⟨rfl,rfl⟩
 go_enter Tryz.func173,Tryz.ntmps173
 go_wp2_with fail
 refine (C1.out _).mono ?_;rintro e w1 ⟨rfl,rfl⟩;go_wp2_with fail
 go_ret;exact ⟨rfl,rfl⟩
theorem rk (b:UInt8):((48:Int)≤(b.toNat:Int)∧(b.toNat:Int)≤57∧yO b=b.toNat - 48)∨((97:Int)≤(b.toNat:Int)∧(b.toNat:Int)≤102∧yO b=b.toNat - 87)∨((65:Int)≤(b.toNat:Int)∧(b.toNat:Int)≤70∧yO b=b.toNat - 55)∨(((b.toNat:Int)<48∨57<(b.toNat:Int))∧((b.toNat:Int)<97∨102<(b.toNat:Int))∧((b.toNat:Int)<65∨70<(b.toNat:Int))∧yO b=99):=by
 unfold yO;by_cases h1:48≤b.toNat∧b.toNat≤57
 ·rw [if_pos h1];omega
 rw [if_neg h1];by_cases h2:97≤b.toNat∧b.toNat≤102
 ·rw [if_pos h2];omega
 rw [if_neg h2];by_cases h3:65≤b.toNat∧b.toNat≤70
 ·rw [if_pos h3];omega
 rw [if_neg h3];omega
set_option maxHeartbeats 1600000
theorem jc (s:ByteArray) (w:World) (hs:s.size≤100000000):Calls Tryz.prog 175 #[.string s,.int .i64 10] w fun e w'=>e= .returned (.tuple #[.int .i64 (yu 10 (un s)).1,.bool (yu 10 (un s)).2])∧w=w':=by
 go_enter Tryz.func175,Tryz.ntmps175
 go_wp2;go_loop [6,12] (fun nv iv=>∃ k:Nat,iv= .int .i64 k∧k≤s.size∧nv= .int .i64 (yt 10 ((un s).take k) 0)∧yt 10 ((un s).take k) 0≤1099511627776∧Hid (zV 10 (un s)=zV 10 ((un s).drop k))) (fun _ iv=>s.size - (intOf iv).toNat)
 case atStart=>exact ⟨0,rfl,by omega,rfl,by simp [yt],rfl⟩
 case round =>
  obtain ⟨k,rfl,hk,rfl,hle,ha⟩:=hrel;by_cases hlt:k<s.size
  ·have hlu:k<(un s).length:=by rw [za];exact hlt
   have hst:=KZ9 (wz 10 (un s) k hlu);have hx:=(s[k]'hlt).toNat_lt;have hnx:Hid (yO (s[k]'hlt)<10→zV 10 (un s)=zV 10 ((un s).drop (k+1))):=by
    intro h;have e:=ha.out;rw [zV,zV,zB (un s) _ k hlu true (KZ7 h)] at e;exact e
   have hno:Hid (¬ yO (s[k]'hlt)<10→yu 10 (un s)=(0,false)):=by
    intro h;have e:zV 10 (un s)=false:=by rw [ha.out];unfold zV;rw [zB (un s) _ k hlu false (KZ8 h)];rfl
    exact if_neg (by simp [e])
   clear ha;obtain ⟨v,hv⟩:=KZ6 (yt 10 ((un s).take k) 0);rw [←hv] at hle hst ⊢;clear hv;have hdc:=rk (s[k]'hlt);obtain ⟨q,hq⟩:=KZ6 (yO (s[k]'hlt));rw [←hq] at hdc hnx hno;have hst':Hid (yt 10 ((un s).take (k+1)) 0=min (v*10+q) 1099511627776):=by rw [hq];exact hst.out
   clear hst hq;by_cases hqb:q<10
   ·have HN:=KZ9 (hnx.out hqb);clear hnx hno;rcases hdc with ⟨h1,h2,h3⟩ | ⟨h1,h2,h3⟩ | ⟨h1,h2,h3⟩ | ⟨h1,h2,h3,h4⟩
    all_goals try omega
    all_goals
     go_wp2
     all_goals try omega
     go_round
     case rel =>
      refine ⟨k+1,by go_num,by omega,?_,by rw [hst'.out];omega,HN⟩;rw [hst'.out]
      congr 1
      omega
     case measure=>simp [intOf];omega
   have HN:=KZ9 (hno.out hqb);clear hnx hno;rcases hdc with ⟨h1,h2,h3⟩ | ⟨h1,h2,h3⟩ | ⟨h1,h2,h3⟩ | ⟨h1,h2,h3,h4⟩
   all_goals try omega
   all_goals
    go_wp2
    all_goals try omega
    all_goals
     go_ret2;exact ⟨by rw [HN.out];rfl,rfl⟩
  obtain rfl:k=s.size:=by omega
  have htk:(un s).take s.size=un s:=List.take_of_length_le (by rw [za];exact Nat.le_refl _);have hfin:Hid (yu 10 (un s)=(yt 10 (un s) 0,true)):=by
   have e:zV 10 (un s)=true:=by rw [ha.out,List.drop_eq_nil_of_le (by rw [za];exact Nat.le_refl _)];rfl
   exact if_pos e
  clear ha;rw [htk] at hle ⊢;go_wp2
  all_goals try omega
  go_ret2;exact ⟨by rw [hfin.out];rfl,rfl⟩
theorem XS (s:ByteArray) (w:World) (hs:s.size≤100000000):Calls Tryz.prog 175 #[.string s,.int .i64 8] w fun e w'=>e= .returned (.tuple #[.int .i64 (yu 8 (un s)).1,.bool (yu 8 (un s)).2])∧w=w':=by
 go_enter Tryz.func175,Tryz.ntmps175
 go_wp2;go_loop [6,12] (fun nv iv=>∃ k:Nat,iv= .int .i64 k∧k≤s.size∧nv= .int .i64 (yt 8 ((un s).take k) 0)∧yt 8 ((un s).take k) 0≤1099511627776∧Hid (zV 8 (un s)=zV 8 ((un s).drop k))) (fun _ iv=>s.size - (intOf iv).toNat)
 case atStart=>exact ⟨0,rfl,by omega,rfl,by simp [yt],rfl⟩
 case round =>
  obtain ⟨k,rfl,hk,rfl,hle,ha⟩:=hrel;by_cases hlt:k<s.size
  ·have hlu:k<(un s).length:=by rw [za];exact hlt
   have hst:=KZ9 (wz 8 (un s) k hlu);have hx:=(s[k]'hlt).toNat_lt;have hnx:Hid (yO (s[k]'hlt)<8→zV 8 (un s)=zV 8 ((un s).drop (k+1))):=by
    intro h;have e:=ha.out;rw [zV,zV,zB (un s) _ k hlu true (KZ7 h)] at e;exact e
   have hno:Hid (¬ yO (s[k]'hlt)<8→yu 8 (un s)=(0,false)):=by
    intro h;have e:zV 8 (un s)=false:=by rw [ha.out];unfold zV;rw [zB (un s) _ k hlu false (KZ8 h)];rfl
    exact if_neg (by simp [e])
   clear ha;obtain ⟨v,hv⟩:=KZ6 (yt 8 ((un s).take k) 0);rw [←hv] at hle hst ⊢;clear hv;have hdc:=rk (s[k]'hlt);obtain ⟨q,hq⟩:=KZ6 (yO (s[k]'hlt));rw [←hq] at hdc hnx hno;have hst':Hid (yt 8 ((un s).take (k+1)) 0=min (v*8+q) 1099511627776):=by rw [hq];exact hst.out
   clear hst hq;by_cases hqb:q<8
   ·have HN:=KZ9 (hnx.out hqb);clear hnx hno;rcases hdc with ⟨h1,h2,h3⟩ | ⟨h1,h2,h3⟩ | ⟨h1,h2,h3⟩ | ⟨h1,h2,h3,h4⟩
    all_goals try omega
    all_goals
     go_wp2
     all_goals try omega
     go_round
     case rel =>
      refine ⟨k+1,by go_num,by omega,?_,by rw [hst'.out];omega,HN⟩;rw [hst'.out]
      congr 1
      omega
     case measure=>simp [intOf];omega
   have HN:=KZ9 (hno.out hqb);clear hnx hno;rcases hdc with ⟨h1,h2,h3⟩ | ⟨h1,h2,h3⟩ | ⟨h1,h2,h3⟩ | ⟨h1,h2,h3,h4⟩
   all_goals try omega
   all_goals
    go_wp2
    all_goals try omega
    all_goals
     go_ret2;exact ⟨by rw [HN.out];rfl,rfl⟩
  obtain rfl:k=s.size:=by omega
  have htk:(un s).take s.size=un s:=List.take_of_length_le (by rw [za];exact Nat.le_refl _);have hfin:Hid (yu 8 (un s)=(yt 8 (un s) 0,true)):=by
   have e:zV 8 (un s)=true:=by rw [ha.out,List.drop_eq_nil_of_le (by rw [za];exact Nat.le_refl _)];rfl
   exact if_pos e
  clear ha;rw [htk] at hle ⊢;go_wp2
  all_goals try omega
  go_ret2;exact ⟨by rw [hfin.out];rfl,rfl⟩
theorem Yc (s:ByteArray) (w:World) (hs:s.size≤100000000):Calls Tryz.prog 175 #[.string s,.int .i64 16] w fun e w'=>e= .returned (.tuple #[.int .i64 (yu 16 (un s)).1,.bool (yu 16 (un s)).2])∧w=w':=by
 go_enter Tryz.func175,Tryz.ntmps175
 go_wp2;go_loop [6,12] (fun nv iv=>∃ k:Nat,iv= .int .i64 k∧k≤s.size∧nv= .int .i64 (yt 16 ((un s).take k) 0)∧yt 16 ((un s).take k) 0≤1099511627776∧Hid (zV 16 (un s)=zV 16 ((un s).drop k))) (fun _ iv=>s.size - (intOf iv).toNat)
 case atStart=>exact ⟨0,rfl,by omega,rfl,by simp [yt],rfl⟩
 case round =>
  obtain ⟨k,rfl,hk,rfl,hle,ha⟩:=hrel;by_cases hlt:k<s.size
  ·have hlu:k<(un s).length:=by rw [za];exact hlt
   have hst:=KZ9 (wz 16 (un s) k hlu);have hx:=(s[k]'hlt).toNat_lt;have hnx:Hid (yO (s[k]'hlt)<16→zV 16 (un s)=zV 16 ((un s).drop (k+1))):=by
    intro h;have e:=ha.out;rw [zV,zV,zB (un s) _ k hlu true (KZ7 h)] at e;exact e
   have hno:Hid (¬ yO (s[k]'hlt)<16→yu 16 (un s)=(0,false)):=by
    intro h;have e:zV 16 (un s)=false:=by rw [ha.out];unfold zV;rw [zB (un s) _ k hlu false (KZ8 h)];rfl
    exact if_neg (by simp [e])
   clear ha;obtain ⟨v,hv⟩:=KZ6 (yt 16 ((un s).take k) 0);rw [←hv] at hle hst ⊢;clear hv;have hdc:=rk (s[k]'hlt);obtain ⟨q,hq⟩:=KZ6 (yO (s[k]'hlt));rw [←hq] at hdc hnx hno;have hst':Hid (yt 16 ((un s).take (k+1)) 0=min (v*16+q) 1099511627776):=by rw [hq];exact hst.out
   clear hst hq;by_cases hqb:q<16
   ·have HN:=KZ9 (hnx.out hqb);clear hnx hno;rcases hdc with ⟨h1,h2,h3⟩ | ⟨h1,h2,h3⟩ | ⟨h1,h2,h3⟩ | ⟨h1,h2,h3,h4⟩
    all_goals try omega
    all_goals
     go_wp2
     all_goals try omega
     go_round
     case rel =>
      refine ⟨k+1,by go_num,by omega,?_,by rw [hst'.out];omega,HN⟩;rw [hst'.out]
      congr 1
      omega
     case measure=>simp [intOf];omega
   have HN:=KZ9 (hno.out hqb);clear hnx hno;rcases hdc with ⟨h1,h2,h3⟩ | ⟨h1,h2,h3⟩ | ⟨h1,h2,h3⟩ | ⟨h1,h2,h3,h4⟩
   all_goals try omega
   all_goals
    go_wp2
    all_goals try omega
    all_goals
     go_ret2;exact ⟨by rw [HN.out];rfl,rfl⟩
  obtain rfl:k=s.size:=by omega
  have htk:(un s).take s.size=un s:=List.take_of_length_le (by rw [za];exact Nat.le_refl _);have hfin:Hid (yu 16 (un s)=(yt 16 (un s) 0,true)):=by
   have e:zV 16 (un s)=true:=by rw [ha.out,List.drop_eq_nil_of_le (by rw [za];exact Nat.le_refl _)];rfl
   exact if_pos e
  clear ha;rw [htk] at hle ⊢;go_wp2
  all_goals try omega
  go_ret2;exact ⟨by rw [hfin.out];rfl,rfl⟩
theorem jq (s:ByteArray) (k:Nat):un (s.extract k s.size)=(un s).drop k:=by
 rw [xj,List.take_of_length_le (by rw [List.length_drop,za];omega)]
theorem KZZ (s:ByteArray) (w:World) (hs:s.size≤100000000):Calls Tryz.prog 174 #[.string s] w fun e w'=>e= .returned (.tuple #[.int .i64 (zL (un s)).1,.bool (zL (un s)).2])∧w=w':=by
 have c16:=fun w=>Yc (s.extract 2 s.size) w (by rw [ByteArray.size_extract];omega);have c8:=fun w=>XS (s.extract 1 s.size) w (by rw [ByteArray.size_extract];omega);have c10:=fun w=>jc s w hs;have ch:=fun w=>Sm s w hs;simp only [jq] at c16 c8;have hlen:s.size=(un s).length:=(za s).symm;cases he:(un s).isEmpty
 ·have h1:s.toList.isEmpty=false:=by rw [zy];exact he
  have hne:un s≠[]:=fun e=>by rw [e] at he;cases he
  have hpos:0<s.size:=by rw [hlen];exact List.length_pos_iff.2 hne
  cases hx:wV (un s)
  ·rw [hx] at ch;by_cases h8:1<s.size∧(un s)[0]? =some 48
   ·have ep:zL (un s)=yu 8 ((un s).drop 1):=by
     unfold zL;rw [if_neg hne,hx,if_neg (by decide),if_pos (by rw [←hlen];exact h8)]
    rw [ep];have h0:(s[0]'hpos).toNat=48:=by
     have:=h8.2;rw [List.getElem?_eq_getElem (by rw [←hlen];exact hpos)] at this;have h:=Option.some.inj this;show ((un s)[0]'(by rw [←hlen];exact hpos)).toNat=48;rw [h];rfl
    have hgt:=h8.1;have C8:=KZ9 c8;have CH:=KZ9 ch;clear c16 c8 c10 ch he hne hx h8 ep hlen;go_enter Tryz.func174,Tryz.ntmps174
    go_wp2_with fail
    refine (CH.out _).mono ?_;rintro e w1 ⟨rfl,rfl⟩;go_wp2_with fail
    all_goals try omega
    refine (C8.out _).mono ?_;rintro e w1 ⟨rfl,rfl⟩;go_wp2_with fail
    go_ret2;exact ⟨by rw [List.drop_one];rfl,rfl⟩
   have ep:zL (un s)=yu 10 (un s):=by
    unfold zL;rw [if_neg hne,hx,if_neg (by decide),if_neg (by rw [←hlen];exact h8)]
   rw [ep];have h0:1<s.size→(s[0]'hpos).toNat≠48:=by
    intro hgt h;refine h8 ⟨hgt,?_⟩;rw [List.getElem?_eq_getElem (by rw [←hlen];exact hpos)]
    congr 1
    exact UInt8.toNat_inj.1 h
   have C10:=KZ9 c10;have CH:=KZ9 ch;clear c16 c8 c10 ch he hne hx h8 ep hlen;by_cases hgt:1<s.size
   ·have h0':=h0 hgt;clear h0;go_enter Tryz.func174,Tryz.ntmps174
    go_wp2_with fail
    refine (CH.out _).mono ?_;rintro e w1 ⟨rfl,rfl⟩;go_wp2_with fail
    all_goals try omega
    refine (C10.out _).mono ?_;rintro e w1 ⟨rfl,rfl⟩;go_wp2_with fail
    go_ret2;exact ⟨rfl,rfl⟩
   clear h0;go_enter Tryz.func174,Tryz.ntmps174
   go_wp2_with fail
   refine (CH.out _).mono ?_;rintro e w1 ⟨rfl,rfl⟩;go_wp2_with fail
   refine (C10.out _).mono ?_;rintro e w1 ⟨rfl,rfl⟩;go_wp2_with fail
   go_ret2;exact ⟨rfl,rfl⟩
  rw [hx] at ch;have ep:zL (un s)=yu 16 ((un s).drop 2):=by
   unfold zL;rw [if_neg hne,hx,if_pos rfl]
  rw [ep];have hgt:2≤s.size:=by
   rw [hlen]
   match h:un s,hx with
   | a::b::r,_=>simp
  have C16:=KZ9 c16;have CH:=KZ9 ch;clear c16 c8 c10 ch he hne hx ep hlen;go_enter Tryz.func174,Tryz.ntmps174
  go_wp2_with fail
  refine (CH.out _).mono ?_;rintro e w1 ⟨rfl,rfl⟩;go_wp2_with fail
  refine (C16.out _).mono ?_;rintro e w1 ⟨rfl,rfl⟩;go_wp2_with fail
  go_ret2;exact ⟨rfl,rfl⟩
 have h1:s.toList.isEmpty=true:=by rw [zy];exact he
 have ep:zL (un s)=(0,false):=by unfold zL;rw [if_pos (by simpa using he)]
 rw [ep];clear c16 c8 c10 ch ep hlen he;go_enter Tryz.func174,Tryz.ntmps174
 go_wp2;go_ret2;exact ⟨rfl,rfl⟩
def U8 (w:World):Prop:=Lib.Utf8Tabs 1 2 w
theorem U8.below {w w':World} (h:U8 w) (hb:Below w.heap.size w w'):U8 w':=by
 have key:∀ g k v,w.cell? ⟨g,k,none⟩=some v→w'.cell? ⟨g,k,none⟩=some v:=fun g k v e=>((wj hb).1 g k (World.block_lt_of_cell? w _ e)).trans e;exact ⟨fun c hc=>key _ _ _ (h.1 c hc),fun i hi=>⟨key _ _ _ (h.2 i hi).1,key _ _ _ (h.2 i hi).2⟩⟩
def Tab (w : World) : Prop := Lib.TabIs Tryz.prog w "internal/strconv.uint64pow10" .u64 Lib.pow10Tab ∧ 3 < w.heap.size
theorem Q6 : Tryz.prog.globalNamed "internal/strconv.uint64pow10" = some 3 := by kernel_rfl
theorem Tab.below {w w':World} (h:Tab w) (hb:Below w.heap.size w w'):Tab w':=by
 refine ⟨?_,by have:=hb.size;have:=h.2;omega⟩;have h1:=h.1;unfold Lib.TabIs at *;rw [←h1];unfold World.var?;rw [Q6];simp only [Option.bind_some];rw [hb.block _ h.2]
theorem Pn:(Tryz.prog.globals[3]?).map (·.type)=some 402:=by kernel_rfl
theorem UX:Tryz.prog.cellsOf 402=20:=by kernel_rfl
theorem SR:Tryz.prog.cellsOf 152=1:=by kernel_rfl
def Base (w:World):Prop:=Tab w∧(∃ m,w.cell? ⟨0,0,none⟩=some (.int .i64 m))∧U8 w
theorem Base.below {w w':World} (h:Base w) (hb:Below w.heap.size w w'):Base w':=by
 obtain ⟨h1,⟨m,h2⟩,h3⟩:=h;exact ⟨h1.below hb,⟨m,((wj hb).1 0 0 (World.block_lt_of_cell? w _ h2)).trans h2⟩,h3.below hb⟩
theorem Uz (s:ByteArray) (w:World) (hB:Base w) (hs:s.size≤100000000):Calls Tryz.prog 247 #[.string s,.string ⟨#[46]⟩] w fun e w'=>∃ v,e= .returned v∧Strs w' v (zg 46 (un s))∧Below w.heap.size w w':=by
 obtain ⟨_,⟨m,hm⟩,_⟩:=hB;refine (Tryz.strings_Split s ⟨#[46]⟩ m w (by omega) hm (by decide)).mono ?_;rintro e w' ⟨rfl,rfl⟩;have hlen:=Lib.splitB_all (⟨#[46]⟩:ByteArray) (by decide) 0 (Lib.countB s ⟨#[46]⟩) s rfl;have hle:=Lib.count_le s.data.toList [46];have hmap:(Lib.splitB (⟨#[46]⟩:ByteArray) 0 (Lib.countB s ⟨#[46]⟩) s).map un=zg 46 (un s):=(Lib.splitB_data _ 0 _ s).trans (gR 46 (un s));have hl1:=za s;have hst:=Tq w (Lib.splitB (⟨#[46]⟩:ByteArray) 0 (Lib.countB s ⟨#[46]⟩) s) 9 (by rw [hlen];show Lib.count s.data.toList [46]+1≤maxLen;unfold maxLen;change (s.data.toList).length=s.size at hl1;omega);rw [hmap,hlen] at hst;exact ⟨_,rfl,hst,(Below.refl _ w).alloc (Nat.le_refl _) _⟩
theorem YF {w:World} {A:List Bs} {x:Bs} {a:Option Addr} {n c:Nat} (h:Strs w (.slice a (n+1) c) (A++[x])) (hn:A.length=n):Strs w (.slice a n c) A:=by
 subst hn;obtain ⟨hl,a',c',hv,hn,hm,hc⟩:=h;injection hv with e1 e2 e3
 subst e1;subst e3;rw [List.length_append] at hn;refine ⟨by simp,_,_,rfl,by omega,hm,?_⟩;rcases Nat.eq_zero_or_pos A.length with h0 | hpos
 ·exact .inl h0
 obtain ⟨b,off,rfl,hb,hcell⟩:=hc.resolve_left (by simp);exact .inr ⟨b,off,rfl,hb,fun j u hj=>hcell j u (by rw [vf,List.getElem?_append_left (by have:=(List.getElem?_eq_some_iff.1 hj).1;exact this)];exact hj)⟩
theorem Yb (s:ByteArray) (w:World) (hB:Base w) (hs:s.size≤100000000):Calls Tryz.prog 172 #[.string s] w fun e w'=>∃ v,e= .returned v∧Strs w' v (zZ (un s))∧Below w.heap.size w w':=by
 have HS:=KZ9 (Uz s w hB hs);go_enter Tryz.func172,Tryz.ntmps172
 go_wp2_with fail
 refine HS.out.mono ?_;rintro e w1 ⟨v,rfl,hst,hb⟩;clear HS;have hpos:=rK (un s);have hpd:Hid (zZ (un s)=if 1<(zg 46 (un s)).length∧(zg 46 (un s)).getLast? =some [] then (zg 46 (un s)).dropLast else zg 46 (un s)):=KZ9 rfl;obtain ⟨P,hP⟩:=KZ6 (zZ (un s));rw [←hP] at hpd;have HP:=KZ9 hP;clear hP;generalize zg 46 (un s)=L at hst hpos hpd;rcases List.eq_nil_or_concat L with rfl | ⟨A,x,hL⟩
 ·simp at hpos
 rw [List.concat_eq_append] at hL;subst hL;have hpd2:Hid (P=if 1<(A++[x]).length∧x=[] then A else A++[x]):=KZ9 (by rw [hpd.out];simp);clear hpd hpos;obtain ⟨a,c,rfl,hn,hm,hc⟩:=hst.open;unfold maxLen at hm;obtain ⟨b,off,rfl,hb1,hcell⟩:=hc (by simp);obtain ⟨n,hA⟩:∃ n,A.length=n:=⟨_,rfl⟩;have hlen:(A++[x]).length=n+1:=by simp [hA]
 have c0:=hcell n (by rw [hlen];omega);rw [List.getElem_append_right (by omega)] at c0;simp only [hA,Nat.sub_self,List.getElem_singleton] at c0;have hca:n+1≤c:=by rw [←hlen];exact hn
 rw [hlen] at hst ⊢;rw [hlen] at hpd2;have HST:=KZ9 hst;clear hc hcell hn hst hlen;by_cases h0:0<n
 ·have h0':(0:Int)<(n:Int):=by omega
  cases hx:x.isEmpty
  ·have hfin:Hid (P=A++[x]):=KZ9 (by rw [hpd2.out,if_neg (by rintro ⟨_,rfl⟩;cases hx)]);have hx2:(mk x).toList.isEmpty=false:=by rw [zy,zk];exact hx
   clear hpd2 hx;go_wp2_with fail
   all_goals try omega
   go_ret;exact ⟨_,rfl,by rw [←HP.out,hfin.out];exact HST.out,hb⟩
  have hfin:Hid (P=A):=KZ9 (by rw [hpd2.out,if_pos ⟨by omega,by simpa using hx⟩]);have hx2:(mk x).toList.isEmpty=true:=by rw [zy,zk];exact hx
  have HC:=KZ9 (YF HST.out hA);clear hpd2 hx;go_wp2_with fail
  all_goals try omega
  go_ret;exact ⟨_,rfl,by rw [←HP.out,hfin.out];exact HC.out,hb⟩
 obtain rfl:n=0:=by omega
 have hfin:Hid (P=A++[x]):=KZ9 (by rw [hpd2.out,if_neg (by omega)]);clear hpd2;go_wp2_with fail
 all_goals try omega
 go_ret;exact ⟨_,rfl,by rw [←HP.out,hfin.out];exact HST.out,hb⟩
end Go.Proofs.YtbnnlkdhpifpeaaGreatDoor
namespace Hs
open Go
def pp:Bs→Nat→Nat
 | [],n=>n
 | b::r,n=>pp r (min (10*n+(b.toNat - 48)) 2147483647)
theorem gV:∀ (l:Bs) (b:UInt8) (n:Nat),pp (l++[b]) n=min (10*pp l n+(b.toNat - 48)) 2147483647
 | [],b,n=>rfl
 | c::l,b,n=>by
  simp only [List.cons_append,pp];exact gV l b _
theorem VZ (l:Bs) (k:Nat) (h:k<l.length):pp (l.take (k+1)) 0=min (10*pp (l.take k) 0+(l[k].toNat - 48)) 2147483647:=by
 rw [List.take_succ_eq_append_getElem h,gV]
def jg (l:Bs):Nat × Bool:=if l.all zF then (pp l 0,!l.isEmpty) else (0,false)
theorem yR (u:Nat) (h:u≤9999999999):(Lib.decDigits u).length≤10:=by
 have step:∀ (k u:Nat),0<k→u<10 ^ k→(Lib.decDigits u).length≤k:=by
  intro k
  induction k with
  | zero=>intro u h;omega
  | succ k ih =>
   intro u _ hu;rw [Lib.decDigits];split
   ·simp
   rename_i h10;have hk:0<k:=by
    rcases Nat.eq_zero_or_pos k with rfl | h
    ·simp at hu;omega
    exact h
   have:=ih (u / 10) hk (by rw [Nat.pow_succ] at hu;omega);simp;omega
 exact step 10 u (by omega) (by omega)
def lim (n m:Int):Int:=min (max n 0) m
def QE:Int:=1099511627776
def Pg:Int:=2147483647
def xG (now age:Int):Int:=min (lim now QE+lim age Pg) QE
theorem Qn (b:UInt8) (h:zF b=true):yO b=b.toNat - 48∧yO b<10:=by
 unfold zF at h;unfold yO;simp at h;have h1:=h.1;have h2:=h.2;rw [if_pos (by omega)];omega
def wS (c:UInt8):List Bs→Bs
 | []=>[]
 | [p]=>p
 | p::q::r=>p++c::wS c (q::r)
theorem XP (c b:UInt8) (h:Bs) (t:List Bs):wS c ((b::h)::t)=b::wS c (h::t):=by
 cases t<;>rfl
theorem pZ (c:UInt8):∀ l:Bs,wS c (zg c l)=l
 | []=>rfl
 | b::r=>by
  have ih:=pZ c r;unfold zg;split
  ·rename_i hb;subst hb;cases hs:zg b r with
   | nil=>exact absurd hs (ww b r)
   | cons h t=>rw [hs] at ih;show []++b::wS b (h::t)=_;rw [ih];rfl
  cases hs:zg c r with
  | nil=>exact absurd hs (ww c r)
  | cons h t=>rw [hs] at ih;simp only;rw [XP,ih]
def Sq (d:Nat):UInt8:=if d<10 then UInt8.ofNat (48+d) else UInt8.ofNat (87+d)
def sI (b n:Nat):Bs:=if _h:n<b∨b<2 then [Sq n] else sI b (n / b)++[Sq (n % b)]
termination_by n
decreasing_by exact Nat.div_lt_self (by omega) (by omega)
theorem jd {b n:Nat} (h:n<b):sI b n=[Sq n]:=by rw [sI,dif_pos (.inl h)]
theorem dP {b n:Nat} (hb:2≤b) (h:b≤n):sI b n=sI b (n / b)++[Sq (n % b)]:=by rw [sI,dif_neg (by omega)]
def DigSt (b n:Nat) (s:Bs) (m:Nat):Prop:=(s=[]∧m=n)∨(s≠[]∧sI b n=if m=0 then s else sI b m++s)
theorem DigSt.step {b n m:Nat} {s:Bs} (h2:2≤b) (h:DigSt b n s m) (hm:0<m∨s=[]):DigSt b n (Sq (m % b)::s) (m / b):=by
 right;refine ⟨by simp,?_⟩;rcases h with ⟨rfl,rfl⟩ | ⟨hs,he⟩
 ·by_cases hb:m<b
  ·rw [Nat.div_eq_of_lt hb,if_pos rfl,jd hb,Nat.mod_eq_of_lt hb]
  have:m / b≠0:=by have:=Nat.div_pos (by omega:b≤m) (by omega);omega
  rw [if_neg this,dP h2 (by omega)]
 have hm0:m≠0:=by rcases hm with h | h;omega;exact absurd h hs
 rw [he,if_neg hm0];by_cases hb:m<b
 ·rw [Nat.div_eq_of_lt hb,if_pos rfl,jd hb,Nat.mod_eq_of_lt hb];rfl
 have:m / b≠0:=by have:=Nat.div_pos (by omega:b≤m) (by omega);omega
 rw [if_neg this,dP h2 (by omega)];simp
theorem DigSt.fin {b n:Nat} {s:Bs} (h:DigSt b n s 0) (hs:s≠[]):s=sI b n:=by
 rcases h with ⟨h,_⟩ | ⟨_,h⟩
 ·exact absurd h hs
 rw [if_pos rfl] at h;exact h.symm
theorem DigSt.len {b n m:Nat} {s:Bs} (h:DigSt b n s m):s.length≤(sI b n).length:=by
 rcases h with ⟨rfl,_⟩ | ⟨_,h⟩
 ·simp
 rw [h];split
 ·exact Nat.le_refl _
 simp
theorem Yh (l:Bs) (h:l.all zF=true):wV l=false:=by
 unfold wV;split
 ·rename_i a b r;simp only [List.all_cons,Bool.and_eq_true] at h;have h2:=h.2.1;apply KZ8;rintro ⟨_,rfl | rfl⟩<;>exact absurd h2 (by decide)
 rfl
theorem Qo (b:UInt8):decide (yO b<10)=zF b:=by
 cases h:zF b
 ·apply KZ8;unfold zF at h;simp at h;unfold yO;by_cases h1:48≤b.toNat∧b.toNat≤57
  ·have:=h h1.1;omega
  rw [if_neg h1];split
  ·omega
  split<;>omega
 exact KZ7 (Qn b h).2
theorem S9 (l:Bs):zV 10 l=l.all zF:=by
 unfold zV
 congr 1
 funext b
 exact Qo b
theorem WR (l:Bs):(yu 10 l).2=l.all zF:=by
 unfold yu;rw [S9];cases l.all zF<;>rfl
def W8 (p:Bs):Bool:=if uQ p then true else (zL p).2&&decide (p[1]? =some 120∨p[1]? =some 88)
theorem Sf (p:Bs):W8 p=if wV p then (zL p).2 else (yu 10 p).2&& !p.isEmpty:=by
 unfold W8;rw [WR];cases hd:uQ p
 ·match p,hd with
  | [],_=>rfl
  | [a],hd=>simp [uQ] at hd;simp [wV,hd]
  | a::b::r,hd =>
   by_cases hb:b=120∨b=88
   ·by_cases ha:a=48
    ·have:wV (a::b::r)=true:=by simp [wV,ha,hb]
     rw [this];simp [hb]
    have h1:wV (a::b::r)=false:=by simp [wV,ha]
    have h2:zF b=false:=by rcases hb with rfl | rfl<;>decide
    have h3:zL (a::b::r)=yu 10 (a::b::r):=by
     unfold zL;rw [if_neg (by simp),h1,if_neg (by decide),if_neg (by simp [ha])]
    rw [h1,h3,WR];simp [h2]
   have h1:wV (a::b::r)=false:=by simp [wV];intro _;exact ⟨fun e=>hb (.inl e),fun e=>hb (.inr e)⟩
   rw [h1];unfold uQ at hd;simp only [List.isEmpty_cons,Bool.not_false,Bool.true_and] at hd;rw [hd];simp;intro _;exact ⟨fun e=>hb (.inl e),fun e=>hb (.inr e)⟩
 have h2:p.all zF=true∧p.isEmpty=false:=by
  unfold uQ at hd
  simpa [and_comm] using hd
 rw [Yh p h2.1,h2.1,h2.2];rfl
def Qa (l:Bs):Option Nat:=if 1≤l.length∧l.length≤4∧zV 16 l=true then some (bT 16 l 0) else none
theorem Wt:∀ (l:Bs) (n k:Nat),zV 16 l=true→n<16 ^ k→bT 16 l n<16 ^ (k+l.length)
 | [],n,k,_,h=>by simpa [bT] using h
 | b::r,n,k,ha,h=>by
  have h1:yO b<16:=by
   have:=(List.all_eq_true.1 ha) b (List.mem_cons_self ..);exact of_decide_eq_true this
  have h2:zV 16 r=true:=by
   unfold zV at ha ⊢;rw [List.all_cons,Bool.and_eq_true] at ha;exact ha.2
  have h3:n*16+yO b<16 ^ (k+1):=by rw [Nat.pow_succ];omega
  have:=Wt r (n*16+yO b) (k+1) h2 h3;rw [bT,List.length_cons,←Nat.add_assoc,Nat.add_right_comm];exact this
theorem R9 {l:Bs} {g:Nat} (h:Qa l=some g):g<65536:=by
 unfold Qa at h;split at h
 ·rename_i hc;cases h;have h1:=Wt l 0 0 hc.2.2 (by decide);have h2:(16:Nat) ^ (0+l.length)≤16 ^ 4:=Nat.pow_le_pow_right (by decide) (by omega);omega
 cases h
def Ym (last:Bool):List Bs→List Nat→Option (List Nat)
 | [],acc=>some acc
 | x::r,acc=>match Qa x with
  | some g=>Ym last r (acc++[g])
  | none=>if (ku x).2=true∧last=true∧r=[] then some (acc++[(ku x).1 / 65536,(ku x).1 % 65536]) else none
def Yk (l:Bs) (last:Bool):Option (List Nat):=if l=[] then some [] else Ym last (zg 58 l) []
theorem WO {o:Option Nat} (h:∀ v,o=some v→v<4294967296):(cV o).1<4294967296:=by
 cases o with
 | none=>exact by decide
 | some v=>exact h v rfl
theorem WB:∀ (L:List Bs) (v k:Nat),v<256 ^ k→∀ u,Ts L v=some u→u<256 ^ (k+L.length)
 | [],v,k,h,u,e=>by simp [Ts] at e;subst e;simpa using h
 | p::r,v,k,h,u,e=>by
  unfold Ts at e;cases hp:Rr p with
  | none=>rw [hp] at e;cases e
  | some n =>
   rw [hp] at e;have hn:=Rq hp;have:=WB r (v*256+n) (k+1) (by rw [Nat.pow_succ];omega) u e;rw [List.length_cons,←Nat.add_assoc,Nat.add_right_comm];exact this
theorem Uj (l:Bs):(ku l).1<4294967296:=by
 unfold ku;split
 ·rename_i h4;refine WO fun v hv=> ?_;have:=WB _ 0 0 (by decide) v hv;rw [h4] at this;exact this
 exact by decide
theorem Yl (last:Bool):∀ (L:List Bs) (acc:List Nat),(∀ x∈acc,x<65536)→∀ y,Ym last L acc=some y→∀ x∈y,x<65536
 | [],acc,h,y,e=>by simp [Ym] at e;subst e;exact h
 | p::r,acc,h,y,e=>by
  unfold Ym at e;cases hp:Qa p with
  | some g =>
   rw [hp] at e;refine Yl last r (acc++[g]) ?_ y e;intro x hx;rcases List.mem_append.1 hx with hx | hx
   ·exact h x hx
   simp at hx;subst hx;exact R9 hp
  | none =>
   rw [hp] at e;simp only at e;split at e
   ·cases e;have:=Uj p;intro x hx;rcases List.mem_append.1 hx with hx | hx
    ·exact h x hx
    simp at hx;rcases hx with rfl | rfl<;>omega
   cases e
theorem kR {l:Bs} {last:Bool} {y:List Nat} (h:Yk l last=some y):∀ x∈y,x<65536:=by
 unfold Yk at h;split at h
 ·cases h;simp
 exact Yl last _ [] (by simp) y h
def Pw:Bs→Option (Bs × Bs)
 | []=>none
 | b::r=>if b=58∧r.head? =some 58 then some ([],r.drop 1) else match Pw r with
  | some p=>some (b::p.1,p.2)
  | none=>none
def cR (l:Bs):Option (List Nat):=match Pw l with
 | none=>match Yk l true with
  | some x=>if x.length=8 then some x else none
  | none=>none
 | some p=>match Yk p.1 false,Yk p.2 true with
  | some x,some y=>if x.length+y.length≤7 then some (x++(List.replicate (8 - x.length - y.length) 0++y)) else none
  | _,_=>none
def PA (a:List Nat):Prop:=a.length=8∧∀ x∈a,x<65536
theorem ZG {l:Bs} {a:List Nat} (h:cR l=some a):PA a:=by
 unfold cR at h;split at h
 ·split at h
  ·rename_i x hx;split at h
   ·rename_i h8;cases h;exact ⟨h8,kR hx⟩
   cases h
  cases h
 split at h
 ·rename_i x y hx hy;split at h
  ·rename_i h7;cases h;refine ⟨by simp;omega,?_⟩;intro z hz;rcases List.mem_append.1 hz with hz | hz
   ·exact kR hx z hz
   rcases List.mem_append.1 hz with hz | hz
   ·rw [List.mem_replicate] at hz;omega
   exact kR hy z hz
  cases h
 cases h
def PJ (g:Nat):Bs:=sI 16 g
def QU:List Nat→Nat
 | []=>0
 | x::r=>if x=0 then QU r+1 else 0
def QK:List Nat→Nat→Nat × Nat→Nat × Nat
 | [],_,b=>b
 | x::r,i,b=>QK r (i+1) (if b.2<QU (x::r) then (i,QU (x::r)) else b)
def Sk (l:List Nat):Bs:=wS 58 (l.map PJ)
def PK (l:List Nat) (z:Nat × Nat):Bs:=if z.2<2 then Sk l else Sk (l.take z.1)++58::58::Sk (l.drop (z.1+z.2))
def PL (l:List Nat):Bs:=PK l (QK l 0 (0,0))
def hxI (b:UInt8):Int:=if 48≤b.toNat∧b.toNat≤57 then (b.toNat:Int) - 48 else if 97≤b.toNat∧b.toNat≤102 then (b.toNat:Int) - 97+10 else if 65≤b.toNat∧b.toNat≤70 then (b.toNat:Int) - 65+10 else -1
theorem dJ (b:UInt8):(48≤b.toNat∧b.toNat≤57∧hxI b=(b.toNat:Int) - 48)∨(97≤b.toNat∧b.toNat≤102∧hxI b=(b.toNat:Int) - 97+10)∨(65≤b.toNat∧b.toNat≤70∧hxI b=(b.toNat:Int) - 65+10)∨(¬ (48≤b.toNat∧b.toNat≤57)∧¬ (97≤b.toNat∧b.toNat≤102)∧¬ (65≤b.toNat∧b.toNat≤70)∧hxI b= -1):=by
 unfold hxI;split
 ·omega
 split
 ·omega
 split<;>omega
theorem kP (b:UInt8): -1≤hxI b∧hxI b<16:=by have:=dJ b;omega
def pctV:Bs→Option Bs
 | []=>some []
 | b::r =>
  if b≠37 then (pctV r).map (b::·)
  else match r with
   | x::y::q=>if hxI x<0∨hxI y<0 then none else (pctV q).map (UInt8.ofNat (16*hxI x+hxI y).toNat::·)
   | _=>none
theorem rM {b:UInt8} {r:Bs} (h:b≠37):pctV (b::r)=(pctV r).map (b::·):=by
 rw [pctV.eq_def];simp only;rw [if_pos h]
theorem ZD {x y:UInt8} {q:Bs} (hx:¬ hxI x<0) (hy:¬ hxI y<0):pctV (37::x::y::q)=(pctV q).map (UInt8.ofNat (16*hxI x+hxI y).toNat::·):=by
 rw [pctV.eq_def];simp only;rw [if_neg (by simp),if_neg (by rintro (h | h)<;>contradiction)]
theorem ZE {x y:UInt8} {q:Bs} (h:hxI x<0∨hxI y<0):pctV (37::x::y::q)=none:=by
 rw [pctV.eq_def];simp only;rw [if_neg (by simp),if_pos h]
theorem rL {r:Bs} (h:r.length<2):pctV (37::r)=none:=by
 match r,h with
 | [],_=>rw [pctV.eq_def];simp
 | [x],_=>rw [pctV.eq_def];simp
def qy (o r:Bs):Option Bs:=(pctV r).map (o++·)
theorem Xx {b:UInt8} {o r:Bs} (h:b≠37):qy o (b::r)=qy (o++[b]) r:=by
 unfold qy;rw [rM h];cases pctV r<;>simp
theorem TW {x y:UInt8} {o q:Bs} (hx:¬ hxI x<0) (hy:¬ hxI y<0):qy o (37::x::y::q)=qy (o++[UInt8.ofNat (16*hxI x+hxI y).toNat]) q:=by
 unfold qy;rw [ZD hx hy];cases pctV q<;>simp
theorem TX (o:Bs):qy o []=some o:=by simp [qy,pctV]
theorem dj {o r:Bs} (h:pctV r=none):qy o r=none:=by rw [qy,h];rfl
theorem ks:∀ (n:Nat) (l o:Bs),l.length≤n→pctV l=some o→o.length≤l.length
 | _,[],o,_,h=>by simp [pctV] at h;subst h;simp
 | 0,b::r,o,hn,h=>by simp at hn
 | n+1,b::r,o,hn,h=>by
  simp only [List.length_cons] at hn;by_cases hb:b=37
  ·subst hb
   match r,h,hn with
   | [],h,_=>rw [rL (by simp)] at h;cases h
   | [x],h,_=>rw [rL (by simp)] at h;cases h
   | x::y::q,h,hn =>
    by_cases hxy:hxI x<0∨hxI y<0
    ·rw [ZE hxy] at h;cases h
    rw [ZD (fun e=>hxy (.inl e)) (fun e=>hxy (.inr e))] at h;cases hq:pctV q with
    | none=>rw [hq] at h;cases h
    | some z =>
     rw [hq] at h;cases h;have:=ks n q z (by simp at hn;omega) hq;simp;omega
  rw [rM hb] at h;cases hr:pctV r with
  | none=>rw [hr] at h;cases h
  | some z =>
   rw [hr] at h;cases h;have:=ks n r z (by omega) hr;simp;omega
def km:Nat→Bs→List Nat
 | 0,_=>[]
 | n+1,l=>if l=[] then [] else (Lib.decodeL l).1::km n (l.drop (Lib.decodeL l).2)
def tu (l:Bs):List Nat:=km l.length l
theorem qt:∀ n,km n []=[]
 | 0=>rfl
 | _+1=>by simp [km]
theorem dh:∀ (n m:Nat) (l:Bs),l.length≤n→l.length≤m→km n l=km m l
 | 0,m,l,hn,_=>by
  have:l=[]:=List.eq_nil_of_length_eq_zero (by omega);subst this;rw [qt,qt]
 | n+1,0,l,_,hm=>by
  have:l=[]:=List.eq_nil_of_length_eq_zero (by omega);subst this;rw [qt,qt]
 | n+1,m+1,l,hn,hm=>by
  unfold km;by_cases hne:l=[]
  ·simp [hne]
  have hw:=Lib.decodeL_width l;have hl:0<l.length:=List.length_pos_iff.2 hne;rw [if_neg hne,if_neg hne,dh n m (l.drop (Lib.decodeL l).2) (by rw [List.length_drop];omega) (by rw [List.length_drop];omega)]
theorem TQ:tu []=[]:=rfl
theorem pw {l:Bs} (hne:l≠[]):tu l=(Lib.decodeL l).1::tu (l.drop (Lib.decodeL l).2):=by
 have hl:0<l.length:=List.length_pos_iff.2 hne;have hw:=Lib.decodeL_width l;obtain ⟨n,hn⟩:∃ n,l.length=n+1:=⟨l.length - 1,by omega⟩;unfold tu;rw [hn];show (if l=[] then [] else _)=_;rw [if_neg hne,dh n (l.drop (Lib.decodeL l).2).length _ (by rw [List.length_drop];omega) (Nat.le_refl _)]
theorem ZA:∀ (n:Nat) (l:Bs),(km n l).length≤n
 | 0,_=>Nat.le_refl _
 | n+1,l=>by
  unfold km;split
  ·simp
  have:=ZA n (l.drop (Lib.decodeL l).2);simp only [List.length_cons];omega
theorem kn (l:Bs):(tu l).length≤l.length:=ZA _ _
def gl (l:Bs):Bool:=l.all fun b=>decide (b.toNat<128)
theorem WK:∀ (n:Nat) (l:Bs),l.length≤n→Lib.validD l=true→gl l=false→(tu l).length<l.length
 | _,[],_,_,h=>by simp [gl] at h
 | 0,_::_,h,_,_=>by simp at h
 | n+1,b::r,hn,hv,ha=>by
  simp only [List.length_cons] at hn;by_cases hb:b.toNat<128
  ·have ha2:gl r=false:=by
    unfold gl at ha ⊢;simp only [List.all_cons,KZ7 hb,Bool.true_and] at ha;exact ha
   rw [Lib.validD_cons b r hb] at hv;have:=WK n r (by omega) hv ha2;rw [pw (by simp),Lib.decodeL_ascii b r hb];simp only [List.drop_succ_cons,List.drop_zero,List.length_cons];omega
  rw [Lib.validD_step _ (by simp)] at hv;have hw:=Lib.decodeL_width (b::r);have hle:=Lib.decodeL_le (b::r) (by simp);have h2:2≤(Lib.decodeL (b::r)).2:=by
   split at hv
   ·cases hv
   rename_i hne;rcases Nat.lt_or_ge (Lib.decodeL (b::r)).2 2 with h | h
   ·exfalso;have h1:(Lib.decodeL (b::r)).2=1:=by omega
    apply hne;refine ⟨?_,h1⟩;rw [Lib.decodeL_N] at h1 ⊢;have h0:((b::r).getD 0 0).toNat=b.toNat:=rfl;rw [h0] at h1 ⊢
    revert h1
    unfold Lib.decodeN;rw [if_neg hb]
    repeat' split
    all_goals simp
   exact h
  have:=kn ((b::r).drop (Lib.decodeL (b::r)).2);rw [pw (by simp)];simp only [List.length_cons,List.length_drop] at this hle ⊢;omega
theorem ur (s:ByteArray):∀ (f pos:Nat),Lib.runeCountFrom s f pos=(km f ((un s).drop pos)).length
 | 0,_=>rfl
 | f+1,pos=>by
  have hlen:(un s).length=s.size:=za s;unfold Lib.runeCountFrom km;by_cases hp:pos<s.size
  ·have hne:(un s).drop pos≠[]:=by
    intro e;have:=congrArg List.length e;rw [List.length_drop] at this;simp at this;omega
   rw [if_pos hp,if_neg hne,ur s f,List.drop_drop];have:Lib.decodeL ((un s).drop pos)=Utf8.decode s pos:=Lib.decodeL_drop s pos;rw [this];simp only [List.length_cons];omega
  have hne:(un s).drop pos=[]:=List.drop_eq_nil_of_le (by omega);rw [if_neg hp,if_pos hne];rfl
theorem go (s:ByteArray):Lib.runeCount s=(tu (un s)).length:=by
 have:=ur s s.size 0;rw [List.drop_zero] at this;unfold Lib.runeCount tu;rw [za];exact this
def xnP:Bs:=[120,110,45,45]
def wH (l:Bs):Option Bs :=
 if Lib.validD l=false then none
 else if 256<(tu l).length then none
 else match se (tu (zt l)) with
  | none=>none
  | some c=>if zY (xnP++c)=true then some (xnP++c) else none
theorem cx {x y:Bs} (h:wH x=some y):zY y=true:=by
 unfold wH at h;split at h
 ·cases h
 split at h
 ·cases h
 split at h
 ·cases h
 split at h
 ·rename_i h2;cases h;exact h2
 cases h
def vG:List Nat:=[0,0,0,0,0,0,0,0]
structure HostP where
 kind:Nat
 name:Bs
 v4:Nat
 v6:List Nat
deriving DecidableEq
def zD:HostP:=⟨0,[],0,vG⟩
def vn (l:Bs):Option Bs:=if 256<l.length then none else if zY (zt l)=true then some (zt l) else none
def wG (l:Bs):Option Bs:=if gl l=true then vn l else wH l
theorem qq {l:Bs} (h:gl l=true):wG l=vn l:=if_pos h
def vj (l:Bs):Bs:=Lib.trimSuffix l [46]
def vE:List Bs→Option (List Bs)
 | []=>some []
 | x::r=>match wG x with
  | none=>none
  | some y=>(vE r).map (y::·)
def SE (n:Bs):Option HostP:=if 253<n.length then none else if yz n=true then none else some ⟨1,n,0,vG⟩
def Qm (s:Bs):Option HostP:=match vE (zg 46 s) with
 | none=>none
 | some l=>SE (wS 46 l)
def tv (s:Bs):Option HostP:=if yz s=true then (if (qE s).2=true then some ⟨2,[],(qE s).1,vG⟩ else none) else Qm s
def Ra (l:Bs):Option HostP:=if l.getLast? =some 93 then (cR ((l.take (l.length - 1)).drop 1)).map (fun v=>⟨3,[],0,v⟩) else none
def vF (l:Bs):Option HostP :=
 if 1024<l.length then none
 else if l.head? =some 91 then Ra l
 else match pctV l with
  | none=>none
  | some t=>tv (vj t)
def yo (h:HostP):Bool:=match h.kind with
 | 1=>zG h.name&&decide (h.v4=0)&&decide (h.v6=vG)
 | 2=>decide (h.name=[])&&decide (h.v6=vG)
 | 3=>decide (h.name=[])&&decide (h.v4=0)
 | _=>false
def xK (h:HostP):Bs:=if yo h=true then (match h.kind with
 | 1=>h.name
 | 2=>XY h.v4
 | _=>91::(PL h.v6++[93])) else []
def zE:Bs:=[104,116,116,112]
def zP:Bs:=[104,116,116,112,115]
def bWs:Bs:=[119,115]
def th:Bs:=[119,115,115]
structure UrlP where
 scheme:Bs
 user:Bs
 host:HostP
 port:Int
 rest:Bs
deriving DecidableEq
def zJ:UrlP:=⟨[],[],zD,0,[]⟩
def zS (s:Bs):Int:=if s=zE∨s=bWs then 80 else if s=zP∨s=th then 443 else -1
theorem uu (s:Bs):(zS s=80∧(s=zE∨s=bWs))∨(zS s=443∧(s=zP∨s=th))∨(zS s= -1∧¬ (s=zE∨s=bWs)∧¬ (s=zP∨s=th)):=by
 unfold zS;by_cases h:s=zE∨s=bWs
 ·rw [if_pos h];exact .inl ⟨rfl,h⟩
 rw [if_neg h];by_cases h2:s=zP∨s=th
 ·rw [if_pos h2];exact .inr (.inl ⟨rfl,h2⟩)
 rw [if_neg h2];exact .inr (.inr ⟨rfl,h,h2⟩)
def uY (b:UInt8):Bool:=R1 b||rf b
def cH (b:UInt8):Bool:=uY b||decide (b∈([48,49,50,51,52,53,54,55,56,57,43,45,46]:Bs))
def vI:Bs→Bool
 | []=>false
 | b::r=>uY b&&r.all cH
def um (b:UInt8):Bool:=decide (b.toNat≤32∨b.toNat=127)
def cZ:Bs→Int→Option Int
 | [],n=>some n
 | b::r,n=>if zF b=true then cZ r (min (10*max n 0+((b.toNat:Int) - 48)) 65536) else none
def kp (l:Bs):Option Int:=match cZ l (-1) with
 | none=>none
 | some n=>if n<65536 then some n else none
def xd (a:Bs):Option (Bs × Bs) :=
 if a.head? =some 91 then (if Lib.indexByte a 93<0 then none else some (a.take ((Lib.indexByte a 93).toNat+1),a.drop ((Lib.indexByte a 93).toNat+1)))
 else if Lib.indexByte a 58<0 then some (a,[]) else some (a.take (Lib.indexByte a 58).toNat,a.drop (Lib.indexByte a 58).toNat)
def uS (a:Bs):Bs × Bs:=if zl 64 a<0 then ([],a) else (a.take (zl 64 a).toNat,a.drop ((zl 64 a).toNat+1))
def tw (u:UrlP) (name tail:Bs):Option UrlP :=
 if tail≠[]∧tail.head? ≠some 58 then none
 else match vF name with
  | none=>none
  | some h=>match kp (tail.drop 1) with
   | none=>none
   | some p=>some { u with host:=h,port:=if p=zS u.scheme then u.port else p }
def xA (u:UrlP) (a:Bs):Option UrlP:=match xd (uS a).2 with
 | none=>none
 | some (n,t)=>tw { u with user:=(uS a).1 } n t
def rC (r:Bs):Nat:=if Lib.indexAny r [47,63,35]<0 then r.length else (Lib.indexAny r [47,63,35]).toNat
def Zl (r:Bs):Bs:=if r.head? =some 47 then r else 47::r
def wI (s rest:Bs):Option UrlP :=
 if zS s<0 then some ⟨s,[],zD,-1,rest⟩
 else if rest.take 2=[47,47] then xA ⟨s,[],zD,-1,Zl ((rest.drop 2).drop (rC (rest.drop 2)))⟩ ((rest.drop 2).take (rC (rest.drop 2)))
 else none
def xr (l:Bs):Option UrlP :=
 if l.any um=true then none
 else if Lib.indexByte l 58<0 then none
 else if vI (l.take (Lib.indexByte l 58).toNat)=true then wI (zt (l.take (Lib.indexByte l 58).toNat)) (l.drop ((Lib.indexByte l 58).toNat+1))
 else none
def ti (l:Bs):Option UrlP:=if 2048<l.length then none else xr l
def xx (u:UrlP):Bs :=
 if zS u.scheme<0 then u.scheme++58::u.rest
 else u.scheme++([58,47,47]++((if u.user=[] then [] else u.user++[64])++(xK u.host++((if u.port= -1 then [] else 58::Lib.itoa u.port)++u.rest))))
def yY (u:UrlP):Bool:=decide (xr (xx u)=some u)
def yN (u:UrlP):Bs:=if yY u=true then xx u else []
def xf (s:Bs):Bs:=if s=zE then zP else th
def zT (u:UrlP):UrlP:=if zS u.scheme=80 then ⟨xf u.scheme,u.user,u.host,if u.port=zS (xf u.scheme) then -1 else u.port,u.rest⟩ else u
def YS:Bs:=[102,105,108,101]
def gi:Bs:=[97,98,111,117,116]
def SX:Bs:=[100,97,116,97]
def gh:Bs:=[98,108,97,110,107]
def qV:Bs:=[115,114,99,100,111,99]
def SW:Bs:=[108,111,99,97,108,104,111,115,116]
def sw (h:HostP):Bool:=yo h&&(match h.kind with
 | 2=>decide (h.v4 / 16777216=127)
 | 3=>decide (h.v6=[0,0,0,0,0,0,0,1])
 | _=>jz SW h.name)
def xS (u:UrlP):Bool:=yY u&&(
 if u.scheme=zP∨u.scheme=th∨u.scheme=YS then true
 else if u.scheme=gi then decide (u.rest=gh∨u.rest=qV)
 else decide (0<zS u.scheme)&&sw u.host)
theorem XQ (c:UInt8) (l:Bs):Lib.index l [c]=Lib.indexByte l c:=Lib.index_one l c
def pF (c:UInt8) (l:Bs):Bs × Bs × Bool:=if Lib.indexByte l c<0 then (l,[],false) else (l.take (Lib.indexByte l c).toNat,l.drop ((Lib.indexByte l c).toNat+1),true)
theorem SK (c:UInt8) (l:Bs):Lib.cut l [c]=pF c l:=by
 unfold Lib.cut pF;rw [XQ];by_cases h:Lib.indexByte l c<0
 ·rw [if_neg (by omega),if_pos h]
 rw [if_pos (by omega),if_neg h];rfl
theorem gF (c:UInt8) (l:Bs):Lib.hasPrefix l [c]=decide (l.head? =some c):=by
 rw [tP];cases l with
 | nil=>simp
 | cons a r=>simp
theorem jL (c:UInt8) (l:Bs):Lib.trimPrefix l [c]=if l.head? =some c then l.drop 1 else l:=by
 rw [rt];have:(l.take ([c]:Bs).length=[c])↔l.head? =some c:=by
  cases l with
  | nil=>simp
  | cons a r=>simp
 by_cases h:l.head? =some c
 ·rw [if_pos h,if_pos (this.2 h)];rfl
 rw [if_neg h,if_neg (fun e=>h (this.1 e))]
end Hs
namespace Go.Proofs.YtbnnlkdhpifpeaaGreatDoor
open Go.RowKit Hs
theorem wg (s:ByteArray) (c:UInt8) (w:World):Calls Tryz.prog 202 #[.string s,.int .u8 (c.toNat:Int)] w fun e w'=>e= .returned (.int .i64 (Lib.indexByte (un s) c))∧w=w':=by
 refine (Tryz.strings_IndexByte s (c.toNat:Int) w).mono ?_;rintro e w' ⟨rfl,rfl⟩;have:((c.toNat:Int)).toNat.toUInt8=c:=by
  show UInt8.ofNat c.toNat=c;exact UInt8.ofNat_toNat
 rw [this];exact ⟨rfl,rfl⟩
theorem tM (s:ByteArray) (c:UInt8) (w:World) (hs:s.size≤100000000):Calls Tryz.prog 118 #[.string s,.int .u8 (c.toNat:Int)] w fun e w'=>e= .returned (.int .i64 (zl c (un s)))∧w=w':=by
 refine (Tryz.strings_LastIndexByte s (c.toNat:Int) (by omega) w).mono ?_;rintro e w' ⟨rfl,rfl⟩;rw [uX];exact ⟨rfl,rfl⟩
theorem uN (s:ByteArray) (c:UInt8) (w:World):Calls Tryz.prog 140 #[.string s,.string ⟨#[c]⟩] w fun e w'=>e= .returned (.bool (decide ((un s).head? =some c)))∧w=w':=by
 refine (Tryz.strings_HasPrefix s ⟨#[c]⟩ w).mono ?_;rintro e w' ⟨rfl,rfl⟩;refine ⟨?_,rfl⟩;rw [←gF];rfl
theorem kK (s:ByteArray) (c:UInt8) (w:World):Calls Tryz.prog 211 #[.string s,.string ⟨#[c]⟩] w fun e w'=>e= .returned (.string (mk (if (un s).head? =some c then (un s).drop 1 else un s)))∧w=w':=by
 refine (Tryz.strings_TrimPrefix s ⟨#[c]⟩ w).mono ?_;rintro e w' ⟨rfl,rfl⟩;refine ⟨?_,rfl⟩;rw [←jL];rfl
theorem Z1 (s:ByteArray) (w:World) (hs:s.size≤100000000):Calls Tryz.prog 143 #[.string s,.string ⟨#[46]⟩] w fun e w'=>e= .returned (.string (mk (vj (un s))))∧w=w':=by
 refine (Tryz.strings_TrimSuffix s ⟨#[46]⟩ w (by omega)).mono ?_;rintro e w' ⟨rfl,rfl⟩;exact ⟨rfl,rfl⟩
theorem Z4 (s:ByteArray) (c:UInt8) (w:World) (hB:Base w) (hs:s.size≤100000000):Calls Tryz.prog 77 #[.string s,.string ⟨#[c]⟩] w fun e w'=>e= .returned (.tuple #[.string (mk (pF c (un s)).1),.string (mk (pF c (un s)).2.1),.bool (pF c (un s)).2.2])∧Below w.heap.size w w':=by
 obtain ⟨_,⟨m,hm⟩,_⟩:=hB;refine (Tryz.strings_Cut s ⟨#[c]⟩ m w (by omega) hm).mono ?_;rintro e w' ⟨rfl,n,rfl⟩;have h:Lib.cut s.data.toList (⟨#[c]⟩:ByteArray).data.toList=pF c (un s):=SK c (un s);rw [h];exact ⟨rfl,below_drewN (Below.refl _ w) n⟩
end Go.Proofs.YtbnnlkdhpifpeaaGreatDoor
namespace Hs
open Go
theorem dU:∀ a b:Bs,(Op.bytesLess a b=true∧Lib.compareBytes a b= -1)∨(Op.bytesLess a b=false∧(a==b)=true∧Lib.compareBytes a b=0)∨(Op.bytesLess a b=false∧(a==b)=false∧Lib.compareBytes a b=1)
 | [],[]=> .inr (.inl ⟨rfl,rfl,rfl⟩)
 | [],_::_=> .inl ⟨rfl,rfl⟩
 | _::_,[]=> .inr (.inr ⟨rfl,rfl,rfl⟩)
 | a::x,b::y=>by
  have ih:=dU x y;have hl:Op.bytesLess (a::x) (b::y)=(decide (a<b)||(a==b&&Op.bytesLess x y)):=rfl;rw [hl,Lib.compareBytes];by_cases h1:a<b
  ·left;rw [if_pos h1,KZ7 h1];exact ⟨rfl,rfl⟩
  rw [if_neg h1,KZ8 h1];by_cases h2:b<a
  ·have hne:a≠b:=fun e=>by subst e;exact absurd h2 (UInt8.lt_irrefl _)
   right;right;rw [if_pos h2];have hb:(a==b)=false:=by simpa using hne
   refine ⟨by rw [hb];rfl,?_,rfl⟩;show (a==b&&x==y)=false;rw [hb];rfl
  have hab:a=b:=UInt8.le_antisymm (UInt8.not_lt.1 h2) (UInt8.not_lt.1 h1);subst hab;rw [if_neg h2];have hc:((a::x)==(a::y))=(x==y):=by show (a==a&&x==y)=_;simp
  rw [hc]
  simpa using ih
end Hs
namespace Go.Proofs.YtbnnlkdhpifpeaaGreatDoor
open Go.RowKit Hs
theorem Z2 (s:ByteArray) (w:World):Calls Tryz.prog 189 #[.string s] w fun e w'=>e= .returned (.bool false)∧w=w':=by
 go_enter Tryz.func189,Tryz.ntmps189
 go_wp2;go_ret;exact ⟨by simp,rfl⟩
theorem Se (a b:ByteArray) (w:World):Calls Tryz.prog 119 #[.string a,.string b] w fun e w'=>e= .returned (.int .i64 (Lib.compareBytes (un a) (un b)))∧w=w':=by
 have HA:=KZ9 (Z2 a w);have HB:=KZ9 (Z2 b w);have hc:=dU (un a) (un b);obtain ⟨r,hr⟩:=KZ6 (Lib.compareBytes (un a) (un b));rw [←hr] at hc ⊢;rw [←zy,←zy] at hc;clear hr;rcases hc with ⟨h1,rfl⟩ | ⟨h1,h2,rfl⟩ | ⟨h1,h2,rfl⟩
 all_goals
  go_enter Tryz.func119,Tryz.ntmps119
  go_wp2_with fail
  refine HA.out.mono ?_;rintro e w1 ⟨rfl,rfl⟩;go_wp2_with fail
  refine HB.out.mono ?_;rintro e w1 ⟨rfl,rfl⟩;go_wp2;go_ret;exact ⟨rfl,rfl⟩
theorem xo (s:ByteArray) (l:Bs):(s.toList==l)=decide (un s=l):=by
 rw [zy];by_cases h:un s=l<;>simp [h]
theorem sT (s:ByteArray) (w:World):Calls Tryz.prog 161 #[.string s] w fun e w'=>e= .returned (.int .i64 (zS (un s)))∧w=w':=by
 have hc:=uu (un s);obtain ⟨v,hv⟩:=KZ6 (zS (un s));rw [←hv] at hc ⊢;clear hv;rcases hc with ⟨rfl,h | h⟩ | ⟨rfl,h | h⟩ | ⟨rfl,h1,h2⟩
 ·have ebHttp:(s.toList==[104,116,116,112])=true:=(xo s _).trans (by rw [h];decide);have ebWs:(s.toList==[119,115])=false:=(xo s _).trans (by rw [h];decide);have ebHttps:(s.toList==[104,116,116,112,115])=false:=(xo s _).trans (by rw [h];decide);have ebWss:(s.toList==[119,115,115])=false:=(xo s _).trans (by rw [h];decide);clear h;go_enter Tryz.func161,Tryz.ntmps161
  go_wp2;go_ret;exact ⟨rfl,rfl⟩
 ·have ebHttp:(s.toList==[104,116,116,112])=false:=(xo s _).trans (by rw [h];decide);have ebWs:(s.toList==[119,115])=true:=(xo s _).trans (by rw [h];decide);have ebHttps:(s.toList==[104,116,116,112,115])=false:=(xo s _).trans (by rw [h];decide);have ebWss:(s.toList==[119,115,115])=false:=(xo s _).trans (by rw [h];decide);clear h;go_enter Tryz.func161,Tryz.ntmps161
  go_wp2;go_ret;exact ⟨rfl,rfl⟩
 ·have ebHttp:(s.toList==[104,116,116,112])=false:=(xo s _).trans (by rw [h];decide);have ebWs:(s.toList==[119,115])=false:=(xo s _).trans (by rw [h];decide);have ebHttps:(s.toList==[104,116,116,112,115])=true:=(xo s _).trans (by rw [h];decide);have ebWss:(s.toList==[119,115,115])=false:=(xo s _).trans (by rw [h];decide);clear h;go_enter Tryz.func161,Tryz.ntmps161
  go_wp2;go_ret;exact ⟨rfl,rfl⟩
 ·have ebHttp:(s.toList==[104,116,116,112])=false:=(xo s _).trans (by rw [h];decide);have ebWs:(s.toList==[119,115])=false:=(xo s _).trans (by rw [h];decide);have ebHttps:(s.toList==[104,116,116,112,115])=false:=(xo s _).trans (by rw [h];decide);have ebWss:(s.toList==[119,115,115])=true:=(xo s _).trans (by rw [h];decide);clear h;go_enter Tryz.func161,Tryz.ntmps161
  go_wp2;go_ret;exact ⟨rfl,rfl⟩
 have ebHttp:(s.toList==[104,116,116,112])=false:=(xo s _).trans (KZ8 (fun e=>h1 (.inl e)));have ebWs:(s.toList==[119,115])=false:=(xo s _).trans (KZ8 (fun e=>h1 (.inr e)));have ebHttps:(s.toList==[104,116,116,112,115])=false:=(xo s _).trans (KZ8 (fun e=>h2 (.inl e)));have ebWss:(s.toList==[119,115,115])=false:=(xo s _).trans (KZ8 (fun e=>h2 (.inr e)));clear h1 h2;go_enter Tryz.func161,Tryz.ntmps161
 go_wp2;go_ret;exact ⟨rfl,rfl⟩
theorem sS (s:ByteArray) (w:World):Calls Tryz.prog 99 #[.string s] w fun e w'=>e= .returned (.bool (decide (0<zS (un s))))∧w=w':=by
 have hd:=sT s w;have HD:=KZ9 hd;clear hd;go_enter Tryz.func99,Tryz.ntmps99
 go_wp2_with fail
 refine HD.out.mono ?_;rintro e w1 ⟨rfl,rfl⟩;go_wp2;go_ret;exact ⟨rfl,rfl⟩
def ZK (l:Bs):Int × Bool:=match cZ l (-1) with
 | none=>(0,false)
 | some n=>(n,decide (n<65536))
theorem Xr (l:Bs):kp l=if (ZK l).2=true then some (ZK l).1 else none:=by
 unfold kp ZK;cases cZ l (-1) with
 | none=>rfl
 | some n=>simp
set_option maxRecDepth 20000
set_option maxHeartbeats 4000000
theorem Tm (s:ByteArray) (w:World) (hs:s.size≤100000000):Calls Tryz.prog 210 #[.string s] w fun e w'=>e= .returned (.tuple #[.int .i64 (ZK (un s)).1,.bool (ZK (un s)).2])∧w=w':=by
 have hlen:(un s).length=s.size:=za s;obtain ⟨l,hl⟩:=KZ6 (un s);have hdef:ZK l=match cZ l (-1) with
  | none=>(0,false)
  | some n=>(n,decide (n<65536)):=rfl
 obtain ⟨R,hR⟩:=KZ6 (ZK l);rw [←hl] at hlen ⊢;rw [←hR] at hdef ⊢;have HL:=KZ9 hl;have HDEF:=KZ9 hdef;have HLEN:=KZ9 hlen;clear hl hdef hlen hR;go_enter Tryz.func210,Tryz.ntmps210
 go_wp2;go_loop [4,8] (fun nv iv=>∃ (k:Nat) (m:Int),iv= .int .i64 k∧nv= .int .i64 m∧k≤s.size∧ -1≤m∧m≤65536∧Hid (cZ l (-1)=cZ (l.drop k) m)) (fun _ iv=>s.size - (intOf iv).toNat)
 case atStart=>exact ⟨0,-1,rfl,rfl,by omega,by omega,by omega,KZ9 (by rw [List.drop_zero])⟩
 case round =>
  obtain ⟨k,m,rfl,rfl,hk,hm1,hm2,hst⟩:=hrel;by_cases hlt:k<s.size
  ·have hkl:k<l.length:=by rw [HLEN.out];exact hlt
   have hx:l[k]=s[k]:=by
    have:=HL.out;subst this;exact zR s k hlt
   have hst2:=hst.out;rw [List.drop_eq_getElem_cons hkl,hx,cZ] at hst2;have hb256:=(s[k]).toNat_lt;have hdg:zF s[k]=decide (48≤(s[k]).toNat∧(s[k]).toNat≤57):=rfl;rw [hdg] at hst2;obtain ⟨x,hx2⟩:=KZ6 ((s[k]).toNat);have cs:(s[k].toNat:Int)=(x:Int):=by rw [hx2]
   rw [←hx2] at hst2 hb256;clear hdg hx hx2 hst;by_cases hd:48≤x∧x≤57
   ·rw [if_pos (KZ7 hd)] at hst2;obtain ⟨m2,hm⟩:=KZ6 (min (10*max m 0+((x:Int) - 48)) 65536);rw [←hm] at hst2;have HST:=KZ9 hst2;have hmm:m2=min (10*max m 0+((x:Int) - 48)) 65536∧ -1≤m2∧m2≤65536:=⟨hm,by omega,by omega⟩;clear hst2;go_wp2
    all_goals try omega
    all_goals
     go_round
     case rel=>exact ⟨k+1,m2,by go_num,by go_num,by omega,by omega,by omega,HST⟩
     case measure=>simp [intOf];omega
   rw [if_neg (by simpa using hd)] at hst2;have hfin:=HDEF.out;rw [hst2] at hfin;have HFIN:=KZ9 hfin;clear hst2 hfin HDEF;go_wp2
   all_goals try omega
   all_goals
    go_ret2;rw [HFIN.out];exact ⟨rfl,rfl⟩
  have hfin:=HDEF.out;have hst2:=hst.out;rw [List.drop_of_length_le (by rw [HLEN.out];omega),cZ] at hst2;rw [hst2] at hfin;have HFIN:Hid (R=(m,decide (m<65536))):=KZ9 hfin;clear hst hst2 hfin;obtain ⟨q,hq⟩:=KZ6 (decide (m<65536));rw [←hq] at HFIN;have HQ:=KZ9 hq;clear hq;clear HDEF;go_wp2
  all_goals try omega
  go_ret2;rw [HFIN.out];exact ⟨by rw [HQ.out];rfl,rfl⟩
end Go.Proofs.YtbnnlkdhpifpeaaGreatDoor
namespace Hs
def uG (d:Int):Bool:=decide (1≤d∧d≤22)
def je (d:Int) (b:Bool):Int :=
 if 1≤d∧d≤22 then (if d=4 then 1 else if d=2∨d=20∨(d=9∧b=false) then 2 else 3) else 0
theorem dT (d r:Int) (h:(d=4∧r=1)∨((d=2∨d=20∨d=9)∧r=2)∨(d≠4∧d≠2∧d≠20∧d≠9∧1≤d∧d≤22∧r=3)∨(¬ (1≤d∧d≤22)∧r=0)):r=je d false:=by
 unfold je;simp only [and_true]
 (repeat' split)<;>omega
theorem YL (d r:Int) (h:(d=4∧r=1)∨((d=2∨d=20)∧r=2)∨(d≠4∧d≠2∧d≠20∧1≤d∧d≤22∧r=3)∨(¬ (1≤d∧d≤22)∧r=0)):r=je d true:=by
 unfold je;simp only [Bool.true_eq_false,and_false,or_false]
 (repeat' split)<;>omega
end Hs
namespace Hs
open Go
structure PinP where
 host:Bs
 sub:Bool
 expiry:Int
deriving DecidableEq
structure EntP where
 host:Bs
 sub:Bool
deriving DecidableEq
def xU (p:PinP):Bool:=zG p.host&&decide (0≤p.expiry∧p.expiry≤1099511627776)
structure CovP where
 source:Nat
 name:Bs
 exact:Bool
deriving DecidableEq
def cov0:CovP:=⟨0,[],false⟩
def covAt (now:Int) (T:List PinP) (L:List EntP) (n:Bs) (exact:Bool):Option CovP :=
 match T.find? (fun p=>decide (p.host=n)) with
 | some p=>if ¬ p.expiry≤now∧(exact=true∨p.sub=true) then some ⟨1,n,exact⟩ else covL L n exact
 | none=>covL L n exact
where covL (L:List EntP) (n:Bs) (exact:Bool):Option CovP:=match L.find? (fun x=>decide (x.host=n)) with
 | some x=>if exact=true∨x.sub=true then some ⟨2,n,exact⟩ else none
 | none=>none
def wt (now:Int) (T:List PinP) (L:List EntP):List Bs→CovP
 | []=>cov0
 | s::r=>match covAt now T L s false with
  | some c=>c
  | none=>wt now T L r
def tg (now:Int) (T:List PinP) (L:List EntP) (h:HostP):CovP :=
 if h.kind=1∧yo h=true then (match covAt now T L h.name true with
  | some c=>c
  | none=>wt now T L (yc h.name))
 else cov0
structure CtxP where
 secure:Bool
 prohibits:Bool
 upgrade:Bool
 blockAll:Bool
 hosts:List Bs
deriving DecidableEq
structure DecP where
 action:Nat
 reason:Nat
 url:Bs
deriving DecidableEq
def SH:DecP:=⟨0,0,[]⟩
def T7 (c:CtxP) (h:HostP):Bool:=yo h&&decide (xK h∈c.hosts)
def vo (u:UrlP) (d:Int) (img:Bool) (c:CtxP) (v:CovP):DecP :=
 if zS u.scheme=80∧v.source≠0 then ⟨2,2,yN (zT u)⟩
 else if xS u=true∨u.scheme=SX then ⟨1,1,yN u⟩
 else if zS u.scheme=80∧c.upgrade=true∧(d≠4∨T7 c u.host=true) then ⟨2,3,yN (zT u)⟩
 else if d=4∨c.prohibits=false then ⟨1,6,yN u⟩
 else if zS u.scheme=80∧je d img=2∧u.host.kind=1∧c.blockAll=false then ⟨2,4,yN (zT u)⟩
 else ⟨3,5,[]⟩
theorem tJ (b:UInt8):(ub b).toNat=if 65≤b.toNat∧b.toNat≤90 then b.toNat+32 else b.toNat:=by
 have h:(b+32).toNat=(b.toNat+32) % 256:=UInt8.toNat_add b 32;have hb:=b.toNat_lt;unfold ub rf;by_cases h1:65≤b.toNat∧b.toNat≤90
 ·rw [if_pos (KZ7 h1),if_pos h1,h];omega
 rw [if_neg (by simpa using h1),if_neg h1]
theorem bp (b c:UInt8) (hc:¬ (97≤c.toNat∧c.toNat≤122)) (hd:¬ (65≤c.toNat∧c.toNat≤90)):ub b=c↔b=c:=by
 have h:=tJ b;rw [←UInt8.toNat_inj,←UInt8.toNat_inj,h];split<;>omega
theorem YC (b:UInt8):yO (ub b)=yO b:=by
 have h:=tJ b;unfold yO;rw [h];by_cases h1:65≤b.toNat∧b.toNat≤90
 ·rw [if_pos h1,if_neg (by omega),if_neg (show ¬ (48≤b.toNat∧b.toNat≤57) by omega),if_neg (show ¬ (97≤b.toNat∧b.toNat≤102) by omega)];split<;>split<;>(try split)<;>omega
 rw [if_neg h1]
theorem jR (c:UInt8) (f:UInt8→UInt8) (h:∀ b,f b=c↔b=c):∀ l:Bs,zg c (l.map f)=(zg c l).map (·.map f)
 | []=>rfl
 | b::r=>by
  have ih:=jR c f h r;rw [List.map_cons,zg,zg,ih];by_cases hb:b=c
  ·rw [if_pos hb,if_pos ((h b).2 hb)];rfl
  rw [if_neg hb,if_neg (fun e=>hb ((h b).1 e))];cases hs:zg c r with
  | nil=>exact absurd hs (ww c r)
  | cons x t=>rfl
theorem tp (l:Bs):zg 46 (zt l)=(zg 46 l).map zt:=jR 46 ub (fun b=>bp b 46 (by decide) (by decide)) l
theorem rc (l:Bs):zt l=[]↔l=[]:=by simp [zt]
theorem cM (l:Bs):zZ (zt l)=(zZ l).map zt:=by
 unfold zZ;rw [tp,List.length_map,List.getLast?_map];have h:((zg 46 l).getLast?.map zt=some [])↔((zg 46 l).getLast? =some []):=by
  cases (zg 46 l).getLast? with
  | none=>simp
  | some x=>simp [rc]
 by_cases hc:1<(zg 46 l).length∧(zg 46 l).getLast? =some []
 ·rw [if_pos hc,if_pos ⟨hc.1,h.2 hc.2⟩,List.map_dropLast]
 rw [if_neg hc,if_neg (fun e=>hc ⟨e.1,h.1 e.2⟩)]
theorem Wn (n:Nat) (l:Bs):zV n (zt l)=zV n l:=by
 unfold zV zt;rw [List.all_map]
 congr 1
 funext b
 show decide (yO (ub b)<n)=_;rw [YC]
theorem jZ (n:Nat):∀ (l:Bs) (v:Nat),yt n (zt l) v=yt n l v
 | [],_=>rfl
 | b::r,v=>by
  show yt n (ub b::zt r) v=_;unfold yt;rw [YC,jZ n r]
theorem tG (n:Nat) (l:Bs):yu n (zt l)=yu n l:=by unfold yu;rw [Wn,jZ]
theorem kQ (l:Bs):wV (zt l)=wV l:=by
 match l with
 | []=>rfl
 | [_]=>rfl
 | a::b::r =>
  show decide (ub a=48∧(ub b=120∨ub b=88))=decide (a=48∧(b=120∨b=88));have h1:=bp a 48 (by decide) (by decide);have h2:=tJ b;have h3:(ub b=120∨ub b=88)↔(b=120∨b=88):=by
   rw [←UInt8.toNat_inj,←UInt8.toNat_inj,←UInt8.toNat_inj,←UInt8.toNat_inj,h2];show (_=120∨_=88)↔(b.toNat=120∨b.toNat=88);split<;>omega
  rw [decide_eq_decide,h1,h3]
theorem XF (l:Bs):zL (zt l)=zL l:=by
 unfold zL;have h0:(zt l)[0]? =some 48↔l[0]? =some 48:=by
  cases l with
  | nil=>simp [zt]
  | cons a r =>
   show some (ub a)=some 48↔some a=some 48;rw [Option.some.injEq,Option.some.injEq];exact bp a 48 (by decide) (by decide)
 have hd:∀ k,(zt l).drop k=zt (l.drop k):=fun k=>by simp [zt,List.map_drop]
 rw [kQ,hd,hd,tG,tG,tG,x6];by_cases h1:l=[]
 ·rw [if_pos h1,if_pos ((rc l).2 h1)]
 rw [if_neg h1,if_neg (fun e=>h1 ((rc l).1 e))];by_cases h2:wV l=true
 ·rw [if_pos h2,if_pos h2]
 rw [if_neg h2,if_neg h2];by_cases h3:1<l.length∧l[0]? =some 48
 ·rw [if_pos h3,if_pos ⟨h3.1,h0.2 h3.2⟩]
 rw [if_neg h3,if_neg (fun e=>h3 ⟨e.1,h0.1 e.2⟩)]
theorem kB (l:Bs):yz (zt l)=yz l:=by
 unfold yz;rw [cM,List.getLast?_map];have h:(Option.map zt (zZ l).getLast?).getD []=zt ((zZ l).getLast?.getD []):=by cases (zZ l).getLast? <;>rfl
 simp only [h,kQ,XF,tG]
 congr 2
 have:=rc ((zZ l).getLast?.getD []);cases hx:(zZ l).getLast?.getD [] with
 | nil=>rfl
 | cons a r=>rfl
theorem dI:∀ L:List Bs,(∀ x∈L,gl x=true∧x.length≤256∧zY (zt x)=true)→vE L=some (L.map zt)
 | [],_=>rfl
 | x::r,h=>by
  have ih:=dI r (fun y hy=>h y (List.mem_cons_of_mem _ hy));have ⟨h1,h2,h3⟩:=h x (List.mem_cons_self ..);rw [vE,qq h1,ih];unfold vn;rw [if_neg (by omega),if_pos h3];rfl
theorem qb {l:Bs} (h:zY l=true):1≤l.length∧l.length≤63:=by
 unfold zY at h;simp only [Bool.and_eq_true,decide_eq_true_eq] at h;exact ⟨h.1.1.1,h.1.1.2.1⟩
theorem Z6 {l:Bs} (h:zY l=true):∀ b∈l,t8 b=true:=by
 unfold zY at h;simp only [Bool.and_eq_true,List.all_eq_true] at h;exact h.1.2
theorem uy {l:Bs} (h:zG l=true):l.length≤253∧yz l=false∧∀ x∈zg 46 l,zY x=true:=by
 unfold zG at h;simp only [Bool.and_eq_true,decide_eq_true_eq,List.all_eq_true,Bool.not_eq_true'] at h;exact ⟨h.1.1,h.1.2,h.2⟩
theorem kI (c:UInt8):∀ (l:Bs),∀ b∈l,b=c∨∃ x∈zg c l,b∈x
 | [],b,h=>by cases h
 | a::r,b,h=>by
  have ih:=kI c r;by_cases ha:a=c
  ·rw [zg,if_pos ha];rcases List.mem_cons.1 h with rfl | h
   ·exact .inl ha
   rcases ih b h with h | ⟨x,hx,hb⟩
   ·exact .inl h
   exact .inr ⟨x,List.mem_cons_of_mem _ hx,hb⟩
  rw [zg,if_neg ha];cases hs:zg c r with
  | nil=>exact absurd hs (ww c r)
  | cons p t =>
   rw [hs] at ih;rcases List.mem_cons.1 h with rfl | h
   ·exact .inr ⟨b::p,List.mem_cons_self ..,List.mem_cons_self ..⟩
   rcases ih b h with h | ⟨x,hx,hb⟩
   ·exact .inl h
   rcases List.mem_cons.1 hx with rfl | hx
   ·exact .inr ⟨_,List.mem_cons_self ..,List.mem_cons_of_mem _ hb⟩
   exact .inr ⟨x,List.mem_cons_of_mem _ hx,hb⟩
theorem jQ (c:UInt8):∀ (l:Bs),∀ x∈zg c l,∀ b∈x,b∈l
 | [],x,hx,b,hb=>by simp [zg] at hx;subst hx;cases hb
 | a::r,x,hx,b,hb=>by
  have ih:=jQ c r;unfold zg at hx;split at hx
  ·rcases List.mem_cons.1 hx with rfl | hx
   ·cases hb
   exact List.mem_cons_of_mem _ (ih x hx b hb)
  cases hs:zg c r with
  | nil=>exact absurd hs (ww c r)
  | cons p t =>
   rw [hs] at hx ih;simp only at hx;rcases List.mem_cons.1 hx with rfl | hx
   ·rcases List.mem_cons.1 hb with rfl | hb
    ·exact List.mem_cons_self ..
    exact List.mem_cons_of_mem _ (ih p (List.mem_cons_self ..) b hb)
   exact List.mem_cons_of_mem _ (ih x (List.mem_cons_of_mem _ hx) b hb)
def wP (b:UInt8):Prop:=(97≤b.toNat∧b.toNat≤122)∨(48≤b.toNat∧b.toNat≤57)∨b.toNat=45∨b.toNat=95∨b.toNat=46
theorem uz {l:Bs} (h:zG l=true):∀ b∈l,wP b:=fun b hb=>by
 rcases kI 46 l b hb with rfl | ⟨x,hx,hbx⟩
 ·unfold wP;decide
 have:=Z6 ((uy h).2.2 x hx) b hbx;unfold t8 at this;have:=of_decide_eq_true this;unfold wP;omega
theorem ZR {l:Bs} (h:zG l=true):l≠[]:=by
 intro e;subst e;exact absurd h (by decide)
theorem Sa {t:Bs} (h:zG (zt t)=true):∀ b∈t,(65≤b.toNat∧b.toNat≤90)∨wP b:=fun b hb=>by
 have h2:=uz h (ub b) (List.mem_map.2 ⟨b,hb,rfl⟩);unfold wP at h2 ⊢;rw [tJ] at h2;split at h2<;>omega
theorem dE:∀ {t:Bs},(∀ b∈t,wP b)→zt t=t
 | [],_=>rfl
 | b::r,h=>by
  have h1:=h b (List.mem_cons_self ..);have ih:=dE (fun x hx=>h x (List.mem_cons_of_mem _ hx));show ub b::zt r=b::r;rw [ih]
  congr 1
  unfold wP at h1;unfold ub rf;rw [if_neg];intro e;have:=of_decide_eq_true e;omega
theorem WM:∀ l:Bs,(∀ b∈l,b≠37)→pctV l=some l
 | [],_=>rfl
 | b::r,h=>by
  rw [rM (h b (List.mem_cons_self ..)),WM r (fun x hx=>h x (List.mem_cons_of_mem _ hx))];rfl
theorem Yz {t:Bs} (h:t.getLast? ≠some 46):vj t=t:=by
 unfold vj Lib.trimSuffix;rw [if_neg];intro hs;rw [Lib.hasSuffix] at hs;obtain ⟨x,hx⟩:=List.isSuffixOf_iff_suffix.1 hs;apply h;rw [←hx];simp
theorem Xs {t:Bs} (h:zG (zt t)=true):tv t=some ⟨1,zt t,0,vG⟩:=by
 have ⟨h1,h2,h3⟩:=uy h;rw [tp] at h3;have hb:=Sa h;unfold tv Qm;rw [←kB,h2,if_neg (by simp)];have hl:vE (zg 46 t)=some ((zg 46 t).map zt):=dI _ (fun x hx=>by
  have hx2:=h3 (zt x) (List.mem_map.2 ⟨x,hx,rfl⟩);refine ⟨?_,?_,hx2⟩
  ·unfold gl;rw [List.all_eq_true];intro b hbx;have:=hb b (jQ 46 t x hx b hbx);unfold wP at this;exact KZ7 (by omega)
  have:=qb hx2;rw [x6] at this;omega)
 rw [hl];simp only;rw [←tp,pZ];unfold SE;rw [if_neg (by omega),if_neg (by rw [h2];simp)]
theorem pN (c:UInt8):∀ l:Bs,zg c (l++[c])=zg c l++[[]]
 | []=>by simp [zg]
 | b::r=>by
  rw [List.cons_append,zg,zg,pN c r];by_cases hb:b=c
  ·rw [if_pos hb,if_pos hb];rfl
  rw [if_neg hb,if_neg hb];cases hs:zg c r with
  | nil=>exact absurd hs (ww c r)
  | cons x t=>rfl
theorem XH {t:Bs} (h:zG t=true):t.getLast? ≠some 46:=by
 intro e;have hp:=(uy h).2.2;have hne:=ZR h;have hs:t=t.dropLast++[46]:=by
  obtain ⟨x,hx⟩:=List.getLast?_eq_some_iff.1 e;rw [hx];simp
 have:([]:Bs)∈zg 46 t:=by
  rw [hs,pN];simp
 have:=hp [] this;exact absurd this (by decide)
theorem XU {t:Bs} (h:zG t=true):vF t=some ⟨1,t,0,vG⟩:=by
 have hb:=uz h;have hl:=(uy h).1;have hlow:zt t=t:=dE hb;unfold vF;rw [if_neg (by omega),if_neg,WM]
 ·show tv (vj t)=_;rw [Yz (XH h)];have:=Xs (t:=t) (by rw [hlow];exact h);rw [hlow] at this;exact this
 ·intro b hx e;have:=hb b hx;subst e;unfold wP at this
  revert this
  decide
 intro e;have:=hb 91 (List.mem_of_mem_head? e);unfold wP at this
 revert this
 decide
theorem qN (c:UInt8) (r:Bs):∀ a:Bs,(∀ b∈a,b≠c)→Lib.indexByte (a++c::r) c=a.length
 | [],_=>by simp [Lib.indexByte]
 | b::a,h=>by
  have ih:=qN c r a (fun x hx=>h x (List.mem_cons_of_mem _ hx));have hb:=h b (List.mem_cons_self ..);rw [List.cons_append,Lib.indexByte,ih];have h1:(b==c)=false:=by simpa using hb
  have h2:((a.length:Int)== -1)=false:=by rw [beq_eq_false_iff_ne];omega
  rw [h1,h2];simp
theorem uZ (c:UInt8):∀ a:Bs,(∀ b∈a,b≠c)→Lib.indexByte a c= -1
 | [],_=>rfl
 | b::a,h=>by
  have ih:=uZ c a (fun x hx=>h x (List.mem_cons_of_mem _ hx));have hb:=h b (List.mem_cons_self ..);rw [Lib.indexByte,ih];have h1:(b==c)=false:=by simpa using hb
  rw [h1];simp
theorem Sg (c:UInt8) (l:Bs) (h:∀ b∈l,b≠c):zl c l= -1:=by
 have h1:=(pz c l).2 h;have:=zI c l;omega
theorem ja (cs:Bs) (c:UInt8) (r:Bs) (hc:cs.contains c=true):∀ a:Bs,(∀ b∈a,cs.contains b=false)→Lib.indexAny (a++c::r) cs=a.length
 | [],_=>by rw [List.nil_append,Lib.indexAny,if_pos hc];rfl
 | b::a,h=>by
  have ih:=ja cs c r hc a (fun x hx=>h x (List.mem_cons_of_mem _ hx));have hb:=h b (List.mem_cons_self ..);have h2:((a.length:Int)== -1)=false:=by rw [beq_eq_false_iff_ne];omega
  rw [List.cons_append,Lib.indexAny,ih,h2,hb];simp
theorem S2 (a:Bs) (h:∀ b∈a,b≠47∧b≠63∧b≠35):rC (a++[47])=a.length:=by
 have:=ja [47,63,35] 47 [] (by decide) a (fun b hb=>by
  obtain ⟨h1,h2,h3⟩:=h b hb;simp [h1,h2,h3])
 unfold rC;rw [this,if_neg (by omega)];omega
theorem Xb (s x t:Bs) (hs:0<zS s) (hx:∀ b∈x,(65≤b.toNat∧b.toNat≤90)∨wP b) (h0:x≠[]) (ht:t=[]∨t=[58,56,48]):wI s ([47,47]++((x++t)++[47]))=tw ⟨s,[],zD,-1,[47]⟩ x t:=by
 have hne:∀ (b:UInt8) (c:UInt8),b∈x→¬ (65≤c.toNat∧c.toNat≤90)→¬ wP c→b≠c:=by
  rintro b c hb h1 h2 rfl;rcases hx b hb with h | h
  ·exact h1 h
  exact h2 h
 have n47:¬ wP 47:=by unfold wP;decide
 have n63:¬ wP 63:=by unfold wP;decide
 have n35:¬ wP 35:=by unfold wP;decide
 have n64:¬ wP 64:=by unfold wP;decide
 have n58:¬ wP 58:=by unfold wP;decide
 have n91:¬ wP 91:=by unfold wP;decide
 have htb:∀ b∈t,b≠47∧b≠63∧b≠35∧b≠64:=by
  intro b hb;rcases ht with rfl | rfl
  ·cases hb
  simp at hb;rcases hb with rfl | rfl | rfl<;>decide
 have ha:∀ b∈x++t,b≠47∧b≠63∧b≠35∧b≠64:=fun b hb=>by
  rcases List.mem_append.1 hb with hb | hb
  ·exact ⟨hne b 47 hb (by decide) n47,hne b 63 hb (by decide) n63,hne b 35 hb (by decide) n35,hne b 64 hb (by decide) n64⟩
  exact htb b hb
 unfold wI;rw [if_neg (by omega),if_pos (show ([47,47]++((x++t)++[47]):Bs).take 2=[47,47] from rfl)];have hd:([47,47]++((x++t)++[47]):Bs).drop 2=(x++t)++[47]:=rfl;rw [hd,S2 _ (fun b hb=>⟨(ha b hb).1,(ha b hb).2.1,(ha b hb).2.2.1⟩)];have e1:((x++t)++[47]).drop (x++t).length=[47]:=List.drop_left;have e2:((x++t)++[47]).take (x++t).length=x++t:=List.take_left;rw [e1,e2];have hu:uS (x++t)=([],x++t):=by
  unfold uS;rw [Sg 64 _ (fun b hb=>(ha b hb).2.2.2),if_pos (by decide)]
 have hp:xd (x++t)=some (x,t):=by
  unfold xd;rw [if_neg]
  ·rcases ht with rfl | rfl
   ·rw [List.append_nil,uZ 58 x (fun b hb=>hne b 58 hb (by decide) n58),if_pos (by decide)]
   rw [qN 58 [56,48] x (fun b hb=>hne b 58 hb (by decide) n58),if_neg (by omega)];have e3:(x++[58,56,48]).take ((x.length:Int)).toNat=x:=List.take_left;have e4:(x++[58,56,48]).drop ((x.length:Int)).toNat=[58,56,48]:=List.drop_left;rw [e3,e4]
  intro e;cases x with
  | nil=>exact h0 rfl
  | cons b r =>
   simp at e;subst e;exact hne 91 91 (List.mem_cons_self ..) (by decide) n91 rfl
 unfold xA;rw [hu,hp];rfl
theorem Ul (s r:Bs) (hs:vI s=true) (hr:r.any um=false) (hc:∀ b∈s,b≠58∧um b=false):xr (s++58::r)=wI (zt s) r:=by
 unfold xr;have hb:(s++58::r).any um=false:=by
  rw [List.any_append,List.any_cons,hr,show um 58=false by decide];simp;exact fun b hb=>(hc b hb).2
 rw [if_neg (by rw [hb];simp),qN 58 r s (fun b hb=>(hc b hb).1),if_neg (by omega)];have e1:(s++58::r).take ((s.length:Int)).toNat=s:=List.take_left;have e2:(s++58::r).drop ((s.length:Int).toNat+1)=r:=by
  rw [List.drop_append];simp
 rw [e1,e2,if_pos hs]
theorem YT (x t:Bs) (hx:∀ b∈x,(65≤b.toNat∧b.toNat≤90)∨wP b) (ht:t.any um=false):([47,47]++((x++t)++[47]):Bs).any um=false:=by
 have h1:x.any um=false:=by
  rw [List.any_eq_false];intro b hb e;have:=hx b hb;have e2:=of_decide_eq_true e;unfold wP at this;omega
 rw [List.any_append,List.any_append,List.any_append,h1,ht]
 decide
theorem xB (s:Bs) {n:Bs} (h:zG n=true) (hs:vI s=true) (hl:zt s=s) (hp:0<zS s) (hc:∀ b∈s,b≠58∧um b=false):xr (s++58::([47,47]++((n++[])++[47])))=some ⟨s,[],⟨1,n,0,vG⟩,-1,[47]⟩:=by
 have hx:∀ b∈n,(65≤b.toNat∧b.toNat≤90)∨wP b:=fun b hb=> .inr (uz h b hb);rw [Ul s _ hs (YT _ _ hx (by decide)) hc,hl,Xb s _ _ hp hx (ZR h) (.inl rfl)];unfold tw;rw [if_neg (by simp),XU h];have:kp (([]:Bs).drop 1)=some (-1):=by decide
 rw [this];simp only;split<;>rfl
def zK (s n:Bs):UrlP:=⟨s,[],⟨1,n,0,vG⟩,-1,[47]⟩
theorem UJ {n:Bs} (h:zG n=true):xK ⟨1,n,0,vG⟩=n:=by
 unfold xK;rw [if_pos (by simp [yo,h])];rfl
theorem sW (s:Bs) {n:Bs} (h:zG n=true) (hp:0<zS s):xx (zK s n)=s++58::([47,47]++((n++[])++[47])):=by
 unfold xx;have:¬ zS (zK s n).scheme<0:=by show ¬ zS s<0;omega
 rw [if_neg this];show s++([58,47,47]++((if ([]:Bs)=[] then [] else _)++(xK ⟨1,n,0,vG⟩++((if (-1:Int)= -1 then [] else _)++[47]))))=_;rw [if_pos rfl,if_pos rfl,UJ h];simp
theorem tW (s:Bs) {n:Bs} (h:zG n=true) (hs:vI s=true) (hl:zt s=s) (hp:0<zS s) (hc:∀ b∈s,b≠58∧um b=false):yY (zK s n)=true:=by
 unfold yY;rw [sW s h hp,xB s h hs hl hp hc];exact KZ7 rfl
theorem qe {n:Bs} (h:zG n=true):yY (zK zE n)=true:=tW _ h (by decide) (by decide) (by decide) (by decide)
theorem Yd {n:Bs} (h:zG n=true):yY (zK zP n)=true:=tW _ h (by decide) (by decide) (by decide) (by decide)
theorem Tj (n:Bs):zT (zK zE n)=zK zP n:=rfl
theorem XT {n:Bs} (h:zG n=true):yN (zK zP n)=zP++58::([47,47]++(n++[47])):=by
 unfold yN;rw [if_pos (Yd h),sW _ h (by decide)];simp
theorem qM (c:UInt8):∀ l:Bs,c∈l→0≤Lib.indexByte l c
 | [],h=>by cases h
 | b::r,h=>by
  rw [Lib.indexByte];by_cases hb:b=c
  ·simp [hb]
  have hr:c∈r:=by
   rcases List.mem_cons.1 h with h | h
   ·exact absurd h.symm hb
   exact h
  have ih:=qM c r hr;have h1:(b==c)=false:=by simpa using hb
  have h2:(Lib.indexByte r c== -1)=false:=by rw [beq_eq_false_iff_ne];omega
  rw [h1,h2];simp;omega
theorem cG (b:UInt8) (r:Bs):vI (b::r)=(uY b&&r.all cH):=rfl
end Hs
namespace Go.Proofs.YtbnnlkdhpifpeaaGreatDoor
open Go.RowKit Hs
set_option maxRecDepth 20000
set_option maxHeartbeats 4000000
theorem Tl (s:ByteArray) (w:World) (hs:s.size≤100000000):Calls Tryz.prog 137 #[.string s] w fun e w'=>e= .returned (.bool (vI (un s)))∧w=w':=by
 have hlen:(un s).length=s.size:=za s;have hem:(s.toList==([]:Bs))=decide (un s=[]):=xo s [];obtain ⟨l,hl⟩:=KZ6 (un s);rw [←hl] at hlen hem ⊢;obtain ⟨R,hR⟩:=KZ6 (vI l);have HR:=KZ9 hR;rw [←hR];have HL:=KZ9 hl;have HLEN:=KZ9 hlen;have HEM:=KZ9 hem;clear hl hlen hem hR;go_enter Tryz.func137,Tryz.ntmps137
 go_wp2;go_loop [8] (fun iv=>∃ k:Nat,iv= .int .i64 k∧k≤s.size∧Hid (0<k→R=(l.drop k).all cH)) (fun iv=>s.size - (intOf iv).toNat)
 case atStart=>exact ⟨0,rfl,by omega,KZ9 (fun h=>by omega)⟩
 case round =>
  obtain ⟨k,rfl,hk,hall⟩:=hrel;by_cases hlt:k<s.size
  ·have hkl:k<l.length:=by rw [HLEN.out];exact hlt
   have hx:l[k]=s[k]:=by
    have:=HL.out;subst this;exact zR s k hlt
   have hdr:l.drop k=s[k]::l.drop (k+1):=by rw [←hx];exact List.drop_eq_getElem_cons hkl
   have hI:=fun W=>wg ⟨#[48,49,50,51,52,53,54,55,56,57,43,45,46]⟩ s[k] W;have hb256:=(s[k]).toNat_lt;have hlet:uY s[k]=(decide (97≤(s[k]).toNat∧(s[k]).toNat≤122)||decide (65≤(s[k]).toNat∧(s[k]).toNat≤90)):=rfl;have hsch:cH s[k]=(uY s[k]||decide (s[k]∈([48,49,50,51,52,53,54,55,56,57,43,45,46]:Bs))):=rfl;have hun:un (⟨#[48,49,50,51,52,53,54,55,56,57,43,45,46]⟩:ByteArray)=[48,49,50,51,52,53,54,55,56,57,43,45,46]:=rfl;rw [hun] at hI;have h0:k=0→R=(uY s[k]&&(l.drop (k+1)).all cH):=by
    intro h;have:l=s[k]::l.drop (k+1):=by
     conv=>lhs;rw [←List.drop_zero (l:=l),←h]
     exact hdr
    rw [HR.out]
    conv=>lhs;rw [this]
    exact cG _ _
   have h1:0<k→R=(cH s[k]&&(l.drop (k+1)).all cH):=by
    intro h;rw [hall.out h,hdr,List.all_cons]
   have hin:s[k]∈([48,49,50,51,52,53,54,55,56,57,43,45,46]:Bs)→0≤Lib.indexByte [48,49,50,51,52,53,54,55,56,57,43,45,46] s[k]:=qM _ _;have hnin:s[k]∉([48,49,50,51,52,53,54,55,56,57,43,45,46]:Bs)→Lib.indexByte [48,49,50,51,52,53,54,55,56,57,43,45,46] s[k]= -1:=fun h=>uZ _ _ (fun b hb e=>h (e▸hb));obtain ⟨mem,hmem⟩:=KZ6 (decide (s[k]∈([48,49,50,51,52,53,54,55,56,57,43,45,46]:Bs)));have hin2:mem=true→0≤Lib.indexByte [48,49,50,51,52,53,54,55,56,57,43,45,46] s[k]:=fun h=>hin (of_decide_eq_true (hmem▸h));have hnin2:mem=false→Lib.indexByte [48,49,50,51,52,53,54,55,56,57,43,45,46] s[k]= -1:=fun h=>hnin (of_decide_eq_false (hmem▸h));rw [←hmem] at hsch;obtain ⟨ix,hix⟩:=KZ6 (Lib.indexByte [48,49,50,51,52,53,54,55,56,57,43,45,46] s[k]);rw [←hix] at hin2 hnin2;simp only [←hix] at hI;rw [hsch,hlet] at h1
   rw [hlet] at h0;obtain ⟨x,hx2⟩:=KZ6 ((s[k]).toNat);have cs:(s[k].toNat:Int)=(x:Int):=by rw [hx2]
   rw [←hx2] at h0 h1 hb256;simp only [←hx2] at hI;have HI:=KZ9 hI;have H0:=KZ9 h0;have H1:=KZ9 h1;clear hI h0 h1 hlet hsch hx hx2 hdr hall hun hin hnin hmem hix;by_cases hlt2:(97≤x∧x≤122)∨(65≤x∧x≤90)
   ·have hd:(decide (97≤x∧x≤122)||decide (65≤x∧x≤90))=true:=by simpa using hlt2
    have hnext:Hid (0<k+1→R=(l.drop (k+1)).all cH):=KZ9 fun _=>by
     rcases Nat.eq_zero_or_pos k with h | h
     ·rw [H0.out h,hd,Bool.true_and]
     rw [H1.out h,hd,Bool.true_or,Bool.true_and]
    clear H0 H1 HI hd hin2 hnin2;rcases hlt2 with h | h
    all_goals
     go_wp2
     all_goals try omega
     go_round
     case rel=>exact ⟨k+1,by go_num,by omega,hnext⟩
     case measure=>simp [intOf];omega
   have hd:(decide (97≤x∧x≤122)||decide (65≤x∧x≤90))=false:=by simp;omega
   rcases Nat.eq_zero_or_pos k with h | h
   ·have hfin:Hid (R=false):=KZ9 (by rw [H0.out h,hd,Bool.false_and]);have hk0:((k:Int)==0)=true:=by simp;omega
    clear H0 H1 HI hd hin2 hnin2 h;go_wp2
    all_goals try omega
    all_goals
     go_ret;rw [hfin.out];exact ⟨rfl,rfl⟩
   have hk0:((k:Int)==0)=false:=by simp;omega
   cases mem
   ·have hfin:Hid (R=false):=KZ9 (by rw [H1.out h,hd];rfl);have hixv:=hnin2 rfl;subst hixv;clear H0 H1 hd hin2 hnin2;go_wp2_with fail
    all_goals try omega
    all_goals
     refine (HI.out _).mono ?_;rintro e w1 ⟨rfl,rfl⟩;go_wp2
     all_goals try omega
     go_ret;rw [hfin.out];exact ⟨rfl,rfl⟩
   have hixv:=hin2 rfl;have hnext:Hid (0<k+1→R=(l.drop (k+1)).all cH):=KZ9 fun _=>by rw [H1.out h,hd];simp
   clear H0 H1 hd hin2 hnin2;go_wp2_with fail
   all_goals try omega
   all_goals
    refine (HI.out _).mono ?_;rintro e w1 ⟨rfl,rfl⟩;go_wp2
    all_goals try omega
    go_round
    case rel=>exact ⟨k+1,by go_num,by omega,hnext⟩
    case measure=>simp [intOf];omega
  have hkn:k=s.size:=by omega
  have hdrop:l.drop k=[]:=List.drop_of_length_le (by rw [HLEN.out];omega);rcases Nat.eq_zero_or_pos k with h | h
  ·have hl0:l=[]:=List.eq_nil_of_length_eq_zero (by rw [HLEN.out];omega);have hfin:Hid (R=false):=KZ9 (by rw [HR.out,hl0];rfl);have hem:=HEM.out.trans (KZ7 hl0);clear hall hdrop hl0;go_wp2
   all_goals try omega
   go_ret;rw [hfin.out];exact ⟨rfl,rfl⟩
  have hfin:Hid (R=true):=KZ9 (by rw [hall.out h,hdrop];rfl);have hem:=HEM.out.trans (KZ8 (by intro e;have:=HLEN.out;rw [e] at this;simp at this;omega));clear hall hdrop;go_wp2
  all_goals try omega
  go_ret;rw [hfin.out];exact ⟨rfl,rfl⟩
theorem sy (n:Nat) (w:World) (hB:Base w) (hn:n≤9999999999):Calls Tryz.prog 226 #[.int .i64 (n:Int)] w fun e w'=>e= .returned (.string (mk (Lib.decDigits n)))∧Below w.heap.size w w':=by
 refine (Tryz.strconv_Itoa (n:Int) (by omega) (by omega) _ hB.1.1).mono ?_;rintro e w1 ⟨rfl,k,os,rfl⟩;refine ⟨?_,Lib.below_grow _ _ (Nat.le_refl _) _ _⟩;have hi:Lib.itoa (n:Int)=Lib.decDigits n:=by
  show (if (n:Int)<0 then _ else _)=_;rw [if_neg (by omega)];rfl
 rw [hi];rfl
theorem vr {w:World} {base b2:Nat} {e:TypeId} {size n:Nat} {v:Value} {xs:List Value} (h:w.ownsRow base e size v n xs) (hb:b2≤base):w.ownsRow b2 e size v n xs:=by
 refine ⟨h.1,?_⟩;rcases h.2 with h2 | ⟨g,cap,cur,hv,hbg,h3⟩
 ·exact .inl h2
 exact .inr ⟨g,cap,cur,hv,by omega,h3⟩
def yd (l:List Nat):List Value:=l.map fun (g:Nat)=> .int .u16 (g:Int)
@[simp] theorem rA (l:List Nat):(yd l).length=l.length:=by simp [yd]
def Grps (w:World) (v:Value) (l:List Nat):Prop:=Row w v 1 l.length (yd l)
theorem Grps.below {w w':World} {v:Value} {l:List Nat} (h:Grps w v l) (hb:Below w.heap.size w w'):Grps w' v l:=Row.below h hb
theorem Grps.nil (w:World):Grps w (.slice none 0 0) []:=Row.nil w 1
theorem Grps.open {w:World} {v:Value} {l:List Nat} (h:Grps w v l):∃ a cap,v= .slice a l.length cap∧l.length≤cap∧cap≤maxLen ∧
  ∀ (hn:0<l.length),∃ b off,a=some ⟨b,off,none⟩∧b<w.heap.size∧∀ j (hj:j<l.length),w.cell? ⟨b,off+j,none⟩=some (.int .u16 (l[j]:Int)):=by
 obtain ⟨hl,a,cap,rfl,hn,hm,h⟩:=h;refine ⟨a,cap,rfl,hn,hm,fun h0=> ?_⟩;rcases h with h | ⟨b,off,ha,hlt,hc⟩
 ·omega
 exact ⟨b,off,ha,hlt,fun j hj=>hc j _ (by simp [yd,List.getElem?_eq_getElem hj])⟩
theorem splitD_count (c:UInt8):∀ l:Bs,(zg c l).length≤l.length+1
 | []=>by simp [zg]
 | b::r=>by
  have ih:=splitD_count c r;unfold zg;split
  ·simp;omega
  split
  ·rename_i h t e;rw [e] at ih;simp at ih ⊢;omega
  simp
end Go.Proofs.YtbnnlkdhpifpeaaGreatDoor
namespace Hs
open Go Go.RowKit
def Blk3 (w:World) (g:Nat) (T:TypeId) (a b c:Value):Prop:=w.heap[g]? =some (.cells #[a,b,c] T (0,0))
section
variable {w w' : World} {g : Nat} {T : TypeId} {a b c : Value}
theorem Blk3.lt (h:Blk3 w g T a b c):g<w.heap.size:=(Array.getElem?_eq_some_iff.1 h).1
theorem Blk3.c0 (h:Blk3 w g T a b c):w.cell? ⟨g,0,none⟩=some a:=by unfold Blk3 at h;simp [World.cell?,h]
theorem Blk3.c1 (h:Blk3 w g T a b c):w.cell? ⟨g,1,none⟩=some b:=by unfold Blk3 at h;simp [World.cell?,h]
theorem Blk3.c2 (h:Blk3 w g T a b c):w.cell? ⟨g,2,none⟩=some c:=by unfold Blk3 at h;simp [World.cell?,h]
theorem Blk3.f0 (h:Blk3 w g T a b c):w.frozen? ⟨g,0,none⟩=false:=by unfold Blk3 at h;simp [World.frozen?,h]
theorem Blk3.f1 (h:Blk3 w g T a b c):w.frozen? ⟨g,1,none⟩=false:=by unfold Blk3 at h;simp [World.frozen?,h]
theorem Blk3.f2 (h:Blk3 w g T a b c):w.frozen? ⟨g,2,none⟩=false:=by unfold Blk3 at h;simp [World.frozen?,h]
theorem Blk3.below (h:Blk3 w g T a b c) (hb:Below w.heap.size w w'):Blk3 w' g T a b c:=(hb.block g h.lt).trans h
theorem Blk3.alloc (h:Blk3 w g T a b c) (o:Obj):Blk3 (w.alloc o) g T a b c:=(Below.heap_alloc w o g h.lt).trans h
theorem Blk3.new (w:World) (T:TypeId) (a b c:Value):Blk3 (w.alloc (.cells #[a,b,c] T)) w.heap.size T a b c:=heap_alloc_new w _
theorem Blk3.other (h:Blk3 w g T a b c) {p:Nat} (hp:g≠p) (j:Nat) (v:Value):Blk3 (w.setCell ⟨p,j,none⟩ v) g T a b c:=(Below.heap_setCell w ⟨p,j,none⟩ v g hp).trans h
theorem Blk3.grown {row:Option Nat} (h:Blk3 w g T a b c) (hg:w.grownBy w' row) (hn:some g≠row):Blk3 w' g T a b c:=(hg.block g h.lt hn).trans h
theorem Blk3.drewN (h:Blk3 w g T a b c) (n:Nat):Blk3 (w.drewN n) g T a b c:=h
theorem Blk3.set0 (h:Blk3 w g T a b c) (v:Value):Blk3 (w.setCell ⟨g,0,none⟩ v) g T v b c:=by
 have hlt:=h.lt;have h':w.heap[g]= .cells #[a,b,c] T (0,0):=by simpa [Blk3,Array.getElem?_eq_getElem hlt] using h
 show (w.heap.modify g _)[g]? =_;rw [Array.getElem?_eq_getElem (by simpa using hlt),Array.getElem_modify_self,h'];rfl
theorem Blk3.set1 (h:Blk3 w g T a b c) (v:Value):Blk3 (w.setCell ⟨g,1,none⟩ v) g T a v c:=by
 have hlt:=h.lt;have h':w.heap[g]= .cells #[a,b,c] T (0,0):=by simpa [Blk3,Array.getElem?_eq_getElem hlt] using h
 show (w.heap.modify g _)[g]? =_;rw [Array.getElem?_eq_getElem (by simpa using hlt),Array.getElem_modify_self,h'];rfl
theorem Blk3.set2 (h:Blk3 w g T a b c) (v:Value):Blk3 (w.setCell ⟨g,2,none⟩ v) g T a b v:=by
 have hlt:=h.lt;have h':w.heap[g]= .cells #[a,b,c] T (0,0):=by simpa [Blk3,Array.getElem?_eq_getElem hlt] using h
 show (w.heap.modify g _)[g]? =_;rw [Array.getElem?_eq_getElem (by simpa using hlt),Array.getElem_modify_self,h'];rfl
end
theorem zf {P:Program} {fn:Func} {p u:Tmp} {ty:TypeId} (h:fn.results=#[.cell p ty,.tmp u]) (tmps:Array Value) (w:World) (g:Nat) (t:TypeId) (cs:Array Value) (d:TypeDesc)
  (hp:tmps.getD p undef= .pointer (some ⟨g,0,none⟩)) (hg:w.heap[g]? =some (.cells cs t (0,0))) (hu:P.underlying ty=some d) (hd:(match d with | .struct _ | .array _ _=>true | _=>false)=true) (hi:(P.info? ty).map (·.size)=some cs.size) :
  (results fn tmps).run P w= .ok (.tuple #[.agg cs,tmps.getD u undef]) w:=by
 rw [results_cell_tmp h,hp];simp [asAddr,run_loadVar_row w g t ty cs (0,0) d hg hu hd hi,Result.andThen]
theorem Zu {P:Program} {fn:Func} {p u v:Tmp} {ty:TypeId} (h:fn.results=#[.cell p ty,.tmp u,.tmp v]) (tmps:Array Value) (w:World) (g:Nat) (t:TypeId) (cs:Array Value) (d:TypeDesc)
  (hp:tmps.getD p undef= .pointer (some ⟨g,0,none⟩)) (hg:w.heap[g]? =some (.cells cs t (0,0))) (hu:P.underlying ty=some d) (hd:(match d with | .struct _ | .array _ _=>true | _=>false)=true) (hi:(P.info? ty).map (·.size)=some cs.size) :
  (results fn tmps).run P w= .ok (.tuple #[.agg cs,tmps.getD u undef,tmps.getD v undef]) w:=by
 have hp':tmps[p]?.getD undef= .pointer (some ⟨g,0,none⟩):=by simpa using hp
 simp [results,h,hp',asAddr,run_loadVar_row w g t ty cs (0,0) d hg hu hd hi,Result.andThen]
end Hs
namespace Go.Proofs.YtbnnlkdhpifpeaaGreatDoor
open Go.RowKit Hs
def BlkN (w:World) (g:Nat) (T:TypeId) (cs:Array Value):Prop:=w.heap[g]? =some (.cells cs T (0,0))
theorem BlkN.lt {w:World} {g:Nat} {T:TypeId} {cs:Array Value} (h:BlkN w g T cs):g<w.heap.size:=(Array.getElem?_eq_some_iff.1 h).1
theorem BlkN.below {w w':World} {g:Nat} {T:TypeId} {cs:Array Value} (h:BlkN w g T cs) {b:Nat} (hg:g<b) (hb:Below b w w'):BlkN w' g T cs:=(hb.block g hg).trans h
theorem BlkN.new (w:World) (T:TypeId) (cs:Array Value):BlkN (w.alloc (.cells cs T)) w.heap.size T cs:=heap_alloc_new w _
theorem BlkN.alloc {w:World} {g:Nat} {T:TypeId} {cs:Array Value} (h:BlkN w g T cs) (o:Obj):BlkN (w.alloc o) g T cs:=(Below.heap_alloc w o g h.lt).trans h
def z8:List Nat:=[0,0,0,0,0,0,0,0]
theorem XD {l:List Nat}:∀ v∈yd l,v.oneCell'=true:=by
 intro v hv;obtain ⟨g,_,rfl⟩:=List.mem_map.1 hv;rfl
theorem kN:(Tryz.prog.info? 96).map (·.size)=some 8:=by kernel_rfl
theorem Z9:(Tryz.prog.info? 95).map (·.size)=some 1:=by kernel_rfl
theorem Grps.src {w:World} {a:Option Addr} {n c:Nat} {l:List Nat} (h:Grps w (.slice a n c) l) (h0:0<(yd l).length):∃ ad,a=some ad∧∀ j v,(yd l)[j]? =some v→w.cell? (ad.add j)=some v:=by
 obtain ⟨_,a',cap,hv,_,_,hc⟩:=h;injection hv with e1 e2 e3
 subst e1;rcases hc with h1 | ⟨b,off,rfl,hlt,hcell⟩
 ·rw [rA] at h0;omega
 refine ⟨_,rfl,fun j v hj=> ?_⟩;have hadd:(⟨b,off,none⟩:Addr).add j=⟨b,off+j,none⟩:=by unfold Addr.add;split<;>simp_all
 rw [hadd];exact hcell j v hj
def KeptBut (g:Nat) (w w':World):Prop:=(∀ k,k≠g→w'.heap[k]? =w.heap[k]?)∧∀ B,B≤g→Below B w w'
theorem KeptBut.refl (g:Nat) (w:World):KeptBut g w w:=⟨fun _ _=>rfl,fun _ _=>Below.refl _ _⟩
theorem KeptBut.row (w:World) (g:Nat) (cs:Array Value):KeptBut g w (w.setRow g cs):=⟨fun k hk=>setRow_other w g k cs hk,fun B hB=>below_setRow (Below.refl _ _) hB cs⟩
end Go.Proofs.YtbnnlkdhpifpeaaGreatDoor
namespace Hs
open Go Go.RowKit
theorem BlkL.setRow {w:World} {g:Nat} {T:TypeId} {l:List Value} (h:BlkL w g T l) (cs:List Value):BlkL (w.setRow g cs.toArray) g T cs:=setRow_heap w g _ _ _ _ h
theorem BlkL.setRow_other {w:World} {g:Nat} {T:TypeId} {l:List Value} (h:BlkL w g T l) {k:Nat} (hk:g≠k) (cs:Array Value):BlkL (w.setRow k cs) g T l:=(Go.setRow_other w k g cs hk).trans h
theorem BlkL.putCells {g:Nat} {T:TypeId}:∀ (vs:List Value) (o:Nat) (w:World) (l:List Value),BlkL w g T l→o+vs.length≤l.length→BlkL (w.setCells g o vs) g T (l.take o++(vs++l.drop (o+vs.length)))
 | [],o,w,l,h,_=>by simpa [World.setCells] using h
 | v::r,o,w,l,h,hl=>by
  simp only [List.length_cons] at hl;have h2:=BlkL.putCells r (o+1) _ _ (h.set o (by omega) v) (by simp;omega);rw [World.setCells];have e:(l.set o v).take (o+1)++(r++(l.set o v).drop (o+1+r.length))=l.take o++((v::r)++l.drop (o+(v::r).length)):=by
   rw [List.take_set,List.drop_set_of_lt (by omega),List.take_add_one,List.set_append_right _ _ (by simp;omega)];have:l[o]? =some l[o]:=List.getElem?_eq_getElem (by omega);rw [this];simp only [Option.toList_some,List.length_take,List.length_cons,List.cons_append,List.append_assoc];have e2:o - min o l.length=0:=by omega
   have e3:o+1+r.length=o+(r.length+1):=by omega
   rw [e2,e3];rfl
  rw [←e];exact h2
theorem BlkL.putCells_other {g k:Nat} (hk:g≠k) {T:TypeId} {l:List Value}:∀ (vs:List Value) (o:Nat) (w:World),BlkL w g T l→BlkL (w.setCells k o vs) g T l
 | [],o,w,h=>h
 | v::r,o,w,h=>by
  rw [World.setCells];exact BlkL.putCells_other hk r (o+1) _ (h.other hk o v)
theorem BlkL.range {w:World} {g:Nat} {T:TypeId} {l:List Value} (h:BlkL w g T l) (o:Nat) (cs:List Value) (hc:∀ j v,cs[j]? =some v→l[o+j]? =some v):w.rangeAt g o cs:=fun j v hj=>h.c (o+j) v (hc j v hj)
theorem BlkL.there {w:World} {g:Nat} {T:TypeId} {l:List Value} (h:BlkL w g T l) (o n:Nat) (hn:o+n≤l.length):w.there g o n:=fun j hj=>⟨by
 have:l[o+j]? =some (l[o+j]'(by omega)):=List.getElem?_eq_getElem _;rw [h.c (o+j) _ this];rfl,h.f (o+j)⟩
theorem sN {B g:Nat} {w0:World} (hB:B≤g):∀ (vs:List Value) (o:Nat) (w:World),Below B w0 w→Below B w0 (w.setCells g o vs)
 | [],o,w,h=>h
 | v::r,o,w,h=>by
  rw [World.setCells];exact sN hB r (o+1) _ (h.trans ⟨rfl,rfl,rfl,by simp,fun k hk=>Below.heap_setCell w ⟨g,o,none⟩ v k (fun e=>by have:k=g:=e;omega)⟩)
end Hs
namespace Go.Proofs.YtbnnlkdhpifpeaaGreatDoor
open Go.RowKit Hs
def zj (h:HostP):List Value:= .int .i64 (h.kind:Int):: .string (mk h.name):: .int .u32 (h.v4:Int)::yd h.v6
def zb (u:UrlP):List Value:= .string (mk u.scheme):: .string (mk u.user)::(zj u.host++[.int .i64 u.port,.string (mk u.rest)])
def xR (h:HostP):Prop:=h.v6.length=8∧(∀ x∈h.v6,x<65536)∧h.v4<4294967296∧h.kind≠3
def rG (h:HostP):Prop:=h.v6.length=8∧True
theorem qO:rG zD:=⟨rfl,trivial⟩
theorem wd {h:HostP} (h8:h.v6.length=8):(zj h).length=11:=by simp [zj,h8]
theorem xN {u:UrlP} (h8:u.host.v6.length=8):(zb u).length=15:=by simp [zb,wd h8]
theorem vy (h:HostP):∀ v∈zj h,v.oneCell'=true:=by
 intro v hv;unfold zj at hv;rcases List.mem_cons.1 hv with rfl | hv
 ·rfl
 rcases List.mem_cons.1 hv with rfl | hv
 ·rfl
 rcases List.mem_cons.1 hv with rfl | hv
 ·rfl
 exact XD v hv
theorem yZ (u:UrlP):∀ v∈zb u,v.oneCell'=true:=by
 intro v hv;unfold zb at hv;rcases List.mem_cons.1 hv with rfl | hv
 ·rfl
 rcases List.mem_cons.1 hv with rfl | hv
 ·rfl
 rcases List.mem_append.1 hv with hv | hv
 ·exact vy _ v hv
 simp at hv;rcases hv with rfl | rfl<;>rfl
theorem zh {l:List Value} (h:∀ v∈l,v.oneCell'=true):l.toArray.all (·.oneCell')=true:=all_oneCell_toArray h
theorem yl:(Tryz.prog.info? 98).map (·.size)=some 11:=by kernel_rfl
theorem yp:(Tryz.prog.info? 100).map (·.size)=some 15:=by kernel_rfl
theorem uf {h:HostP} (h8:h.v6.length=8):(Tryz.prog.info? 98).map (·.size)=some (zj h).toArray.size:=by rw [yl,List.size_toArray,wd h8]
theorem yg {u:UrlP} (h8:u.host.v6.length=8):(Tryz.prog.info? 100).map (·.size)=some (zb u).toArray.size:=by rw [yp,List.size_toArray,xN h8]
theorem Ve:xR zD:=⟨rfl,by decide,by decide,by decide⟩
end Go.Proofs.YtbnnlkdhpifpeaaGreatDoor
namespace Hs
open Go
theorem Z5 {l:List Nat} (h:l.length=8):∃ a b c d e f g i,l=[a,b,c,d,e,f,g,i]:=by
 match l,h with
 | [a,b,c,d,e,f,g,i],_=>exact ⟨a,b,c,d,e,f,g,i,rfl⟩
end Hs
namespace Go.Proofs.YtbnnlkdhpifpeaaGreatDoor
open Go.RowKit Hs
theorem Wm (w:World):w.alloc (.cells #[.int .i64 0,.string ⟨#[]⟩,.int .u32 0,.int .u16 0,.int .u16 0,.int .u16 0,.int .u16 0,.int .u16 0,.int .u16 0,.int .u16 0,.int .u16 0] 98)=w.alloc (.cells (zj zD).toArray 98):=rfl
theorem Vg (b:UInt8) (w:World):Calls Tryz.prog 298 #[.int .u8 (b.toNat:Int)] w fun e w'=>e= .returned (.int .i64 (hxI b))∧w=w':=by
 have hc:=dJ b;have hb:=b.toNat_lt;obtain ⟨x,hx⟩:=KZ6 b.toNat;rw [←hx] at hc hb ⊢;obtain ⟨v,hvv⟩:=KZ6 (hxI b);rw [←hvv] at hc ⊢;clear hx hvv;rcases hc with ⟨h1,h2,h3⟩ | ⟨h1,h2,h3⟩ | ⟨h1,h2,h3⟩ | ⟨h1,h2,h3,h4⟩
 ·have hr:=KZ9 h3;clear h3;go_enter Tryz.func298,Tryz.ntmps298
  go_wp2
  all_goals try omega
  all_goals
   go_ret;rw [hr.out];exact ⟨rfl,rfl⟩
 ·have hr:=KZ9 h3;clear h3;go_enter Tryz.func298,Tryz.ntmps298
  go_wp2
  all_goals try omega
  all_goals
   go_ret;rw [hr.out];exact ⟨rfl,rfl⟩
 ·have hr:=KZ9 h3;clear h3;go_enter Tryz.func298,Tryz.ntmps298
  go_wp2
  all_goals try omega
  all_goals
   go_ret;rw [hr.out];exact ⟨rfl,rfl⟩
 have hr:=KZ9 h4;clear h4;go_enter Tryz.func298,Tryz.ntmps298
 go_wp2
 all_goals try omega
 all_goals
  go_ret;rw [hr.out];exact ⟨rfl,rfl⟩
theorem QZ {w:World} {B e size n:Nat} {v:Value} {xs:List Value} (h:w.ownsRow B e size v n xs) (q:Nat):(w.drewN q).ownsRow B e size v n xs:=h
set_option maxRecDepth 20000
set_option maxHeartbeats 8000000
theorem St (s:ByteArray) (w:World) (hs:s.size≤100000):Calls Tryz.prog 268 #[.string s] w fun e w'=>(∃ t ok,e= .returned (.tuple #[.string t,.bool ok])∧((ok=true∧pctV (un s)=some (un t))∨(ok=false∧t=⟨#[]⟩∧pctV (un s)=none)))∧Below w.heap.size w w':=by
 obtain ⟨iB0,iB⟩:=info_parts yD;have hlen:(un s).length=s.size:=za s;obtain ⟨l,hl⟩:=KZ6 (un s);have hst0:pctV l=qy [] (l.drop 0):=by rw [List.drop_zero];unfold qy;cases pctV l<;>simp
 rw [←hl] at hlen ⊢;have HL:=KZ9 hl;have HST0:=KZ9 hst0;obtain ⟨n,hn⟩:=KZ6 s.size;rw [←hn] at hs;have hsn:(s.size:Int)=(n:Int):=by rw [hn]
 have HLEN:=KZ9 (hlen.trans hn.symm);have HN:=KZ9 hn;clear hl hst0 hlen hn;go_enter Tryz.func268,Tryz.ntmps268
 go_wp2;go_step3;go_wp2_with (first | (at_make;go_loud (refine wpList_make_own _ rfl _ _ 34 rfl w.heap.size 5 iB0 (.int .u8 0) 1 Tryz.underlying34 iB.1 iB.2.1 iB.2.2.1 .i64 .i64 _ n rfl rfl (by omega) (by rw [iB.2.2.2];omega) (by unfold maxLen;omega) (Nat.le_refl _) ?_);intro w1 hown1 hgrow1) | go_in)
 have hbel1:Below w.heap.size w w1:=(Below.refl _ _).grown hgrow1 (Nat.le_refl _) (by intro k hk;cases hk);go_step3;go_wp2
 all_goals try omega
 go_loopw [4,5] (fun ov iv wr=>∃ (k:Nat) (o:Bs),iv= .int .i64 k∧k≤n∧o.length≤k∧wr.ownsRow w.heap.size 5 1 ov o.length (zc o)∧Hid (pctV l=qy o (l.drop k))∧Below w.heap.size w wr) (fun _ iv _=>n - (intOf iv).toNat)
 case atStart=>exact ⟨0,[],rfl,by omega,by simp,hown1,HST0,hbel1⟩
 case round =>
  obtain ⟨k,o,rfl,hk,hol,hown,hst,hnx⟩:=hrel;have hown0:=hown;have hsize:=hnx.size;by_cases hlt:k<n
  ·have hks:k<s.size:=by rw [←HN.out];exact hlt
   have hkl:k<l.length:=by rw [HLEN.out];exact hlt
   have hx:l[k]=s[k]:=by
    have:=HL.out;subst this;exact zR s k hks
   have hdr:l.drop k=s[k]::l.drop (k+1):=by rw [←hx];exact List.drop_eq_getElem_cons hkl
   have hst2:=hst.out;rw [hdr] at hst2;by_cases hp:s[k]=37
   ·have cs:(s[k].toNat:Int)=37:=by rw [hp];rfl
    rw [hp] at hst2;by_cases h2:k+2<n
    ·have hk1:k+1<s.size:=by rw [←HN.out];omega
     have hk2:k+2<s.size:=by rw [←HN.out];omega
     have hx1:l[k+1]'(by rw [HLEN.out];omega)=s[k+1]:=by
      have:=HL.out;subst this;exact zR s (k+1) hk1
     have hx2:l[k+2]'(by rw [HLEN.out];omega)=s[k+2]:=by
      have:=HL.out;subst this;exact zR s (k+2) hk2
     have hdr2:l.drop (k+1)=s[k+1]::s[k+2]::l.drop (k+3):=by
      rw [List.drop_eq_getElem_cons (by rw [HLEN.out];omega),hx1,List.drop_eq_getElem_cons (by rw [HLEN.out];omega),hx2]
     rw [hdr2] at hst2;have hI1:(0:Int)≤(k:Int)+1:=by omega
     have hI2:(k:Int)+1<(n:Int):=by omega
     have hI3:(0:Int)≤(k:Int)+2:=by omega
     have hI4:(k:Int)+2<(n:Int):=by omega
     have hb1:=kP s[k+1];have hb2:=kP s[k+2];have hd1:=fun W=>Vg s[k+1] W;have hd2:=fun W=>Vg s[k+2] W;by_cases hbad:hxI s[k+1]<0∨hxI s[k+2]<0
     ·have hfin:=KZ9 (hst2.trans (dj (ZE hbad)));obtain ⟨a,ha⟩:=KZ6 (hxI s[k+1]);obtain ⟨b,hb⟩:=KZ6 (hxI s[k+2]);simp only [←ha] at hb1 hd1 hbad;simp only [←hb] at hb2 hd2 hbad;have HD1:=KZ9 hd1;have HD2:=KZ9 hd2;clear hst hst2 hdr hdr2 hx hx1 hx2 ha hb hd1 hd2 hp hown hown0;go_wp2
      all_goals try omega
      refine wp_region_quiet_lit (by kernel_rfl) (by kernel_rfl) ?_;repeat (go_big_quiet_step (fail))
      go_big_quiet_want
      go_big_quiet_op
      apply Exists.intro;refine ⟨fun _=> ?_,?_⟩
      ·exact Calls.quiet_of_same ((HD1.out _).mono (fun _ _ h=>⟨h.1,h.2.symm⟩))
      go_big_quiet_on
      repeat (go_big_quiet_step (fail))
      go_big_quiet_want
      go_big_quiet_op
      apply Exists.intro;refine ⟨fun _=> ?_,?_⟩
      ·exact Calls.quiet_of_same ((HD2.out _).mono (fun _ _ h=>⟨h.1,h.2.symm⟩))
      go_big_quiet_on
      repeat (go_big_quiet_step (fail))
      refine wpQuiet_nil ?_;intro _ hw';obtain ⟨nq,hw''⟩:=hw';subst hw'';go_wp2
      all_goals try omega
      all_goals
       (try rw [Exit.noGoto_ret])
       go_ret2;exact ⟨⟨_,_,rfl,.inr ⟨rfl,rfl,hfin.out⟩⟩,below_drewN hnx _⟩
     have hst3:=KZ9 (hst2.trans (TW (fun e=>hbad (.inl e)) (fun e=>hbad (.inr e))));obtain ⟨a,ha⟩:=KZ6 (hxI s[k+1]);obtain ⟨b,hb⟩:=KZ6 (hxI s[k+2]);simp only [←ha] at hb1 hd1 hbad hst3;simp only [←hb] at hb2 hd2 hbad hst3;have HD1:=KZ9 hd1;have HD2:=KZ9 hd2;clear hst hst2 hdr hdr2 hx hx1 hx2 ha hb hd1 hd2 hp;go_wp2
     all_goals try omega
     refine wp_region_quiet_lit (by kernel_rfl) (by kernel_rfl) ?_;repeat (go_big_quiet_step (fail))
     go_big_quiet_want
     go_big_quiet_op
     apply Exists.intro;refine ⟨fun _=> ?_,?_⟩
     ·exact Calls.quiet_of_same ((HD1.out _).mono (fun _ _ h=>⟨h.1,h.2.symm⟩))
     go_big_quiet_on
     repeat (go_big_quiet_step (fail))
     go_big_quiet_want
     go_big_quiet_op
     apply Exists.intro;refine ⟨fun _=> ?_,?_⟩
     ·exact Calls.quiet_of_same ((HD2.out _).mono (fun _ _ h=>⟨h.1,h.2.symm⟩))
     go_big_quiet_on
     repeat (go_big_quiet_step (fail))
     refine wpQuiet_nil ?_;intro _ hw';obtain ⟨nq,hw''⟩:=hw';subst hw'';have ha0:0≤a∧a<16:=⟨by omega,hb1.2⟩;have hb0:0≤b∧b<16:=⟨by omega,hb2.2⟩;have hval:((UInt8.ofNat (16*a+b).toNat).toNat:Int)=16*a+b:=by
      rw [UInt8.toNat_ofNat'];omega
     obtain ⟨c,hc⟩:=KZ6 (UInt8.ofNat (16*a+b).toNat);rw [←hc] at hval;have hst4:Hid (pctV l=qy (o++[c]) (List.drop (k+3) l)):=by rw [hc];exact hst3
     have hownq:=QZ hown0 nq;have hnxq:=below_drewN hnx nq;clear hst3 hc hbad hown hown0 hnx hsize;generalize wr.drewN nq=wq at hownq hnxq ⊢;have hsizeq:=hnxq.size;go_wp2_with (at_builtin;refine wpList_append_own _ rfl (.tmp 48) (.tmp 54) 34 rfl (w.heap.size) 5 iB0 (.int .u8 0) 1 1 Tryz.underlying34 iB.1 iB.2.1 iB.2.2.1 iB.2.2.2 rfl (by decide) _ _ _ rfl (hownq.alloc _) ⟨wq.heap.size,0,none⟩ 1 1 [_] rfl rfl (cell_one_new _ _ _) (by intro u hu;simp at hu;subst hu;rfl) (by unfold maxLen;omega) (by omega) (by simp;omega) ?_;intro v1 w2 hown1 hgrow2 hnil1)
     all_goals try omega
     go_roundw
     case rel =>
      refine ⟨k+3,o++[c],by go_num,by omega,by simp;omega,?_,hst4,(hnxq.alloc (by omega) _).grown hgrow2 (by simp;omega) (fun j hj=>(hownq.lt j hj).1)⟩;rw [zz,List.length_append];have e:zc [c]=[.int .u8 (16*a+b)]:=by show [Value.int .u8 (c.toNat:Int)]=_;rw [hval]
      rw [e];exact hown1
     case measure=>simp [intOf];omega
    have hfin:=KZ9 (hst2.trans (dj (rL (by rw [List.length_drop,HLEN.out];omega))));have hle:(n:Int)≤(k:Int)+2:=by omega
    clear hst hst2 hdr hx;go_wp2
    all_goals try omega
    (try rw [Exit.noGoto_ret])
    go_ret2;exact ⟨⟨_,_,rfl,.inr ⟨rfl,rfl,hfin.out⟩⟩,hnx⟩
   have hst3:=KZ9 (hst2.trans (Xx hp));have g1:((s[k].toNat:Int) != 37)=true:=by
    simp;intro e;exact hp (UInt8.toNat_inj.1 (by show s[k].toNat=37;omega))
   clear hst hst2 hdr hx hp;go_wp2_with (at_builtin;refine wpList_append_own _ rfl (.tmp 21) (.tmp 25) 34 rfl (w.heap.size) 5 iB0 (.int .u8 0) 1 1 Tryz.underlying34 iB.1 iB.2.1 iB.2.2.1 iB.2.2.2 rfl (by decide) _ _ _ rfl (hown.alloc _) ⟨wr.heap.size,0,none⟩ 1 1 [_] rfl rfl (cell_one_new _ _ _) (by intro u hu;simp at hu;subst hu;rfl) (by unfold maxLen;omega) (by omega) (by simp;omega) ?_;intro v1 w2 hown1 hgrow2 hnil1)
   all_goals try omega
   go_roundw
   case rel =>
    refine ⟨k+1,o++[s[k]],by go_num,by omega,by simp;omega,?_,hst3,(hnx.alloc (by omega) _).grown hgrow2 (by simp;omega) (fun j hj=>(hown0.lt j hj).1)⟩;rw [zz,List.length_append];exact hown1
   case measure=>simp [intOf];omega
  have hkn:k=n:=by omega
  have hfin:pctV l=some o:=by rw [hst.out,List.drop_of_length_le (by rw [HLEN.out];omega),TX]
  have HFIN:=KZ9 hfin;have hcv:=yP (P:=Tryz.prog) (Row.owned hown) (src:=34) (dst:=9) Tryz.underlying34 Tryz.underlying5 Tryz.underlying9;clear hst hfin;go_wp2
  all_goals try omega
  go_goals
  (try rw [Exit.noGoto_ret])
  go_ret2;exact ⟨⟨_,_,rfl,.inl ⟨rfl,by rw [HFIN.out,zk]⟩⟩,hnx⟩
end Go.Proofs.YtbnnlkdhpifpeaaGreatDoor
