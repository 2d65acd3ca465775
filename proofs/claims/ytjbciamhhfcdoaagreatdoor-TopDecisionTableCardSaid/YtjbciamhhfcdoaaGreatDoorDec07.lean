/- What the proof of TopDecisionTable uses, part Dec07. -/
import Derived.Test.YtjbciamhhfcdoaaGreatDoorDec06
set_option linter.unusedSimpArgs false
set_option linter.unusedVariables false
namespace Go.Proofs.YtjbciamhhfcdoaaGreatDoor
open Go.RowKit Hs
theorem uG (v m F C:Nat) (hC:C=2 ^ F) (hv:v*C<9223372036854775808) (hm:m<C) (hm2:m<9223372036854775808) (hs:v*C+m<9223372036854775808):bits .or .i64 ((v:Int)*(C:Int)) (m:Int)=((v*C+m:Nat):Int):=by
 have h2:v*C ||| m=v*C+m:=by
  have e:v*C=v <<< F:=by rw [Nat.shiftLeft_eq,hC]
  rw [e];exact (Nat.shiftLeft_add_eq_or_of_lt (by rw [←hC];exact hm) v).symm
 have e1:(BitVec.ofInt 64 ((v:Int)*(C:Int))).toNat=v*C:=by
  rw [BitVec.toNat_ofInt];have:((v:Int)*(C:Int))=((v*C:Nat):Int):=by simp
  rw [this];omega
 have e2:(BitVec.ofInt 64 (m:Int)).toNat=m:=by rw [BitVec.toNat_ofInt];omega
 show IntKind.i64.wrap ((BitVec.ofInt 64 ((v:Int)*(C:Int)) ||| BitVec.ofInt 64 (m:Int)).toNat:Int)=_;rw [BitVec.toNat_or,e1,e2,h2,IntKind.wrap_i64];omega
theorem xg (F:Nat) (p:Bs) (v:Nat):zn F [p] v=if (zr p).2=true∧(zr p).1<2 ^ F then some (v*2 ^ F+(zr p).1) else none:=rfl
theorem xE (F:Nat) (p:Bs) (r:List Bs) (v:Nat) (h:r≠[]):zn F (p::r) v=if (zr p).2=true∧(zr p).1≤255 then zn F r (v*256+(zr p).1) else none:=by
 cases r with
 | nil=>exact absurd rfl h
 | cons q r=>rfl
set_option maxRecDepth 100000
set_option maxHeartbeats 4000000
theorem Uh (s:ByteArray) (w:World) (hB:Base w) (hs:s.size≤100000000):Calls Tryz.prog 211 #[.string s] w fun e w'=>e= .returned (.tuple #[.int .u32 (xw (un s)).1,.bool (xw (un s)).2])∧Below w.heap.size w w':=by
 have HS:=KZ9 (Wo s w hB hs);have HLEN:=KZ9 (wU (un s));have hpos:=uF (un s);have hpv:Hid (xw (un s)=if (zH (un s)).length≤4 then vh (zn (8*(5 - (zH (un s)).length)) (zH (un s)) 0) else (0,false)):=KZ9 rfl;obtain ⟨R,hR⟩:=KZ6 (xw (un s));rw [←hR] at hpv ⊢;clear hR;obtain ⟨L,hL⟩:=KZ6 (zH (un s));rw [←hL] at hpv HS HLEN hpos;clear hL;rw [zb] at HLEN;clear hB;go_enter Tryz.func211,Tryz.ntmps211
 go_wp2;go_step3;go_wp2_with fail
 refine HS.out.mono ?_;rintro e w1 ⟨v,rfl,hst,hb⟩;clear HS;obtain ⟨a,c,rfl,hn,hm,hc⟩:=hst.open;unfold maxLen at hm;have HC:=KZ9 hc;clear hc hst;obtain ⟨n,hn0⟩:∃ n,L.length=n:=⟨_,rfl⟩;rw [hn0] at hn hpos hpv ⊢;have HN:=KZ9 hn0;clear hn0;by_cases h4:n≤4
 ·have hfin:Hid (R=vh (zn (8*(5 - n)) L 0)):=KZ9 (by rw [hpv.out,if_pos h4]);clear hpv;rcases (by omega:n=1∨n=2∨n=3∨n=4) with rfl | rfl | rfl | rfl
  ·have hfin:Hid (R=vh (zn 32 L 0)):=hfin;go_wp2;go_step3;go_wp2;go_loop [5,18] (fun vv iv=>∃ (k v:Nat),iv= .int .i64 k∧k≤1∧vv= .int .i64 v∧v<4294967296∧(k<1→v<256 ^ k)∧Hid (zn 32 L 0=zn 32 (L.drop k) v)) (fun _ iv=>1 - (intOf iv).toNat)
   case atStart=>exact ⟨0,0,rfl,by omega,rfl,by omega,fun _=>by simp,KZ9 rfl⟩
   case round =>
    obtain ⟨k,v,rfl,hk,rfl,hv,hvk,hst⟩:=hrel;by_cases hlt:k<1
    ·obtain ⟨b,off,rfl,hb1,hcell⟩:=HC.out (by rw [HN.out];omega);have hkl:k<L.length:=by rw [HN.out];exact hlt
     have c0:=hcell k hkl;have hlen:=HLEN.out L[k] (List.getElem_mem hkl);have hst2:Hid (zn 32 L 0=zn 32 (L[k]::L.drop (k+1)) v):=KZ9 (by rw [hst.out,List.drop_eq_getElem_cons hkl]);obtain ⟨x,hx⟩:=KZ6 (L[k]);rw [←hx] at c0 hlen hst2;clear hcell hst hx hkl;have hd:=fun W=>tL (mk x) W (by rw [zh];omega);simp only [zj] at hd;have hle:=wg x;have hlst:Hid (∀ F v,zn F [x] v=if (zr x).2=true∧(zr x).1<2 ^ F then some (v*2 ^ F+(zr x).1) else none):=KZ9 (fun F v=>xg F x v);have hmid:Hid (∀ F r v,r≠[]→zn F (x::r) v=if (zr x).2=true∧(zr x).1≤255 then zn F r (v*256+(zr x).1) else none):=KZ9 (fun F r v h=>xE F x r v h);obtain ⟨m,hm2⟩:=KZ6 (zr x);rw [←hm2] at hlst hmid hle;simp only [←hm2] at hd;clear hm2;obtain ⟨m,ok⟩:=m;simp only at hd hlst hmid hle;have HD:=KZ9 hd;have hvk2:=hvk hlt;clear hd hvk;by_cases hl:k+1<1
     ·exfalso;omega
     have hkn:k+1=1:=by omega
     have hdr:L.drop (k+1)=[]:=List.drop_of_length_le (by rw [HN.out];omega);have hnx:Hid (zn 32 L 0=if ok=true∧m<4294967296 then some (v*4294967296+m) else none):=KZ9 (by rw [hst2.out,hdr,hlst.out]);have hdn:Hid (zn 32 (L.drop (k+1)) (v*4294967296+m)=some (v*4294967296+m)):=KZ9 (by rw [hdr];rfl);have hv5:v<1:=by
      have hk2:k=0:=by omega
      rw [hk2] at hvk2;exact hvk2
     have hl':(1:Int) - 1≤(k:Int):=by omega
     have hl3:decide ((k:Int)<0)=false:=KZ8 (by omega);clear hst2 hdr hlst hmid hvk2;cases ok
     ·have hend:Hid (R=(0,false)):=KZ9 (by rw [hfin.out,hnx.out,if_neg (by simp)];rfl);clear hnx hdn;go_wp2_with fail
      refine (HD.out _).mono ?_;rintro e w2 ⟨rfl,rfl⟩;go_wp2
      all_goals try omega
      (try rw [Exit.noGoto_ret])
      go_ret2;rw [hend.out];exact ⟨rfl,hb⟩
     by_cases hn5:4294967296≤m
     ·have g2:decide ((4294967296:Int)≤(m:Int))=true:=KZ7 (by omega);have hend:Hid (R=(0,false)):=KZ9 (by rw [hfin.out,hnx.out,if_neg (by omega)];rfl);clear hnx hdn;go_wp2_with fail
      refine (HD.out _).mono ?_;rintro e w2 ⟨rfl,rfl⟩;go_wp2
      all_goals try omega
      (try rw [Exit.noGoto_ret])
      go_ret2;rw [hend.out];exact ⟨rfl,hb⟩
     have g2:decide ((4294967296:Int)≤(m:Int))=false:=KZ8 (by omega);have hnx2:Hid (zn 32 L 0=zn 32 (L.drop (k+1)) (v*4294967296+m)):=KZ9 (by rw [hnx.out,if_pos ⟨rfl,by omega⟩,hdn.out]);clear hnx hdn;go_wp2_with fail
     refine (HD.out _).mono ?_;rintro e w2 ⟨rfl,rfl⟩;go_wp2
     all_goals try omega
     go_round
     case rel=>exact ⟨k+1,v*4294967296+m,by go_num,by omega,by first | rfl | (rw [uG v m 32 4294967296 (by decide) (by omega) (by omega) (by omega) (by omega)]) | (have ho:=uG v m 32 4294967296 (by decide) (by omega) (by omega) (by omega) (by omega);simpa using ho),by omega,fun h=>absurd h (by omega),hnx2⟩
     case measure=>simp [intOf];omega
    obtain rfl:k=1:=by omega
    have hend:Hid (R=(v,true)):=KZ9 (by rw [hfin.out,hst.out,List.drop_of_length_le (by rw [HN.out];omega)];rfl);have m1:(v:Int) % 4294967296=(v:Int):=by omega
    clear hst;go_wp2
    (try rw [Exit.noGoto_ret])
    go_ret2;rw [hend.out];exact ⟨rfl,hb⟩
  ·have hfin:Hid (R=vh (zn 24 L 0)):=hfin;go_wp2;go_step3;go_wp2;go_loop [5,18] (fun vv iv=>∃ (k v:Nat),iv= .int .i64 k∧k≤2∧vv= .int .i64 v∧v<4294967296∧(k<2→v<256 ^ k)∧Hid (zn 24 L 0=zn 24 (L.drop k) v)) (fun _ iv=>2 - (intOf iv).toNat)
   case atStart=>exact ⟨0,0,rfl,by omega,rfl,by omega,fun _=>by simp,KZ9 rfl⟩
   case round =>
    obtain ⟨k,v,rfl,hk,rfl,hv,hvk,hst⟩:=hrel;by_cases hlt:k<2
    ·obtain ⟨b,off,rfl,hb1,hcell⟩:=HC.out (by rw [HN.out];omega);have hkl:k<L.length:=by rw [HN.out];exact hlt
     have c0:=hcell k hkl;have hlen:=HLEN.out L[k] (List.getElem_mem hkl);have hst2:Hid (zn 24 L 0=zn 24 (L[k]::L.drop (k+1)) v):=KZ9 (by rw [hst.out,List.drop_eq_getElem_cons hkl]);obtain ⟨x,hx⟩:=KZ6 (L[k]);rw [←hx] at c0 hlen hst2;clear hcell hst hx hkl;have hd:=fun W=>tL (mk x) W (by rw [zh];omega);simp only [zj] at hd;have hle:=wg x;have hlst:Hid (∀ F v,zn F [x] v=if (zr x).2=true∧(zr x).1<2 ^ F then some (v*2 ^ F+(zr x).1) else none):=KZ9 (fun F v=>xg F x v);have hmid:Hid (∀ F r v,r≠[]→zn F (x::r) v=if (zr x).2=true∧(zr x).1≤255 then zn F r (v*256+(zr x).1) else none):=KZ9 (fun F r v h=>xE F x r v h);obtain ⟨m,hm2⟩:=KZ6 (zr x);rw [←hm2] at hlst hmid hle;simp only [←hm2] at hd;clear hm2;obtain ⟨m,ok⟩:=m;simp only at hd hlst hmid hle;have HD:=KZ9 hd;have hvk2:=hvk hlt;clear hd hvk;by_cases hl:k+1<2
     ·have hne:L.drop (k+1)≠[]:=fun e=>by have:=congrArg List.length e;rw [List.length_drop,HN.out] at this;simp at this;omega
      have hnx:Hid (zn 24 L 0=if ok=true∧m≤255 then zn 24 (L.drop (k+1)) (v*256+m) else none):=KZ9 (by rw [hst2.out,hmid.out _ _ _ hne]);have hl':(k:Int)<2 - 1:=by omega
      have hl3:(k:Int)<1:=by omega
      clear hst2 hne hlst hmid;cases ok
      ·have hend:Hid (R=(0,false)):=KZ9 (by rw [hfin.out,hnx.out,if_neg (by simp)];rfl);clear hnx;go_wp2_with fail
       refine (HD.out _).mono ?_;rintro e w2 ⟨rfl,rfl⟩;go_wp2
       all_goals try omega
       (try rw [Exit.noGoto_ret])
       go_ret2;rw [hend.out];exact ⟨rfl,hb⟩
      by_cases hn5:255<m
      ·have g2:(255:Int)<(m:Int):=by omega
       have hend:Hid (R=(0,false)):=KZ9 (by rw [hfin.out,hnx.out,if_neg (by simp;omega)];rfl);clear hnx;go_wp2_with fail
       refine (HD.out _).mono ?_;rintro e w2 ⟨rfl,rfl⟩;go_wp2
       all_goals try omega
       (try rw [Exit.noGoto_ret])
       go_ret2;rw [hend.out];exact ⟨rfl,hb⟩
      have g2:¬ ((255:Int)<(m:Int)):=by omega
      have hnx2:Hid (zn 24 L 0=zn 24 (L.drop (k+1)) (v*256+m)):=KZ9 (by rw [hnx.out,if_pos ⟨rfl,by omega⟩]);have hv3:v<65536:=by
       have:(256:Nat) ^ k≤256 ^ 2:=Nat.pow_le_pow_right (by decide) (by omega);omega
      have ho:bits .or .i64 ((v:Int)*256) (m:Int)=((v*256+m:Nat):Int):=uG v m 8 256 (by decide) (by omega) (by omega) (by omega) (by omega);have H256:Hid (v*256+m<256 ^ (k+1)):=KZ9 (by rw [Nat.pow_succ];generalize (256:Nat) ^ k=q at hvk2;omega);clear hnx hvk2;go_wp2_with fail
      refine (HD.out _).mono ?_;rintro e w2 ⟨rfl,rfl⟩;go_wp2
      all_goals try omega
      go_round
      case rel=>exact ⟨k+1,v*256+m,by go_num,by omega,by first | rfl | (rw [ho]),by omega,fun _=>H256.out,hnx2⟩
      case measure=>simp [intOf];omega
     have hkn:k+1=2:=by omega
     have hdr:L.drop (k+1)=[]:=List.drop_of_length_le (by rw [HN.out];omega);have hnx:Hid (zn 24 L 0=if ok=true∧m<16777216 then some (v*16777216+m) else none):=KZ9 (by rw [hst2.out,hdr,hlst.out]);have hdn:Hid (zn 24 (L.drop (k+1)) (v*16777216+m)=some (v*16777216+m)):=KZ9 (by rw [hdr];rfl);have hv5:v<256:=by
      have hk2:k=1:=by omega
      rw [hk2] at hvk2;exact hvk2
     have hl':(2:Int) - 1≤(k:Int):=by omega
     have hl3:decide ((k:Int)<1)=false:=KZ8 (by omega);clear hst2 hdr hlst hmid hvk2;cases ok
     ·have hend:Hid (R=(0,false)):=KZ9 (by rw [hfin.out,hnx.out,if_neg (by simp)];rfl);clear hnx hdn;go_wp2_with fail
      refine (HD.out _).mono ?_;rintro e w2 ⟨rfl,rfl⟩;go_wp2
      all_goals try omega
      (try rw [Exit.noGoto_ret])
      go_ret2;rw [hend.out];exact ⟨rfl,hb⟩
     by_cases hn5:16777216≤m
     ·have g2:decide ((16777216:Int)≤(m:Int))=true:=KZ7 (by omega);have hend:Hid (R=(0,false)):=KZ9 (by rw [hfin.out,hnx.out,if_neg (by omega)];rfl);clear hnx hdn;go_wp2_with fail
      refine (HD.out _).mono ?_;rintro e w2 ⟨rfl,rfl⟩;go_wp2
      all_goals try omega
      (try rw [Exit.noGoto_ret])
      go_ret2;rw [hend.out];exact ⟨rfl,hb⟩
     have g2:decide ((16777216:Int)≤(m:Int))=false:=KZ8 (by omega);have hnx2:Hid (zn 24 L 0=zn 24 (L.drop (k+1)) (v*16777216+m)):=KZ9 (by rw [hnx.out,if_pos ⟨rfl,by omega⟩,hdn.out]);clear hnx hdn;go_wp2_with fail
     refine (HD.out _).mono ?_;rintro e w2 ⟨rfl,rfl⟩;go_wp2
     all_goals try omega
     go_round
     case rel=>exact ⟨k+1,v*16777216+m,by go_num,by omega,by first | rfl | (rw [uG v m 24 16777216 (by decide) (by omega) (by omega) (by omega) (by omega)]) | (have ho:=uG v m 24 16777216 (by decide) (by omega) (by omega) (by omega) (by omega);simpa using ho),by omega,fun h=>absurd h (by omega),hnx2⟩
     case measure=>simp [intOf];omega
    obtain rfl:k=2:=by omega
    have hend:Hid (R=(v,true)):=KZ9 (by rw [hfin.out,hst.out,List.drop_of_length_le (by rw [HN.out];omega)];rfl);have m1:(v:Int) % 4294967296=(v:Int):=by omega
    clear hst;go_wp2
    (try rw [Exit.noGoto_ret])
    go_ret2;rw [hend.out];exact ⟨rfl,hb⟩
  ·have hfin:Hid (R=vh (zn 16 L 0)):=hfin;go_wp2;go_step3;go_wp2;go_loop [5,18] (fun vv iv=>∃ (k v:Nat),iv= .int .i64 k∧k≤3∧vv= .int .i64 v∧v<4294967296∧(k<3→v<256 ^ k)∧Hid (zn 16 L 0=zn 16 (L.drop k) v)) (fun _ iv=>3 - (intOf iv).toNat)
   case atStart=>exact ⟨0,0,rfl,by omega,rfl,by omega,fun _=>by simp,KZ9 rfl⟩
   case round =>
    obtain ⟨k,v,rfl,hk,rfl,hv,hvk,hst⟩:=hrel;by_cases hlt:k<3
    ·obtain ⟨b,off,rfl,hb1,hcell⟩:=HC.out (by rw [HN.out];omega);have hkl:k<L.length:=by rw [HN.out];exact hlt
     have c0:=hcell k hkl;have hlen:=HLEN.out L[k] (List.getElem_mem hkl);have hst2:Hid (zn 16 L 0=zn 16 (L[k]::L.drop (k+1)) v):=KZ9 (by rw [hst.out,List.drop_eq_getElem_cons hkl]);obtain ⟨x,hx⟩:=KZ6 (L[k]);rw [←hx] at c0 hlen hst2;clear hcell hst hx hkl;have hd:=fun W=>tL (mk x) W (by rw [zh];omega);simp only [zj] at hd;have hle:=wg x;have hlst:Hid (∀ F v,zn F [x] v=if (zr x).2=true∧(zr x).1<2 ^ F then some (v*2 ^ F+(zr x).1) else none):=KZ9 (fun F v=>xg F x v);have hmid:Hid (∀ F r v,r≠[]→zn F (x::r) v=if (zr x).2=true∧(zr x).1≤255 then zn F r (v*256+(zr x).1) else none):=KZ9 (fun F r v h=>xE F x r v h);obtain ⟨m,hm2⟩:=KZ6 (zr x);rw [←hm2] at hlst hmid hle;simp only [←hm2] at hd;clear hm2;obtain ⟨m,ok⟩:=m;simp only at hd hlst hmid hle;have HD:=KZ9 hd;have hvk2:=hvk hlt;clear hd hvk;by_cases hl:k+1<3
     ·have hne:L.drop (k+1)≠[]:=fun e=>by have:=congrArg List.length e;rw [List.length_drop,HN.out] at this;simp at this;omega
      have hnx:Hid (zn 16 L 0=if ok=true∧m≤255 then zn 16 (L.drop (k+1)) (v*256+m) else none):=KZ9 (by rw [hst2.out,hmid.out _ _ _ hne]);have hl':(k:Int)<3 - 1:=by omega
      have hl3:(k:Int)<2:=by omega
      clear hst2 hne hlst hmid;cases ok
      ·have hend:Hid (R=(0,false)):=KZ9 (by rw [hfin.out,hnx.out,if_neg (by simp)];rfl);clear hnx;go_wp2_with fail
       refine (HD.out _).mono ?_;rintro e w2 ⟨rfl,rfl⟩;go_wp2
       all_goals try omega
       (try rw [Exit.noGoto_ret])
       go_ret2;rw [hend.out];exact ⟨rfl,hb⟩
      by_cases hn5:255<m
      ·have g2:(255:Int)<(m:Int):=by omega
       have hend:Hid (R=(0,false)):=KZ9 (by rw [hfin.out,hnx.out,if_neg (by simp;omega)];rfl);clear hnx;go_wp2_with fail
       refine (HD.out _).mono ?_;rintro e w2 ⟨rfl,rfl⟩;go_wp2
       all_goals try omega
       (try rw [Exit.noGoto_ret])
       go_ret2;rw [hend.out];exact ⟨rfl,hb⟩
      have g2:¬ ((255:Int)<(m:Int)):=by omega
      have hnx2:Hid (zn 16 L 0=zn 16 (L.drop (k+1)) (v*256+m)):=KZ9 (by rw [hnx.out,if_pos ⟨rfl,by omega⟩]);have hv3:v<65536:=by
       have:(256:Nat) ^ k≤256 ^ 2:=Nat.pow_le_pow_right (by decide) (by omega);omega
      have ho:bits .or .i64 ((v:Int)*256) (m:Int)=((v*256+m:Nat):Int):=uG v m 8 256 (by decide) (by omega) (by omega) (by omega) (by omega);have H256:Hid (v*256+m<256 ^ (k+1)):=KZ9 (by rw [Nat.pow_succ];generalize (256:Nat) ^ k=q at hvk2;omega);clear hnx hvk2;go_wp2_with fail
      refine (HD.out _).mono ?_;rintro e w2 ⟨rfl,rfl⟩;go_wp2
      all_goals try omega
      go_round
      case rel=>exact ⟨k+1,v*256+m,by go_num,by omega,by first | rfl | (rw [ho]),by omega,fun _=>H256.out,hnx2⟩
      case measure=>simp [intOf];omega
     have hkn:k+1=3:=by omega
     have hdr:L.drop (k+1)=[]:=List.drop_of_length_le (by rw [HN.out];omega);have hnx:Hid (zn 16 L 0=if ok=true∧m<65536 then some (v*65536+m) else none):=KZ9 (by rw [hst2.out,hdr,hlst.out]);have hdn:Hid (zn 16 (L.drop (k+1)) (v*65536+m)=some (v*65536+m)):=KZ9 (by rw [hdr];rfl);have hv5:v<65536:=by
      have hk2:k=2:=by omega
      rw [hk2] at hvk2;exact hvk2
     have hl':(3:Int) - 1≤(k:Int):=by omega
     have hl3:decide ((k:Int)<2)=false:=KZ8 (by omega);clear hst2 hdr hlst hmid hvk2;cases ok
     ·have hend:Hid (R=(0,false)):=KZ9 (by rw [hfin.out,hnx.out,if_neg (by simp)];rfl);clear hnx hdn;go_wp2_with fail
      refine (HD.out _).mono ?_;rintro e w2 ⟨rfl,rfl⟩;go_wp2
      all_goals try omega
      (try rw [Exit.noGoto_ret])
      go_ret2;rw [hend.out];exact ⟨rfl,hb⟩
     by_cases hn5:65536≤m
     ·have g2:decide ((65536:Int)≤(m:Int))=true:=KZ7 (by omega);have hend:Hid (R=(0,false)):=KZ9 (by rw [hfin.out,hnx.out,if_neg (by omega)];rfl);clear hnx hdn;go_wp2_with fail
      refine (HD.out _).mono ?_;rintro e w2 ⟨rfl,rfl⟩;go_wp2
      all_goals try omega
      (try rw [Exit.noGoto_ret])
      go_ret2;rw [hend.out];exact ⟨rfl,hb⟩
     have g2:decide ((65536:Int)≤(m:Int))=false:=KZ8 (by omega);have hnx2:Hid (zn 16 L 0=zn 16 (L.drop (k+1)) (v*65536+m)):=KZ9 (by rw [hnx.out,if_pos ⟨rfl,by omega⟩,hdn.out]);clear hnx hdn;go_wp2_with fail
     refine (HD.out _).mono ?_;rintro e w2 ⟨rfl,rfl⟩;go_wp2
     all_goals try omega
     go_round
     case rel=>exact ⟨k+1,v*65536+m,by go_num,by omega,by first | rfl | (rw [uG v m 16 65536 (by decide) (by omega) (by omega) (by omega) (by omega)]) | (have ho:=uG v m 16 65536 (by decide) (by omega) (by omega) (by omega) (by omega);simpa using ho),by omega,fun h=>absurd h (by omega),hnx2⟩
     case measure=>simp [intOf];omega
    obtain rfl:k=3:=by omega
    have hend:Hid (R=(v,true)):=KZ9 (by rw [hfin.out,hst.out,List.drop_of_length_le (by rw [HN.out];omega)];rfl);have m1:(v:Int) % 4294967296=(v:Int):=by omega
    clear hst;go_wp2
    (try rw [Exit.noGoto_ret])
    go_ret2;rw [hend.out];exact ⟨rfl,hb⟩
  have hfin:Hid (R=vh (zn 8 L 0)):=hfin;go_wp2;go_step3;go_wp2;go_loop [5,18] (fun vv iv=>∃ (k v:Nat),iv= .int .i64 k∧k≤4∧vv= .int .i64 v∧v<4294967296∧(k<4→v<256 ^ k)∧Hid (zn 8 L 0=zn 8 (L.drop k) v)) (fun _ iv=>4 - (intOf iv).toNat)
  case atStart=>exact ⟨0,0,rfl,by omega,rfl,by omega,fun _=>by simp,KZ9 rfl⟩
  case round =>
   obtain ⟨k,v,rfl,hk,rfl,hv,hvk,hst⟩:=hrel;by_cases hlt:k<4
   ·obtain ⟨b,off,rfl,hb1,hcell⟩:=HC.out (by rw [HN.out];omega);have hkl:k<L.length:=by rw [HN.out];exact hlt
    have c0:=hcell k hkl;have hlen:=HLEN.out L[k] (List.getElem_mem hkl);have hst2:Hid (zn 8 L 0=zn 8 (L[k]::L.drop (k+1)) v):=KZ9 (by rw [hst.out,List.drop_eq_getElem_cons hkl]);obtain ⟨x,hx⟩:=KZ6 (L[k]);rw [←hx] at c0 hlen hst2;clear hcell hst hx hkl;have hd:=fun W=>tL (mk x) W (by rw [zh];omega);simp only [zj] at hd;have hle:=wg x;have hlst:Hid (∀ F v,zn F [x] v=if (zr x).2=true∧(zr x).1<2 ^ F then some (v*2 ^ F+(zr x).1) else none):=KZ9 (fun F v=>xg F x v);have hmid:Hid (∀ F r v,r≠[]→zn F (x::r) v=if (zr x).2=true∧(zr x).1≤255 then zn F r (v*256+(zr x).1) else none):=KZ9 (fun F r v h=>xE F x r v h);obtain ⟨m,hm2⟩:=KZ6 (zr x);rw [←hm2] at hlst hmid hle;simp only [←hm2] at hd;clear hm2;obtain ⟨m,ok⟩:=m;simp only at hd hlst hmid hle;have HD:=KZ9 hd;have hvk2:=hvk hlt;clear hd hvk;by_cases hl:k+1<4
    ·have hne:L.drop (k+1)≠[]:=fun e=>by have:=congrArg List.length e;rw [List.length_drop,HN.out] at this;simp at this;omega
     have hnx:Hid (zn 8 L 0=if ok=true∧m≤255 then zn 8 (L.drop (k+1)) (v*256+m) else none):=KZ9 (by rw [hst2.out,hmid.out _ _ _ hne]);have hl':(k:Int)<4 - 1:=by omega
     have hl3:(k:Int)<3:=by omega
     clear hst2 hne hlst hmid;cases ok
     ·have hend:Hid (R=(0,false)):=KZ9 (by rw [hfin.out,hnx.out,if_neg (by simp)];rfl);clear hnx;go_wp2_with fail
      refine (HD.out _).mono ?_;rintro e w2 ⟨rfl,rfl⟩;go_wp2
      all_goals try omega
      (try rw [Exit.noGoto_ret])
      go_ret2;rw [hend.out];exact ⟨rfl,hb⟩
     by_cases hn5:255<m
     ·have g2:(255:Int)<(m:Int):=by omega
      have hend:Hid (R=(0,false)):=KZ9 (by rw [hfin.out,hnx.out,if_neg (by simp;omega)];rfl);clear hnx;go_wp2_with fail
      refine (HD.out _).mono ?_;rintro e w2 ⟨rfl,rfl⟩;go_wp2
      all_goals try omega
      (try rw [Exit.noGoto_ret])
      go_ret2;rw [hend.out];exact ⟨rfl,hb⟩
     have g2:¬ ((255:Int)<(m:Int)):=by omega
     have hnx2:Hid (zn 8 L 0=zn 8 (L.drop (k+1)) (v*256+m)):=KZ9 (by rw [hnx.out,if_pos ⟨rfl,by omega⟩]);have hv3:v<65536:=by
      have:(256:Nat) ^ k≤256 ^ 2:=Nat.pow_le_pow_right (by decide) (by omega);omega
     have ho:bits .or .i64 ((v:Int)*256) (m:Int)=((v*256+m:Nat):Int):=uG v m 8 256 (by decide) (by omega) (by omega) (by omega) (by omega);have H256:Hid (v*256+m<256 ^ (k+1)):=KZ9 (by rw [Nat.pow_succ];generalize (256:Nat) ^ k=q at hvk2;omega);clear hnx hvk2;go_wp2_with fail
     refine (HD.out _).mono ?_;rintro e w2 ⟨rfl,rfl⟩;go_wp2
     all_goals try omega
     go_round
     case rel=>exact ⟨k+1,v*256+m,by go_num,by omega,by first | rfl | (rw [ho]),by omega,fun _=>H256.out,hnx2⟩
     case measure=>simp [intOf];omega
    have hkn:k+1=4:=by omega
    have hdr:L.drop (k+1)=[]:=List.drop_of_length_le (by rw [HN.out];omega);have hnx:Hid (zn 8 L 0=if ok=true∧m<256 then some (v*256+m) else none):=KZ9 (by rw [hst2.out,hdr,hlst.out]);have hdn:Hid (zn 8 (L.drop (k+1)) (v*256+m)=some (v*256+m)):=KZ9 (by rw [hdr];rfl);have hv5:v<16777216:=by
     have hk2:k=3:=by omega
     rw [hk2] at hvk2;exact hvk2
    have hl':(4:Int) - 1≤(k:Int):=by omega
    have hl3:decide ((k:Int)<3)=false:=KZ8 (by omega);clear hst2 hdr hlst hmid hvk2;cases ok
    ·have hend:Hid (R=(0,false)):=KZ9 (by rw [hfin.out,hnx.out,if_neg (by simp)];rfl);clear hnx hdn;go_wp2_with fail
     refine (HD.out _).mono ?_;rintro e w2 ⟨rfl,rfl⟩;go_wp2
     all_goals try omega
     (try rw [Exit.noGoto_ret])
     go_ret2;rw [hend.out];exact ⟨rfl,hb⟩
    by_cases hn5:256≤m
    ·have g2:decide ((256:Int)≤(m:Int))=true:=KZ7 (by omega);have hend:Hid (R=(0,false)):=KZ9 (by rw [hfin.out,hnx.out,if_neg (by omega)];rfl);clear hnx hdn;go_wp2_with fail
     refine (HD.out _).mono ?_;rintro e w2 ⟨rfl,rfl⟩;go_wp2
     all_goals try omega
     (try rw [Exit.noGoto_ret])
     go_ret2;rw [hend.out];exact ⟨rfl,hb⟩
    have g2:decide ((256:Int)≤(m:Int))=false:=KZ8 (by omega);have hnx2:Hid (zn 8 L 0=zn 8 (L.drop (k+1)) (v*256+m)):=KZ9 (by rw [hnx.out,if_pos ⟨rfl,by omega⟩,hdn.out]);clear hnx hdn;go_wp2_with fail
    refine (HD.out _).mono ?_;rintro e w2 ⟨rfl,rfl⟩;go_wp2
    all_goals try omega
    go_round
    case rel=>exact ⟨k+1,v*256+m,by go_num,by omega,by first | rfl | (rw [uG v m 8 256 (by decide) (by omega) (by omega) (by omega) (by omega)]) | (have ho:=uG v m 8 256 (by decide) (by omega) (by omega) (by omega) (by omega);simpa using ho),by omega,fun h=>absurd h (by omega),hnx2⟩
    case measure=>simp [intOf];omega
   obtain rfl:k=4:=by omega
   have hend:Hid (R=(v,true)):=KZ9 (by rw [hfin.out,hst.out,List.drop_of_length_le (by rw [HN.out];omega)];rfl);have m1:(v:Int) % 4294967296=(v:Int):=by omega
   clear hst;go_wp2
   (try rw [Exit.noGoto_ret])
   go_ret2;rw [hend.out];exact ⟨rfl,hb⟩
 have hend:Hid (R=(0,false)):=KZ9 (by rw [hpv.out,if_neg h4]);have g1:(4:Int)<(n:Int):=by omega
 clear hpv;go_wp2_with fail
 all_goals try omega
 (try rw [Exit.noGoto_ret])
 go_ret2;rw [hend.out];exact ⟨rfl,hb⟩
end Go.Proofs.YtjbciamhhfcdoaaGreatDoor
namespace Hs
open Go
def okT (l:Bs):Prop:=True
theorem qN (l:Bs):okT l:=True.intro
theorem U1 {a b:Bs} (h:okT b) (hs:∀ x∈a,x∈b):okT a:=True.intro
theorem RA {l:Bs} (h:okT l) (k:Nat):okT (l.take k):=True.intro
theorem XX {l:Bs} (h:okT l) (k:Nat):okT (l.drop k):=True.intro
theorem jm (l:Bs):(xL l).length≤l.length:=by
 unfold xL Lib.trimSuffix;split
 ·rw [List.length_take];omega
 omega
theorem qu {x y:Bs} (h:yx x=some y):y.length≤63:=by
 unfold yx at h;split at h
 ·unfold x8 at h;split at h
  ·cases h
  split at h
  ·rename_i h2;cases h;exact (qk h2).2
  cases h
 exact (qk (qx h)).2
theorem kY {x y:Bs} {r d:List Bs} {o:Option (List Bs)} (hs:o=(x9 (x::r)).map (d++·)) (h:yx x=some y):o=(x9 r).map ((d++[y])++·):=by
 rw [hs,x9,h];simp only;cases x9 r<;>simp
theorem kZ {x:Bs} {r d:List Bs} {o:Option (List Bs)} (hs:o=(x9 (x::r)).map (d++·)) (h:yx x=none):o=none:=by
 rw [hs,x9,h];rfl
theorem k7 (c:UInt8):∀ L:List Bs,(∀ y∈L,y.length≤63)→(ye c L).length≤64*L.length
 | [],_=>by simp [ye]
 | [p],h=>by have:=h p (List.mem_cons_self ..);show p.length≤_;simp;omega
 | p::q::r,h=>by
  have ih:=k7 c (q::r) (fun y hy=>h y (List.mem_cons_of_mem _ hy));have:=h p (List.mem_cons_self ..);show (p++c::ye c (q::r)).length≤_;simp only [List.length_append,List.length_cons] at ih ⊢;omega
theorem U5 (F:Nat):∀ (ps:List Bs) (v j r:Nat),ps≠[]→v<256 ^ j→zn F ps v=some r→r<256 ^ (j+ps.length - 1)*2 ^ F
 | [],v,j,r,h,_,_=>absurd rfl h
 | [p],v,j,r,_,hv,h=>by
  unfold zn at h;split at h
  ·rename_i hc;cases h;have h1:v+1≤256 ^ j:=hv;have h2:=Nat.mul_le_mul_right (2 ^ F) h1;rw [Nat.add_mul,Nat.one_mul] at h2;have e:j+[p].length - 1=j:=by simp
   rw [e];omega
  cases h
 | p::q::t,v,j,r,_,hv,h=>by
  unfold zn at h;split at h
  ·rename_i hc;have hv2:v*256+(zr p).1<256 ^ (j+1):=by
    rw [Nat.pow_succ];have:=Nat.mul_le_mul_right 256 (show v+1≤256 ^ j from hv);omega
   have:=U5 F (q::t) _ (j+1) r (by simp) hv2 h;have e:j+1+(q::t).length - 1=j+(p::q::t).length - 1:=by simp;omega
   rw [e] at this;exact this
  cases h
theorem qP (l:Bs):(xw l).1<4294967296:=by
 unfold xw;split
 ·rename_i h;refine U0 (fun v hv=> ?_);have hp:=uF l;have:=U5 _ (zH l) 0 0 v (List.length_pos_iff.1 hp) (by simp) hv;have h4:(zH l).length=1∨(zH l).length=2∨(zH l).length=3∨(zH l).length=4:=by omega
  rcases h4 with h4 | h4 | h4 | h4<;>rw [h4] at this<;>simpa using this
 decide
theorem splitD_count (c:UInt8):∀ l:Bs,(zi c l).length≤l.length+1
 | []=>by simp [zi]
 | b::r=>by
  have ih:=splitD_count c r;rw [zi];split
  ·simp;omega
  cases hs:zi c r with
  | nil=>simp
  | cons x t=>rw [hs] at ih;simp at ih ⊢;omega
end Hs
namespace Go.Proofs.YtjbciamhhfcdoaaGreatDoor
open Go.RowKit Hs
theorem PD (s:ByteArray) (w:World) (hU:U8 w) (hs:s.size≤100000):Calls Tryz.prog 212 #[.string s] w fun e w'=>(∃ t c,e= .returned (.tuple #[.string t,.int .i64 c])∧((c=0∧yx (un s)=some (un t))∨(c≠0∧t=⟨#[]⟩∧yx (un s)=none)))∧Below w.heap.size w w':=by
 by_cases ha:rp (un s)=true
 ·rw [qw ha];exact pH s w (by omega) ha
 have ha2:rp (un s)=false:=by simpa using ha
 rw [show yx (un s)=xQ (un s) from if_neg ha];exact kr s w hU hs ha2
theorem YP (s:ByteArray) (w:World) (hB:Base w) (hs:s.size≤100000000):Calls Tryz.prog 179 #[.string s,.string ⟨#[46]⟩] w fun e w'=>e= .returned (.slice (some ⟨w.heap.size,0,none⟩) (zi 46 (un s)).length (zi 46 (un s)).length)∧w'=w.alloc (.cells (zy (zi 46 (un s))).toArray 9):=by
 obtain ⟨_,⟨m,hm⟩,_⟩:=hB;refine (Tryz.strings_Split s ⟨#[46]⟩ m w (by omega) hm (by decide)).mono ?_;rintro e w' ⟨rfl,rfl⟩;have hlen:=Lib.splitB_all (⟨#[46]⟩:ByteArray) (by decide) 0 (Lib.countB s ⟨#[46]⟩) s rfl;have hmap:(Lib.splitB (⟨#[46]⟩:ByteArray) 0 (Lib.countB s ⟨#[46]⟩) s).map un=zi 46 (un s):=(Lib.splitB_data _ 0 _ s).trans (pB 46 (un s));have h2:(zi 46 (un s)).length=Lib.countB s ⟨#[46]⟩+1:=by rw [←hmap,List.length_map,hlen]
 have h3:zy (zi 46 (un s))=(Lib.splitB (⟨#[46]⟩:ByteArray) 0 (Lib.countB s ⟨#[46]⟩) s).map Value.string:=by
  rw [←hmap];unfold zy;rw [List.map_map];apply List.map_congr_left;intro x _;simp [Function.comp,vd]
 rw [h2,h3];exact ⟨rfl,rfl⟩
theorem V9 (v:Value) (L:List Bs) (w:World) (hst:Strs w v L) (hl:(ye 46 L).length≤1000000) (hn:L.length≤1000000):Calls Tryz.prog 194 #[v,.string ⟨#[46]⟩] w fun e w'=>e= .returned (.string (mk (ye 46 L)))∧Below w.heap.size w w':=by
 obtain ⟨a,cap,rfl,h1,h2,hc⟩:=hst.open;cases L with
 | nil =>
  refine (Tryz.strings_Join_none a cap ⟨#[46]⟩ w).mono ?_;rintro e w' ⟨rfl,rfl⟩;exact ⟨rfl,Below.refl _ _⟩
 | cons x r =>
  obtain ⟨b,off,rfl,hb,hcell⟩:=hc (by simp);have hx:((x::r).map mk).length=(x::r).length:=by simp
  have hm:(((x::r).map mk).map (·.data.toList))=x::r:=by
   rw [List.map_map]
   conv=>rhs;rw [←List.map_id (x::r)]
   apply List.map_congr_left;intro y _;exact zj y
  have hj:Lib.join (((x::r).map mk).map (·.data.toList)) (⟨#[46]⟩:ByteArray).data.toList=ye 46 (x::r):=by
   rw [hm];exact vo 46 (x::r)
  have:=Tryz.strings_Join b off cap ((x::r).map mk) ⟨#[46]⟩ w (by
   intro j y hy;have hjl:j<(x::r).length:=by have:=(List.getElem?_eq_some_iff.1 hy).1;simpa using this
   rw [List.getElem?_map,List.getElem?_eq_getElem hjl] at hy;have hy:=Option.some.inj hy;rw [←hy];exact hcell j hjl) hb (by rw [hx];omega) (by rw [hx];exact h1) (by rw [hj];omega)
  rw [hj,hx] at this;exact this
theorem S9 {w:World} {g:Nat} {T:TypeId} {L:List Bs} (h:BlkL w g T (zy L)) (hn:L.length≤1000000):Strs w (.slice (some ⟨g,0,none⟩) L.length L.length) L:=by
 refine ⟨by simp [zy],_,_,rfl,Nat.le_refl _,by unfold maxLen;omega,.inr ⟨g,0,rfl,h.lt,fun j u hj=> ?_⟩⟩;rw [Nat.zero_add];exact h.c j u hj
theorem yV (w:World) {b:Nat} (g k:Nat) (v:Value) (hb:b≤g):Below b w (w.setCell ⟨g,k,none⟩ v):=⟨rfl,rfl,rfl,by simp,fun j hj=>Below.heap_setCell w ⟨g,k,none⟩ v j (fun e=>by have:j=g:=e;omega)⟩
theorem Ty {l:Bs} {h:HostP} (e:rV l=some h):ym h:=by
 unfold rV at e;split at e
 ·cases hp:xG ((l.take (l.length - 1)).drop 1) with
  | none=>rw [hp] at e;cases e
  | some v =>
   rw [hp] at e;cases e;have:=uZ hp;exact ⟨this.1,this.2,(by omega:(0:Nat)<4294967296)⟩
 cases e
theorem SW (k:Nat) (n:Bs) (v:Nat) (hv:v<4294967296):ym ⟨k,n,v,xj⟩:=⟨rfl,(by decide:∀ x∈xj,x<65536),hv⟩
theorem YV {l:Bs} {h:HostP} (e:yY l=some h):ym h:=by
 unfold yY at e;split at e
 ·cases e
 split at e
 ·exact Ty e
 split at e
 ·cases e
 unfold vk at e;split at e
 ·split at e
  ·cases e;exact SW _ _ _ (qP _)
  cases e
 unfold SE at e;split at e
 ·cases e
 unfold Y8 at e;split at e
 ·cases e
 split at e
 ·cases e
 cases e;exact SW _ _ _ (by omega)
def tk (o:Option HostP) (base:Nat) (w:World) (e:Ending) (w':World):Prop:=(∃ h c,e= .returned (.tuple #[.agg (zc h).toArray,.int .i64 c])∧((c=0∧o=some h)∨(c≠0∧h=zk∧o=none)))∧Below base w w'
theorem ZS {l:Bs} (h:1024<l.length):yY l=none:=if_pos h
theorem ge {l:Bs} (h:¬ 1024<l.length) (hb:l.head? =some 91):yY l=rV l:=by unfold yY;rw [if_neg h,if_pos hb]
theorem ZR {l:Bs} (h:¬ 1024<l.length) (hb:l.head? ≠some 91):yY l=match pctV l with
  | none=>none
  | some t=>vk (xL t):=by unfold yY;rw [if_neg h,if_neg hb];rfl
set_option maxRecDepth 20000
set_option maxHeartbeats 4000000
theorem R9 (s:ByteArray) (w:World) (hB:Base w) (h1:1024<s.size) (hs:s.size≤1000000):Calls Tryz.prog 174 #[.string s] w (tk (yY (un s)) w.heap.size w):=by
 have hfin:=KZ9 (ZS (l:=un s) (by rw [zb];exact h1));have HS0:=KZ9 (heap_alloc_new w (.cells (zc zk).toArray 60));have g1:decide ((1024:Int)<(s.size:Int))=true:=KZ7 (by omega);go_enter Tryz.func174,Tryz.ntmps174
 go_wp2_with (first
  | refine wpList_store_row rfl 60 (.tmp 2) (.tmp 18) rfl w.heap.size (zc zk).toArray rfl rfl 60 _ HS0.out zx rfl (ze (yL zk)) ?_)
 all_goals try omega
 refine bodyPost_ret (zf rfl _ _ w.heap.size 60 _ _ rfl ((BlkL.new w 60 (zc zk)).setRow (zc zk)) Tryz.underlying60 rfl zx) rfl ?_;exact ⟨⟨zk,3,rfl,.inr ⟨by decide,rfl,hfin.out⟩⟩,below_setRow ((Below.refl _ w).alloc (Nat.le_refl _) _) (Nat.le_refl _) _⟩
theorem R8 (s:ByteArray) (w:World) (hB:Base w) (h1:s.size≤1024) (hb:(un s).head? =some 91):Calls Tryz.prog 174 #[.string s] w (tk (yY (un s)) w.heap.size w):=by
 have hfin:=KZ9 (ge (l:=un s) (by rw [zb];omega) hb);have hbA:Below w.heap.size w (w.alloc (.cells (zc zk).toArray 60)):=(Below.refl _ w).alloc (Nat.le_refl _) _;have hr0:BlkL (w.alloc (.cells (zc zk).toArray 60)) w.heap.size 60 (zc zk):=BlkL.new w _ _;have hsz0:w.heap.size+1≤(w.alloc (.cells (zc zk).toArray 60)).heap.size:=by simp
 obtain ⟨W0,hW0⟩:=KZ6 (w.alloc (.cells (zc zk).toArray 60));rw [←hW0] at hbA hr0 hsz0;have HW0:=KZ9 ((uR w).trans hW0.symm);have B0:=hB.below hbA;have HR0:=KZ9 hr0;clear hW0 hr0;have hp:=vU s 91 W0;rw [hb] at hp;have HP:=KZ9 hp;have HA:=KZ9 (Sz s W0 B0 (by omega) hb);clear hp hb hB;go_enter Tryz.func174,Tryz.ntmps174
 go_wp2_with fail
 all_goals try omega
 rw [HW0.out];refine HP.out.mono ?_;rintro e w1 ⟨rfl,rfl⟩;go_wp2_with fail
 all_goals try omega
 refine HA.out.mono ?_;rintro e w1 ⟨⟨h,c,rfl,hres⟩,hb1⟩;have hw:ym h:=by
  rcases hres with ⟨_,h2⟩ | ⟨_,h2,_⟩
  ·exact Ty h2
  rw [h2];exact vV
 have hi:=xI hw.1;have HR1:=KZ9 (HR0.out.below (by omega) hb1);have HALL:=KZ9 (hbA.trans (hb1.mono (by omega)));have HRES:=KZ9 hres;have HI:=KZ9 hi;have HSZ:=KZ9 (show (zc zk).toArray.size=(zc h).toArray.size by rw [List.size_toArray,List.size_toArray,xR hw.1];rfl);clear hb1 hbA hres hw hi HP HA HW0 HR0 B0;go_wp2_with (first
  | refine wpList_store_row rfl 60 (.tmp 2) (.tmp 24) rfl w.heap.size (zc h).toArray rfl rfl 60 _ HR1.out HI.out HSZ.out (ze (yL h)) ?_)
 all_goals try omega
 refine bodyPost_ret (zf rfl _ _ w.heap.size 60 _ _ rfl (HR1.out.setRow (zc h)) Tryz.underlying60 rfl HI.out) rfl ?_;refine ⟨⟨h,c,rfl,?_⟩,below_setRow HALL.out (Nat.le_refl _) _⟩;rw [hfin.out];exact HRES.out
set_option maxHeartbeats 8000000
theorem R7 (s:ByteArray) (w:World) (hB:Base w) (h1:s.size≤1024) (hb:(un s).head? ≠some 91) (hT:okT (un s)):Calls Tryz.prog 174 #[.string s] w (tk (yY (un s)) w.heap.size w):=by
 have hdef:=ZR (l:=un s) (by rw [zb];omega) hb;have hbA:Below w.heap.size w (w.alloc (.cells (zc zk).toArray 60)):=(Below.refl _ w).alloc (Nat.le_refl _) _;have hr0:BlkL (w.alloc (.cells (zc zk).toArray 60)) w.heap.size 60 (zc zk):=BlkL.new w _ _;have hsz0:w.heap.size+1≤(w.alloc (.cells (zc zk).toArray 60)).heap.size:=by simp
 obtain ⟨W0,hW0⟩:=KZ6 (w.alloc (.cells (zc zk).toArray 60));rw [←hW0] at hbA hr0 hsz0;have HW0:=KZ9 ((uR w).trans hW0.symm);have B0:=hB.below hbA;have HR0:=KZ9 hr0;clear hW0 hr0;have hp:=vU s 91 W0;rw [KZ8 hb] at hp;have HP:=KZ9 hp;have HDC:=KZ9 (Qa s W0 (by omega));have HDEF:=KZ9 hdef;have HT:=KZ9 hT;have HBB:=KZ9 hB;clear hp hb hB hdef hT;go_enter Tryz.func174,Tryz.ntmps174
 go_wp2_with fail
 all_goals try omega
 rw [HW0.out];refine HP.out.mono ?_;rintro e w1 ⟨rfl,rfl⟩;go_wp2_with fail
 all_goals try omega
 refine HDC.out.mono ?_;rintro e w1 ⟨⟨t,ok,rfl,hres⟩,hb1⟩;have hr1:=HR0.out.below (by omega) hb1;have hall1:=hbA.trans (hb1.mono (by omega));have B1:=B0.below hb1;have hs1:=hb1.size;have HR1:=KZ9 hr1;have HALL1:=KZ9 hall1;clear hb1 hbA hr1 hall1 HP HDC HW0 HR0 B0;rcases hres with ⟨rfl,hpt⟩ | ⟨rfl,rfl,hpn⟩
 ·have hd2:=HDEF.out;rw [hpt] at hd2;have hd2:yY (un s)=vk (xL (un t)):=hd2;have hlt:(un t).length≤s.size:=by have:=qJ _ _ _ (Nat.le_refl _) hpt;rw [zb] at this;exact this
  have hld:=jm (un t);have htr:=Wg t w1 (by rw [←zb];omega);obtain ⟨q,hq⟩:=KZ6 (xL (un t));rw [←hq] at hd2 hld htr;have hql:q.length≤1024:=by omega
  have HTR:=KZ9 htr;have HD2:=KZ9 hd2;have hnum:=qm (mk q) w1 B1 (by rw [zh];omega);rw [zj] at hnum;obtain ⟨nm,hnm⟩:=KZ6 (yq q);rw [←hnm] at hnum;have HN:=KZ9 hnum;have HNM:=KZ9 hnm;clear hd2 htr hq hpt hnum hnm HDEF HT hlt hld;go_wp2_with fail
  all_goals try omega
  refine HTR.out.mono ?_;rintro e w2 ⟨rfl,rfl⟩;go_wp2_with fail
  all_goals try omega
  refine HN.out.mono ?_;rintro e w2 ⟨rfl,hb2⟩;have hr2:=HR1.out.below (by omega) hb2;have hall2:=HALL1.out.trans (hb2.mono (by omega));have B2:=B1.below hb2;have hs2:=hb2.size;have HR2:=KZ9 hr2;have HALL2:=KZ9 hall2;clear hb2 hr2 hall2 HR1 HALL1 B1 HN HTR;cases nm
  ·have hd3:=HD2.out;unfold vk SE at hd3;rw [←HNM.out,if_neg (by simp)] at hd3;have hsp:=YP (mk q) w2 B2 (by rw [zh];omega);rw [zj] at hsp;have hll:(zi 46 q).length≤1025:=by
    have:=splitD_count 46 q;omega
   have hle:∀ x∈zi 46 q,x.length≤1024:=fun x hx=>by have:=yJ 46 q x hx;omega
   obtain ⟨L,hL⟩:=KZ6 (zi 46 q);simp only [←hL] at hd3 hsp hll hle;have HSP:=KZ9 hsp;have HLE:=KZ9 hle;have HD3:=KZ9 hd3;obtain ⟨g,hg⟩:=KZ6 w2.heap.size;obtain ⟨n,hn⟩:=KZ6 L.length;rw [←hn] at hll;clear hd3 hsp hL hle HD2 HNM;go_wp2_with fail
   all_goals try omega
   refine HSP.out.mono ?_;rintro e w3 ⟨rfl,rfl⟩;have hb3:Below w2.heap.size w2 (w2.alloc (.cells (zy L).toArray 9)):=(Below.refl _ w2).alloc (Nat.le_refl _) _;have hl3:BlkL (w2.alloc (.cells (zy L).toArray 9)) w2.heap.size 9 (zy L):=BlkL.new w2 _ _;have hr3:=HR2.out.below (by omega) hb3;have hall3:=HALL2.out.trans (hb3.mono (by omega));have B3:=B2.below hb3;have hs3:w2.heap.size+1≤(w2.alloc (.cells (zy L).toArray 9)).heap.size:=by simp
   obtain ⟨W3,hW3⟩:=KZ6 (w2.alloc (.cells (zy L).toArray 9));rw [←hW3] at hb3 hl3 hr3 hall3 B3 hs3 ⊢;rw [←hg] at hs3 hl3 ⊢;rw [←hn];have HL3:=KZ9 hl3;have HR3:=KZ9 hr3;have HALL3:=KZ9 hall3;have HNL:=KZ9 hn;have hgw:w.heap.size<g:=by omega
   clear hl3 hr3 hall3 hb3 hW3 HSP HR2 HALL2 B2 hn hg hs2 hs1;go_wp2
   all_goals try omega
   go_loopw [52] (fun iv wr=>∃ (k:Nat) (d:List Bs),iv= .int .i64 k∧k≤n∧d.length=k∧Hid (∀ y∈d,y.length≤63)∧g<wr.heap.size∧Hid (BlkL wr g 9 (zy (d++L.drop k)))∧Hid (BlkL wr w.heap.size 60 (zc zk))∧Hid (Below w.heap.size w wr)∧Hid (x9 L=(x9 (L.drop k)).map (d++·))) (fun iv _=>n - (intOf iv).toNat)
   case atStart=>exact ⟨0,[],rfl,by omega,rfl,KZ9 (by simp),by omega,KZ9 (by rw [List.drop_zero,List.nil_append];exact HL3.out),HR3,HALL3,KZ9 (by rw [List.drop_zero];cases x9 L<;>simp)⟩
   case round =>
    obtain ⟨k,d,rfl,hk,hdl,hd63,hgr,hlr,hrr,hnx,hst⟩:=hrel;by_cases hlt:k<n
    ·have hkl:k<L.length:=by rw [←HNL.out];exact hlt
     have hdr:L.drop k=L[k]::L.drop (k+1):=List.drop_eq_getElem_cons hkl;have hst2:=hst.out;have hl2:=hlr.out;rw [hdr] at hst2 hl2;have hxl:=HLE.out L[k] (List.getElem_mem hkl);obtain ⟨x,hx⟩:=KZ6 (L[k]);rw [←hx] at hst2 hl2 hxl;have c0:wr.cell? ⟨g,k,none⟩=some (.string (mk x)):=hl2.c k _ (by simp [zy,hdl]);have htoa:=PD (mk x) wr (HBB.out.below hnx.out).2.2 (by rw [zh];omega);rw [zj] at htoa;have HTO:=KZ9 htoa;have HST:=KZ9 hst2;have HL2:=KZ9 hl2;clear hst hst2 hlr hl2 hdr hx htoa;go_wp2_with fail
     all_goals try omega
     refine HTO.out.mono ?_;rintro e w4 ⟨⟨y,c,rfl,hres⟩,hb4⟩;have hs4:=hb4.size;have HL4:=KZ9 (HL2.out.below hgr hb4);have HR4:=KZ9 (hrr.out.below (by omega) hb4);have HNX4:=KZ9 (hnx.out.trans (hb4.mono (by have:=hnx.out.size;omega)));have f4:=HL4.out.f k;have c4:w4.cell? ⟨g,k,none⟩=some (.string (mk x)):=HL4.out.c k _ (by simp [zy,hdl]);clear hb4 HL2 hrr hnx HTO c0;rcases hres with ⟨rfl,hok⟩ | ⟨hc,rfl,hno⟩
     ·have hst5:=KZ9 (kY HST.out hok);have hy63:=qu hok;have hd2:Hid (∀ z∈d++[un y],z.length≤63):=KZ9 fun z hz=>by
       rcases List.mem_append.1 hz with hz | hz
       ·exact hd63.out z hz
       rw [List.mem_singleton.1 hz];exact hy63
      clear HST hok hd63 hy63;go_wp2
      all_goals try omega
      go_roundw
      case rel =>
       refine ⟨k+1,d++[un y],by go_num,by omega,by simp;omega,hd2,by simp;omega,KZ9 ?_,KZ9 (HR4.out.other (by omega) _ _),KZ9 ?_,hst5⟩
       ·have:=HL4.out.set k (by simp [zy,hdl]) (.string y);have e:(zy (d++x::L.drop (k+1))).set k (.string y)=zy (d++[un y]++L.drop (k+1)):=by
         have e0:zy (d++x::L.drop (k+1))=zy d++(.string (mk x)::zy (L.drop (k+1))):=by simp [zy]
         have e1:zy (d++[un y]++L.drop (k+1))=zy d++(.string y::zy (L.drop (k+1))):=by simp [zy,vd]
         have el:(zy d).length=k:=by simp [zy,hdl]
         rw [e0,e1,←el];simp
        rw [e] at this;exact this
       exact HNX4.out.trans (yV w4 _ _ _ (by omega))
      case measure=>simp [intOf];omega
     have hfin:yY (un s)=none:=by
      rw [HD3.out,kZ HST.out hno]
     have HFIN:=KZ9 hfin;have g4:(c != 0)=true:=by simpa using hc
     have HC:=KZ9 hc;clear HST hno hfin hc;go_wp2_with (first
      | refine wpList_store_row rfl 60 (.tmp 2) (.tmp 64) rfl w.heap.size (zc zk).toArray rfl rfl 60 _ HR4.out zx rfl (ze (yL zk)) ?_)
     all_goals try omega
     refine bodyPost_ret (zf rfl _ _ w.heap.size 60 _ _ rfl (HR4.out.setRow (zc zk)) Tryz.underlying60 rfl zx) rfl ?_;exact ⟨⟨zk,c,rfl,.inr ⟨HC.out,rfl,HFIN.out⟩⟩,below_setRow HNX4.out (Nat.le_refl _) _⟩
    have hkn:k=n:=by omega
    have hdrop:L.drop k=[]:=List.drop_of_length_le (by rw [←HNL.out];omega);have hst2:=hst.out;have hl2:=hlr.out;rw [hdrop] at hst2 hl2;rw [List.append_nil] at hl2;have hlabs:x9 L=some d:=by rw [hst2];simp [x9]
    have hd4:=HD3.out;rw [hlabs] at hd4;have hd4:yY (un s)=Y8 (ye 46 d):=hd4;have hjl:=k7 46 d hd63.out;have hstr:=S9 hl2 (by omega);rw [hdl,hkn] at hstr;have hjo:=V9 _ d wr hstr (by omega) (by omega);obtain ⟨N,hN⟩:=KZ6 (ye 46 d);rw [←hN] at hd4 hjl hjo;have HJ:=KZ9 hjo;have HD4:=KZ9 hd4;clear hst hst2 hlr hl2 hlabs hd4 hstr hjo hdrop hN hd63 HD3 HLE HNL;go_wp2_with fail
    all_goals try omega
    refine HJ.out.mono ?_;rintro e w5 ⟨rfl,hb5⟩;have hs5:=hb5.size;have HR5:=KZ9 (hrr.out.below (by omega) hb5);have HNX5:=KZ9 (hnx.out.trans (hb5.mono (by have:=hnx.out.size;omega)));have B5:=HBB.out.below HNX5.out;clear hb5 HJ hrr hnx;by_cases h253:253<N.length
    ·have hfin:=KZ9 (HD4.out.trans (if_pos h253));have g5:decide ((253:Int)<((mk N).size:Int))=true:=KZ7 (by rw [zh];omega);clear HD4;go_wp2_with (first
      | refine wpList_store_row rfl 60 (.tmp 2) (.tmp 77) rfl w.heap.size (zc zk).toArray rfl rfl 60 _ HR5.out zx rfl (ze (yL zk)) ?_)
     all_goals try omega
     refine bodyPost_ret (zf rfl _ _ w.heap.size 60 _ _ rfl (HR5.out.setRow (zc zk)) Tryz.underlying60 rfl zx) rfl ?_;exact ⟨⟨zk,3,rfl,.inr ⟨by decide,rfl,hfin.out⟩⟩,below_setRow HNX5.out (Nat.le_refl _) _⟩
    have hd5:=HD4.out;unfold Y8 at hd5;rw [if_neg h253] at hd5;have g5:decide ((253:Int)<((mk N).size:Int))=false:=KZ8 (by rw [zh];omega);have hnum:=qm (mk N) w5 B5 (by rw [zh];omega);rw [zj] at hnum;obtain ⟨nm,hnm⟩:=KZ6 (yq N);rw [←hnm] at hnum hd5;have HN:=KZ9 hnum;have HD5:=KZ9 hd5;clear hnum hnm hd5 HD4;go_wp2_with fail
    all_goals try omega
    refine HN.out.mono ?_;rintro e w6 ⟨rfl,hb6⟩;have HR6:=KZ9 (HR5.out.below (by omega) hb6);have HNX6:=KZ9 (HNX5.out.trans (hb6.mono (by have:=HNX5.out.size;omega)));clear hb6 HN HR5 HNX5;cases nm
    ·have hfin:=KZ9 (HD5.out.trans (if_neg (by simp)));go_wp2_with (first
      | refine wpList_store_row rfl 60 (.tmp 2) (.tmp 83) rfl w.heap.size (zc ⟨1,N,0,xj⟩).toArray rfl rfl 60 _ HR6.out zx rfl (ze (yL _)) ?_)
     all_goals try omega
     refine bodyPost_ret (zf rfl _ _ w.heap.size 60 _ _ rfl (HR6.out.setRow (zc ⟨1,N,0,xj⟩)) Tryz.underlying60 rfl zx) rfl ?_;exact ⟨⟨_,0,rfl,.inl ⟨rfl,hfin.out⟩⟩,below_setRow HNX6.out (Nat.le_refl _) _⟩
    have hfin:=KZ9 (HD5.out.trans (if_pos rfl));go_wp2_with (first
     | refine wpList_store_row rfl 60 (.tmp 2) (.tmp 81) rfl w.heap.size (zc zk).toArray rfl rfl 60 _ HR6.out zx rfl (ze (yL zk)) ?_)
    all_goals try omega
    refine bodyPost_ret (zf rfl _ _ w.heap.size 60 _ _ rfl (HR6.out.setRow (zc zk)) Tryz.underlying60 rfl zx) rfl ?_;exact ⟨⟨zk,14,rfl,.inr ⟨by decide,rfl,hfin.out⟩⟩,below_setRow HNX6.out (Nat.le_refl _) _⟩
  have hd3:=HD2.out;unfold vk at hd3;rw [←HNM.out,if_pos rfl] at hd3;have hns:=Uh (mk q) w2 B2 (by rw [zh];omega);rw [zj] at hns;obtain ⟨⟨v,vok⟩,hv⟩:∃ v,v=xw q:=⟨_,rfl⟩;have hvl:=qP q;rw [←hv] at hns hd3 hvl;simp only at hns hd3 hvl;have HNS:=KZ9 hns;have HD3:=KZ9 hd3;clear hns hd3 hv HD2 HNM;go_wp2_with fail
  all_goals try omega
  refine HNS.out.mono ?_;rintro e w3 ⟨rfl,hb3⟩;have HR3:=KZ9 (HR2.out.below (by omega) hb3);have HNX3:=KZ9 (HALL2.out.trans (hb3.mono (by have:=HALL2.out.size;omega)));clear hb3 HR2 HALL2 HNS;cases vok
  ·have hfin:=KZ9 (HD3.out.trans (if_neg (by simp)));go_wp2_with (first
    | refine wpList_store_row rfl 60 (.tmp 2) (.tmp 45) rfl w.heap.size (zc zk).toArray rfl rfl 60 _ HR3.out zx rfl (ze (yL zk)) ?_)
   all_goals try omega
   refine bodyPost_ret (zf rfl _ _ w.heap.size 60 _ _ rfl (HR3.out.setRow (zc zk)) Tryz.underlying60 rfl zx) rfl ?_;exact ⟨⟨zk,14,rfl,.inr ⟨by decide,rfl,hfin.out⟩⟩,below_setRow HNX3.out (Nat.le_refl _) _⟩
  have hfin:=KZ9 (HD3.out.trans (if_pos rfl));go_wp2_with (first
   | refine wpList_store_row rfl 60 (.tmp 2) (.tmp 47) rfl w.heap.size (zc ⟨2,[],v,xj⟩).toArray rfl rfl 60 _ HR3.out zx rfl (ze (yL _)) ?_)
  all_goals try omega
  refine bodyPost_ret (zf rfl _ _ w.heap.size 60 _ _ rfl (HR3.out.setRow (zc ⟨2,[],v,xj⟩)) Tryz.underlying60 rfl zx) rfl ?_;exact ⟨⟨_,0,rfl,.inl ⟨rfl,hfin.out⟩⟩,below_setRow HNX3.out (Nat.le_refl _) _⟩
 have hd2:=HDEF.out;rw [hpn] at hd2;have hfin:=KZ9 hd2;clear hd2 hpn HDEF HT;go_wp2_with (first
  | refine wpList_store_row rfl 60 (.tmp 2) (.tmp 33) rfl w.heap.size (zc zk).toArray rfl rfl 60 _ HR1.out zx rfl (ze (yL zk)) ?_)
 all_goals try omega
 refine bodyPost_ret (zf rfl _ _ w.heap.size 60 _ _ rfl (HR1.out.setRow (zc zk)) Tryz.underlying60 rfl zx) rfl ?_;exact ⟨⟨zk,14,rfl,.inr ⟨by decide,rfl,hfin.out⟩⟩,below_setRow HALL1.out (Nat.le_refl _) _⟩
theorem PC (s:ByteArray) (w:World) (hB:Base w) (hs:s.size≤1000000) (hT:okT (un s)):Calls Tryz.prog 174 #[.string s] w (tk (yY (un s)) w.heap.size w):=by
 by_cases h1:1024<s.size
 ·exact R9 s w hB h1 hs
 by_cases hb:(un s).head? =some 91
 ·exact R8 s w hB (by omega) hb
 exact R7 s w hB (by omega) hb hT
end Go.Proofs.YtjbciamhhfcdoaaGreatDoor
namespace Hs
open Go
theorem Xj {a:Bs} (h:zo 64 a<0):wE a=([],a):=by unfold wE;rw [if_pos h]
theorem Xk {a:Bs} {k:Nat} (h:zo 64 a=k):wE a=(a.take k,a.drop (k+1)):=by
 unfold wE;rw [h,if_neg (by omega)];simp
theorem Ws {a:Bs} {k:Nat} (hh:a.head? =some 91) (h:Lib.indexByte a 93=k):yC a=some (a.take (k+1),a.drop (k+1)):=by
 unfold yC;rw [if_pos hh,h,if_neg (by omega)];simp
theorem Y0 {a:Bs} (hh:a.head? =some 91) (h:Lib.indexByte a 93<0):yC a=none:=by
 unfold yC;rw [if_pos hh,if_pos h]
theorem YY {a:Bs} {k:Nat} (hh:a.head? ≠some 91) (h:Lib.indexByte a 58=k):yC a=some (a.take k,a.drop k):=by
 unfold yC;rw [if_neg hh,h,if_neg (by omega)];simp
theorem Wr {a:Bs} (hh:a.head? ≠some 91) (h:Lib.indexByte a 58<0):yC a=some (a,[]):=by
 unfold yC;rw [if_neg hh,if_pos h]
theorem TD (a:Bs):∀ x∈(wE a).2,x∈a:=by
 intro x hx;unfold wE at hx;split at hx
 ·exact hx
 exact List.mem_of_mem_drop hx
theorem Zg (a:Bs):(wE a).2.length≤a.length:=by
 unfold wE;split
 ·exact Nat.le_refl _
 simp only [List.length_drop];omega
theorem YW {r nm tl:Bs} (h:yC r=some (nm,tl)):(∀ x∈nm,x∈r)∧nm.length≤r.length∧tl.length≤r.length:=by
 unfold yC at h;split at h
 ·split at h
  ·cases h
  cases h;exact ⟨fun x hx=>List.mem_of_mem_take hx,by rw [List.length_take];omega,by rw [List.length_drop];omega⟩
 split at h
 ·cases h;exact ⟨fun x hx=>hx,Nat.le_refl _,by simp⟩
 cases h;exact ⟨fun x hx=>List.mem_of_mem_take hx,by rw [List.length_take];omega,by rw [List.length_drop];omega⟩
theorem kA {u:UrlP} {nm tl:Bs} (h:tl≠[]∧tl.head? ≠some 58):vl u nm tl=none:=if_pos h
theorem Zy {u:UrlP} {nm tl:Bs} (h:tl=[]∨tl.head? =some 58):vl u nm tl=match yY nm with
  | none=>none
  | some h=>match vz (tl.drop 1) with
   | none=>none
   | some p=>some { u with host:=h,port:=if p=zv u.scheme then u.port else p }:=by
 unfold vl;rw [if_neg (by rintro ⟨h1,h2⟩;rcases h with h | h<;>contradiction)];rfl
theorem uk (c:UInt8):∀ l:Bs,Lib.indexByte l c<l.length
 | []=>by simp [Lib.indexByte]
 | b::r=>by
  have ih:=uk c r;rw [Lib.indexByte];split
  ·simp
  split<;>simp<;>omega
end Hs
namespace Go.Proofs.YtjbciamhhfcdoaaGreatDoor
open Go.RowKit Hs
def uS (o:Option UrlP) (base:Nat) (w:World) (e:Ending) (w':World):Prop:=(∃ u c,e= .returned (.tuple #[.agg (za u).toArray,.int .i64 c])∧((c=0∧o=some u)∨(c≠0∧u=zu∧o=none)))∧Below base w w'
theorem uf (s:ByteArray) (k:Nat):s.extract 0 k=mk ((un s).take k):=by rw [yP,Xt]
theorem wN (s:ByteArray) (k:Nat):s.extract k s.size=mk ((un s).drop k):=by rw [yP,←zb,j9]
set_option maxRecDepth 20000
set_option maxHeartbeats 8000000
theorem UM (u:UrlP) (a:ByteArray) (w:World) (hB:Base w) (hw:ym u.host) (hu:u.user=[]) (hs:a.size≤100000) (hT:okT (un a)):Calls Tryz.prog 109 #[.agg (za u).toArray,.string a] w (uS (xr u (un a)) w.heap.size w):=by
 obtain ⟨W0,hW0⟩:=KZ6 ((w.alloc (.cells (za u).toArray 62)).alloc (.cells (za zu).toArray 62));have hbA:Below w.heap.size w W0:=by rw [hW0];exact ((Below.refl _ w).alloc (Nat.le_refl _) _).alloc (by simp) _
 have hb0:BlkL W0 w.heap.size 62 (za u):=by rw [hW0];exact (BlkL.new w _ _).alloc _
 have hr0:BlkL W0 (w.heap.size+1) 62 (za zu):=by
  rw [hW0];have:=BlkL.new (w.alloc (.cells (za u).toArray 62)) 62 (za zu)
  simpa using this
 have HW0:Hid ((w.alloc (.cells (za u).toArray 62)).alloc (.cells #[.string ⟨#[]⟩,.string ⟨#[]⟩,.int .i64 0,.string ⟨#[]⟩,.int .u32 0,.int .u16 0,.int .u16 0,.int .u16 0,.int .u16 0,.int .u16 0,.int .u16 0,.int .u16 0,.int .u16 0,.int .i64 0,.string ⟨#[]⟩] 62)=W0):=KZ9 hW0.symm;have hsz:W0.heap.size=w.heap.size+2:=by rw [hW0];simp
 clear hW0;have HBB:=KZ9 hB;have HLB:=KZ9 (sf a 64 W0 (by omega));have hlc:=zW 64 (un a);rw [zb] at hlc;have hu1:=@Xj (un a);have hu2:=fun k=>@Xk (un a) k;obtain ⟨q,hq⟩:=KZ6 (zo 64 (un a));rw [←hq] at HLB hlc hu1;simp only [←hq] at hu2;have HU1:=KZ9 hu1;have HU2:=KZ9 hu2;have HT:=KZ9 hT;obtain ⟨z,hz⟩:=KZ6 w.heap.size;obtain ⟨n,hn⟩:=KZ6 a.size;have HN:=KZ9 hn;have hsI:(a.size:Int)=(n:Int):=by rw [hn]
 rw [←hn] at hs hlc;clear hq hu1 hu2 hT hB hn;go_enter Tryz.func109,Tryz.ntmps109
 go_upto_region 1 with fail
 rw [HW0.out];clear HW0;go_wp2_with fail
 refine HLB.out.mono ?_;rintro e w1 ⟨rfl,rfl⟩;clear HLB;go_upto_if 18 with fail
 all_goals try omega
 go_cut [1] (fun s1 wx=>∃ usr rest,s1= .string (mk rest)∧Hid (wE (un a)=(usr,rest))∧Hid (BlkL wx w.heap.size 62 (za { u with user:=usr }))∧Hid (BlkL wx (w.heap.size+1) 62 (za zu))∧Hid (Below w.heap.size w wx)∧w.heap.size+2≤wx.heap.size)
 case first =>
  by_cases hq0:q<0
  ·have g1:decide ((0:Int)≤q)=false:=KZ8 (by omega);have hup:=HU1.out hq0;have HUP:=KZ9 hup;clear hup HU2 HU1;go_wp2
   all_goals try omega
   go_meet;refine ⟨[],un a,by rw [vd],HUP,KZ9 ?_,KZ9 hr0,KZ9 hbA,by omega⟩;have:{ u with user:=[] }=u:=by cases u;simp at hu;simp [hu]
   rw [this];exact hb0
  obtain ⟨k,rfl⟩:∃ k:Nat,q=k:=⟨q.toNat,by omega⟩;have g1:decide ((0:Int)≤(k:Int))=true:=KZ7 (by omega);have HUP:=KZ9 (HU2.out k rfl);have hkn:k<n:=by omega
  have hI1:(0:Int)≤(k:Int):=by omega
  have hI2:(k:Int)≤(n:Int):=by omega
  have hI3:(0:Int)≤(k:Int)+1:=by omega
  have hI4:(k:Int)+1≤(n:Int):=by omega
  have hw1:IntKind.i64.wrap ((k:Int)+1)=(k:Int)+1:=by rw [IntKind.wrap_i64];omega
  have hx1:=uf a k;have hx2:=wN a (k+1);have f1:=hb0.f 1;have c1:=hb0.c 1 _ rfl;clear HU2 HU1;go_upto_region 3 with fail
  all_goals try omega
  go_region_with (fail)
  all_goals
   go_wp2;go_meet;refine ⟨(un a).take k,(un a).drop (k+1),rfl,HUP,KZ9 (hb0.drew.set 1 (by simp [za]) (.string (mk ((un a).take k)))),KZ9 (hr0.drew.other (by omega) _ _),KZ9 ((below_drewN hbA 1).trans (yV _ _ _ _ (Nat.le_refl _))),?_⟩;simp;omega
 case rest =>
 obtain ⟨usr,rest,rfl,hup,hB1,hR1,hA1,hsz1⟩:=hcut;have hTr:okT rest:=U1 HT.out (by
  intro x hx;have h2:=congrArg Prod.snd hup.out;simp only at h2;rw [←h2] at hx;exact TD _ x hx)
 have hrl:rest.length≤n:=by
  have h2:=congrArg Prod.snd hup.out;simp only at h2;rw [←h2,HN.out,←zb];exact Zg _
 obtain ⟨V,hV⟩:=KZ6 (({ u with user:=usr }:UrlP));have hdef:Hid (xr u (un a)=match yC rest with
  | none=>none
  | some (nm,t)=>vl V nm t):=KZ9 (by unfold xr;rw [hup.out,hV];rfl)
 have hVw:ym V.host:=by rw [hV];exact hw
 rw [←hV] at hB1;have HTR:=KZ9 hTr;clear hbA hb0 hr0 hsz hu hw hV hup HU1 HU2 HT HN hsI hTr hlc;have HP:=KZ9 (vU (mk rest) 91 wc);rw [zj] at HP;obtain ⟨br,hbr⟩:=KZ6 (decide (rest.head? =some 91));rw [←hbr] at HP;have HBR:=KZ9 hbr;clear hbr;go_wp2_with fail
 refine HP.out.mono ?_;rintro e w2 ⟨rfl,rfl⟩;clear HP;go_upto_if 29 with fail
 all_goals try omega
 go_cut [7,8] (fun s7 s8 wx=>∃ nm tl,s7= .string (mk nm)∧s8= .string (mk tl)∧Hid (yC rest=some (nm,tl))∧Hid (BlkL wx w.heap.size 62 (za V))∧Hid (BlkL wx (w.heap.size+1) 62 (za zu))∧Hid (Below w.heap.size w wx)∧w.heap.size+2≤wx.heap.size)
 case first =>
  cases br
  ·have hh:=of_decide_eq_false HBR.out.symm;have hI:=wJ (mk rest) 58 wc;rw [zj] at hI;have hge:=Lib.indexByte_ge rest 58;have hlt:=uk 58 rest;have hp1:=fun k=>@YY rest k hh;have hp2:=@Wr rest hh;obtain ⟨ix,hix⟩:=KZ6 (Lib.indexByte rest 58);rw [←hix] at hI hge hlt hp2;simp only [←hix] at hp1;have HI:=KZ9 hI;have HP1:=KZ9 hp1;have HP2:=KZ9 hp2;clear hI hix hp1 hp2 hh;go_wp2_with fail
   refine HI.out.mono ?_;rintro e w3 ⟨rfl,rfl⟩;by_cases h0:ix<0
   ·have g1:decide ((0:Int)≤ix)=false:=KZ8 (by omega);have HPF:=KZ9 (HP2.out h0);clear HP1 HP2 HI;go_wp2
    all_goals try omega
    go_meet;exact ⟨rest,[],rfl,rfl,HPF,hB1,hR1,hA1,hsz1⟩
   obtain ⟨k,rfl⟩:∃ k:Nat,ix=k:=⟨ix.toNat,by omega⟩;have g1:decide ((0:Int)≤(k:Int))=true:=KZ7 (by omega);have HPF:=KZ9 (HP1.out k rfl);have hsr:(mk rest).size=rest.length:=zh rest;have hI1:(0:Int)≤(k:Int):=by omega
   have hI2:(k:Int)≤((mk rest).size:Int):=by omega
   have hx1:=uf (mk rest) k;have hx2:=wN (mk rest) k;rw [zj] at hx1 hx2;rw [hsr] at hx2;clear HP1 HP2 HI;go_upto_region 12 with fail
   all_goals try omega
   go_region_with (fail)
   all_goals
    go_wp2;go_meet;exact ⟨rest.take k,rest.drop k,rfl,by first | rfl | rw [hx2],HPF,KZ9 hB1.out.drew,KZ9 hR1.out.drew,KZ9 (below_drewN hA1.out 1),hsz1⟩
  have hh:=of_decide_eq_true HBR.out.symm;have hI:=wJ (mk rest) 93 wc;rw [zj] at hI;have hge:=Lib.indexByte_ge rest 93;have hlt:=uk 93 rest;have hp1:=fun k=>@Ws rest k hh;have hp2:=@Y0 rest hh;obtain ⟨ix,hix⟩:=KZ6 (Lib.indexByte rest 93);rw [←hix] at hI hge hlt hp2;simp only [←hix] at hp1;have HI:=KZ9 hI;have HP1:=KZ9 hp1;have HP2:=KZ9 hp2;clear hI hix hp1 hp2 hh;go_wp2_with fail
  refine HI.out.mono ?_;rintro e w3 ⟨rfl,rfl⟩;by_cases h0:ix<0
  ·have g1:decide (ix<(0:Int))=true:=KZ7 h0;have hfin:=hdef.out;rw [HP2.out h0] at hfin;have HFIN:=KZ9 hfin;clear HP1 HP2 HI hfin;go_wp2_with (first
    | refine wpList_store_row rfl 62 (.tmp 4) (.tmp 34) rfl (w.heap.size+1) (za zu).toArray rfl rfl 62 _ hR1.out zN rfl (ze (yk zu)) ?_)
   all_goals try omega
   refine bodyPost_ret (zf rfl _ _ (w.heap.size+1) 62 _ _ rfl (hR1.out.setRow (za zu)) Tryz.underlying62 rfl zN) rfl ?_;exact ⟨⟨zu,4,rfl,.inr ⟨by decide,rfl,HFIN.out⟩⟩,below_setRow hA1.out (by omega) _⟩
  obtain ⟨k,rfl⟩:∃ k:Nat,ix=k:=⟨ix.toNat,by omega⟩;have g1:decide ((k:Int)<(0:Int))=false:=KZ8 (by omega);have HPF:=KZ9 (HP1.out k rfl);have hsr:(mk rest).size=rest.length:=zh rest;have hI1:(0:Int)≤(k:Int)+1:=by omega
  have hI2:(k:Int)+1≤((mk rest).size:Int):=by omega
  have hw1:IntKind.i64.wrap ((k:Int)+1)=(k:Int)+1:=by rw [IntKind.wrap_i64];omega
  have hx1:=uf (mk rest) (k+1);have hx2:=wN (mk rest) (k+1);rw [zj] at hx1 hx2;rw [hsr] at hx2;clear HP1 HP2 HI;go_upto_region 9 with fail
  all_goals try omega
  go_region_with (fail)
  all_goals
   go_wp2;go_meet;exact ⟨rest.take (k+1),rest.drop (k+1),rfl,by first | rfl | rw [hx2],HPF,KZ9 hB1.out.drew,KZ9 hR1.out.drew,KZ9 (below_drewN hA1.out 1),hsz1⟩
 case rest =>
 obtain ⟨nm,tl,rfl,rfl,hpf,hB2,hR2,hA2,hsz2⟩:=hcut;have hsub:=YW hpf.out;have hTn:okT nm:=U1 HTR.out hsub.1;have hnl:nm.length≤n:=by omega
 have htl:tl.length≤n:=by omega
 have hd2:Hid (xr u (un a)=vl V nm tl):=KZ9 (by rw [hdef.out,hpf.out]);clear hB1 hR1 hA1 hsz1 hpf hdef HTR hrl hsub HBR;by_cases hbad:tl≠[]∧tl.head? ≠some 58
 ·have hfin:=KZ9 (hd2.out.trans (kA hbad));obtain ⟨b,r,rfl⟩:∃ b r,tl=b::r:=by
   cases tl with
   | nil=>exact absurd rfl hbad.1
   | cons b r=>exact ⟨b,r,rfl⟩
  have hb58:b≠58:=fun e=>hbad.2 (by rw [e];rfl);have e1:((mk (b::r)).toList==([]:Bs))=false:=by rw [toList_mk'];rfl
  have hpos:0<(mk (b::r)).size:=by rw [zh];simp
  have c0:(((mk (b::r))[0]'hpos).toNat:Int)=(b.toNat:Int):=rfl;have g1:((b.toNat:Int) != 58)=true:=by
   simp;intro e;exact hb58 (UInt8.toNat_inj.1 (by show b.toNat=58;omega))
  clear hbad hd2 hb58;go_wp2_with (first
   | refine wpList_store_row rfl 62 (.tmp 4) (.tmp 60) rfl (w.heap.size+1) (za zu).toArray rfl rfl 62 _ hR2.out zN rfl (ze (yk zu)) ?_)
  all_goals try omega
  refine bodyPost_ret (zf rfl _ _ (w.heap.size+1) 62 _ _ rfl (hR2.out.setRow (za zu)) Tryz.underlying62 rfl zN) rfl ?_;exact ⟨⟨zu,4,rfl,.inr ⟨by decide,rfl,hfin.out⟩⟩,below_setRow hA2.out (by omega) _⟩
 have hgood:tl=[]∨tl.head? =some 58:=by
  by_cases h:tl=[]
  ·exact .inl h
  exact .inr (Classical.byContradiction fun h2=>hbad ⟨h,h2⟩)
 have hd3:=KZ9 (hd2.out.trans (Zy hgood));have htp:=fun W=>kT (mk tl) 58 W;have htr:(if (un (mk tl)).head? =some 58 then (un (mk tl)).drop 1 else un (mk tl))=tl.drop 1:=by
  rw [zj];rcases hgood with rfl | h
  ·rfl
  rw [if_pos h]
 rw [htr] at htp;have hpar:=PC (mk nm) wc (HBB.out.below hA2.out) (by rw [zh];omega) (by rw [zj];exact hTn);rw [zj] at hpar;have HPAR:=KZ9 hpar;have htest:(0<tl.length∧((mk tl).toList==([]:Bs))=false∧∃ hp:0<(mk tl).size,(((mk tl)[0]'hp).toNat:Int)=58)∨((mk tl).toList==([]:Bs))=true:=by
  rcases hgood with h | h
  ·right;rw [h,toList_mk'];rfl
  left;cases tl with
  | nil=>cases h
  | cons b r =>
   have hb:b=58:=Option.some.inj h;subst hb;refine ⟨by simp,by rw [toList_mk'];rfl,by rw [zh];simp,rfl⟩
 have ht1l:(tl.drop 1).length≤n:=by rw [List.length_drop];omega
 obtain ⟨t1,ht1⟩:=KZ6 (tl.drop 1);have hd3:Hid (xr u (un a)=match yY nm with
  | none=>none
  | some h=>match vz t1 with
   | none=>none
   | some p=>some { V with host:=h,port:=if p=zv V.scheme then V.port else p }):=KZ9 (by rw [ht1];exact hd3.out)
 rw [←ht1] at ht1l htp;have HTP:=KZ9 htp;clear ht1;have hport:=VN t1;have hnum:=fun W=>S5 (mk t1) W (by rw [zh];omega);simp only [zj] at hnum;obtain ⟨⟨p,pok⟩,hp⟩:∃ p,p=X1 t1:=⟨_,rfl⟩;rw [←hp] at hport;simp only [←hp] at hnum hport;have HNUM:=KZ9 hnum;have HPORT:=KZ9 hport;clear hbad hd2 hgood htp htr hpar hnum hport hp;rcases htest with ⟨ht1,ht2,hp0,ht3⟩ | ht1
 all_goals
  go_wp2_with fail
  all_goals try omega
  refine HPAR.out.mono ?_;rintro e w3 ⟨⟨h,c,rfl,hres⟩,hb3⟩;have hwh:ym h:=by
   rcases hres with ⟨_,h2⟩ | ⟨_,h2,_⟩
   ·exact YV h2
   rw [h2];exact vV
  have hs3:=hb3.size;have HI:=KZ9 (xI hwh.1);have HIL:=KZ9 (show (Tryz.prog.info? 60).map (·.size)=some (zc h).toArray.size from xI hwh.1);have HSZ:=KZ9 (show (zc zk).toArray.size=(zc h).toArray.size by rw [List.size_toArray,List.size_toArray,xR hwh.1];rfl);have HN3:=KZ9 (heap_alloc_new w3 (.cells (zc zk).toArray 60));have hne1:w.heap.size≠w3.heap.size:=by omega
  have hne2:w.heap.size+1≠w3.heap.size:=by omega
  have HB4:=KZ9 (((hB2.out.below (by omega) hb3).alloc (.cells (zc zk).toArray 60)).setRow_other hne1 (zc h).toArray);have HR4:=KZ9 (((hR2.out.below (by omega) hb3).alloc (.cells (zc zk).toArray 60)).setRow_other hne2 (zc h).toArray);have HY4:=KZ9 ((BlkL.new w3 60 (zc zk)).setRow (zc h));have HA4:=KZ9 (below_setRow ((hA2.out.trans (hb3.mono hA2.out.size)).alloc (by omega) (.cells (zc zk).toArray 60)) (show w.heap.size≤w3.heap.size by omega) (zc h).toArray);obtain ⟨W4,hW4⟩:=KZ6 ((w3.alloc (.cells (zc zk).toArray 60)).setRow w3.heap.size (zc h).toArray);rw [←hW4] at HB4 HR4 HY4 HA4;have hs4:W4.heap.size=w3.heap.size+1:=by rw [hW4];simp [World.setRow]
  have HW4:Hid ((w3.alloc (.cells #[.int .i64 0,.string ⟨#[]⟩,.int .u32 0,.int .u16 0,.int .u16 0,.int .u16 0,.int .u16 0,.int .u16 0,.int .u16 0,.int .u16 0,.int .u16 0] 60)).setRow w3.heap.size (zc h).toArray=W4):=KZ9 hW4.symm;clear hb3 HPAR hB2 hR2 hA2 hW4;rcases hres with ⟨rfl,hok⟩ | ⟨hc,hh0,hno⟩
  ·have hd4:=hd3.out;rw [hok] at hd4;have HD4:Hid (xr u (un a)=match vz t1 with
    | none=>none
    | some p=>some { V with host:=h,port:=if p=zv V.scheme then V.port else p }):=KZ9 hd4
   clear hd4 hok hd3;go_wp2_with (first
    | refine wpList_store_row rfl 60 (.tmp 11) (.tmp 64) rfl w3.heap.size (zc h).toArray rfl rfl 60 _ HN3.out HI.out HSZ.out (ze (yL h)) ?_)
   all_goals try omega
   rw [HW4.out];clear HW4 HN3;refine (HTP.out _).mono ?_;rintro e w5 ⟨rfl,rfl⟩;go_wp2_with fail
   all_goals try omega
   refine (HNUM.out _).mono ?_;rintro e w5 ⟨rfl,rfl⟩;cases pok
   ·have hfin:xr u (un a)=none:=by rw [HD4.out,HPORT.out];rfl
    have HFIN:=KZ9 hfin;clear hfin HD4 HPORT HTP HNUM;go_wp2_with (first
     | refine wpList_store_row rfl 62 (.tmp 4) (.tmp 78) rfl (w.heap.size+1) (za zu).toArray rfl rfl 62 _ HR4.out zN rfl (ze (yk zu)) ?_)
    all_goals try omega
    refine bodyPost_ret (zf rfl _ _ (w.heap.size+1) 62 _ _ rfl (HR4.out.setRow (za zu)) Tryz.underlying62 rfl zN) rfl ?_;exact ⟨⟨zu,16,rfl,.inr ⟨by decide,rfl,HFIN.out⟩⟩,below_setRow HA4.out (by omega) _⟩
   have hfin:xr u (un a)=some { V with host:=h,port:=if p=zv V.scheme then V.port else p }:=by rw [HD4.out,HPORT.out];rfl
   have HFIN:=KZ9 hfin;have hdp:=fun W=>rq (mk V.scheme) W;simp only [zj] at hdp;obtain ⟨D,hD⟩:=KZ6 (zv V.scheme);simp only [←hD] at hdp;have HDP:=KZ9 hdp;have HD:=KZ9 hD;have h11:(zc h).length=11:=xR hwh.1;have HTH:=KZ9 (HB4.out.there 2 (zc h).toArray.size (by rw [List.size_toArray,h11,xo hVw.1];omega));have hB5:=BlkL.putCells (zc h) 2 W4 _ HB4.out (by rw [h11,xo hVw.1];omega);have e5:(za V).take 2++(zc h++(za V).drop (2+(zc h).length))=za { V with host:=h }:=by
    rw [h11];have:(za V).drop (2+11)=[.int .i64 V.port,.string (mk V.rest)]:=by
     have e6:za V=([.string (mk V.scheme),.string (mk V.user)]++zc V.host)++[.int .i64 V.port,.string (mk V.rest)]:=by simp [za]
     rw [e6,List.drop_left' (by simp [xR hVw.1])]
    rw [this];rfl
   rw [e5] at hB5;have hR5:=BlkL.putCells_other (k:=w.heap.size) (by omega) (zc h) 2 W4 HR4.out;have HA5:=KZ9 (uQ (Nat.le_refl w.heap.size) (zc h) 2 W4 HA4.out);have c5:=hB5.c 0 _ rfl;obtain ⟨W5,hW5⟩:=KZ6 (W4.setCells w.heap.size 2 (zc h));have HW5:=KZ9 hW5.symm;rw [←hW5] at hB5 hR5 HA5;have HIU:=KZ9 (zV (u:={ V with host:=h }) hwh.1);have HSU:=KZ9 (show (za zu).toArray.size=(za { V with host:=h }).toArray.size by rw [List.size_toArray,List.size_toArray,xo (u:={ V with host:=h }) hwh.1];rfl);have HIU2:=KZ9 (zV (u:={ V with host:=h,port:=p }) hwh.1);have HSU2:=KZ9 (show (za zu).toArray.size=(za { V with host:=h,port:=p }).toArray.size by rw [List.size_toArray,List.size_toArray,xo (u:={ V with host:=h,port:=p }) hwh.1];rfl);clear hW5;have HB5:=KZ9 hB5;have HR5:=KZ9 hR5;clear hfin HD4 HPORT HTP HNUM hB5 hR5 e5 hdp hD
   go_wp2_with (first
    | refine wpList_load_row rfl 60 (.tmp 11) rfl w3.heap.size rfl 60 _ _ _ HY4.out Tryz.underlying60 rfl HI.out ?_
    | refine wpList_store_mid rfl 60 (.tmp 80) (.tmp 79) rfl w.heap.size 2 (zc h).toArray rfl rfl HTH.out HI.out (ze (yL h)) ?_)
   all_goals try omega
   rw [HW5.out];refine (HDP.out _).mono ?_;rintro e w6 ⟨rfl,rfl⟩;by_cases hpp:p=D
   ·have g5:(p != D)=false:=by simpa using hpp
    have hf2:=HFIN.out;rw [if_pos (hpp.trans HD.out)] at hf2;have HF2:Hid (xr u (un a)=some { V with host:=h }):=KZ9 hf2;clear hf2 HFIN hpp HW5;go_wp2_with (first
     | refine wpList_load_row rfl 62 (.tmp 2) rfl w.heap.size rfl 62 _ _ _ HB5.out Tryz.underlying62 rfl HIU.out ?_
     | refine wpList_store_row rfl 62 (.tmp 4) (.tmp 88) rfl (w.heap.size+1) (za { V with host:=h }).toArray rfl rfl 62 _ HR5.out HIU.out HSU.out (ze (yk _)) ?_)
    all_goals try omega
    refine bodyPost_ret (zf rfl _ _ (w.heap.size+1) 62 _ _ rfl (HR5.out.setRow (za { V with host:=h })) Tryz.underlying62 rfl HIU.out) rfl ?_;exact ⟨⟨_,0,rfl,.inl ⟨rfl,HF2.out⟩⟩,below_setRow HA5.out (by omega) _⟩
   have g5:(p != D)=true:=by simpa using hpp
   have hf2:=HFIN.out;rw [if_neg (fun e=>hpp (e.trans HD.out.symm))] at hf2;have HF2:Hid (xr u (un a)=some { V with host:=h,port:=p }):=KZ9 hf2;have f5:=HB5.out.f 13;have d5:W5.cell? ⟨w.heap.size,13,none⟩=some (.int .i64 V.port):=HB5.out.c 13 _ (by
    have e6:za { V with host:=h }=([.string (mk V.scheme),.string (mk V.user)]++zc h)++[.int .i64 V.port,.string (mk V.rest)]:=by simp [za]
    rw [e6,List.getElem?_append_right (by simp [h11])];simp [h11])
   have hB6:=HB5.out.set 13 (by rw [xo (u:={ V with host:=h }) hwh.1];omega) (.int .i64 p);have e7:(za { V with host:=h }).set 13 (.int .i64 p)=za { V with host:=h,port:=p }:=by
    have e6:za { V with host:=h }=([.string (mk V.scheme),.string (mk V.user)]++zc h)++[.int .i64 V.port,.string (mk V.rest)]:=by simp [za]
    rw [e6,List.set_append_right _ _ (by simp [h11])];simp [h11,za]
   rw [e7] at hB6;have HB6:=KZ9 hB6;have HR6:=KZ9 (HR5.out.other (p:=w.heap.size) (by omega) 13 (.int .i64 p));have HA6:=KZ9 (HA5.out.trans (yV W5 w.heap.size 13 (.int .i64 p) (Nat.le_refl _)));clear hf2 HFIN hpp HW5 hB6 e7;go_wp2_with (first
    | refine wpList_load_row rfl 62 (.tmp 2) rfl w.heap.size rfl 62 _ _ _ HB6.out Tryz.underlying62 rfl HIU2.out ?_
    | refine wpList_store_row rfl 62 (.tmp 4) (.tmp 88) rfl (w.heap.size+1) (za { V with host:=h,port:=p }).toArray rfl rfl 62 _ HR6.out HIU2.out HSU2.out (ze (yk _)) ?_)
   all_goals try omega
   refine bodyPost_ret (zf rfl _ _ (w.heap.size+1) 62 _ _ rfl (HR6.out.setRow (za { V with host:=h,port:=p })) Tryz.underlying62 rfl HIU2.out) rfl ?_;exact ⟨⟨_,0,rfl,.inl ⟨rfl,HF2.out⟩⟩,below_setRow HA6.out (by omega) _⟩
  have hd4:=hd3.out;rw [hno] at hd4;have HFIN:Hid (xr u (un a)=none):=KZ9 hd4;have g4:(c != 0)=true:=by simpa using hc
  have HC:=KZ9 hc;clear hd4 hno hd3 hc HTP HNUM HPORT hh0;go_upto_if 67 with (first
   | refine wpList_store_row rfl 60 (.tmp 11) (.tmp 64) rfl w3.heap.size (zc h).toArray rfl rfl 60 _ HN3.out HI.out HSZ.out (ze (yL h)) ?_)
  all_goals try omega
  rw [HW4.out];clear HW4 HN3;go_wp2_with (first
   | refine wpList_store_row rfl 62 (.tmp 4) (.tmp 68) rfl (w.heap.size+1) (za zu).toArray rfl rfl 62 _ HR4.out zN rfl (ze (yk zu)) ?_)
  all_goals try omega
  refine bodyPost_ret (zf rfl _ _ (w.heap.size+1) 62 _ _ rfl (HR4.out.setRow (za zu)) Tryz.underlying62 rfl zN) rfl ?_;exact ⟨⟨zu,c,rfl,.inr ⟨HC.out,rfl,HFIN.out⟩⟩,below_setRow HA4.out (by omega) _⟩
end Go.Proofs.YtjbciamhhfcdoaaGreatDoor
namespace Hs
open Go
theorem St {cs l:Bs} {k:Nat} (h:k<l.length) (hc:cs.contains l[k]=false) (h2:wD cs l=k+wD cs (l.drop k)):wD cs l=(k+1)+wD cs (l.drop (k+1)):=by
 rw [h2,List.drop_eq_getElem_cons h,wD,hc];simp;omega
theorem RX {cs l:Bs} {k:Nat} (h:k<l.length) (hc:cs.contains l[k]=true) (h2:wD cs l=k+wD cs (l.drop k)):wD cs l=k:=by
 rw [h2,List.drop_eq_getElem_cons h,wD,hc];simp
end Hs
namespace Go.Proofs.YtjbciamhhfcdoaaGreatDoor
open Go.RowKit Hs
set_option maxRecDepth 20000
set_option maxHeartbeats 4000000
theorem Zu (s t:ByteArray) (w:World) (hs:s.size≤100000000) (ht:t.size≤1000):Calls Tryz.prog 93 #[.string s,.string t] w fun e w'=>e= .returned (.int .i64 (wD (un t) (un s):Nat))∧Below w.heap.size w w':=by
 have hlen:(un s).length=s.size:=zb s;have hlet:(un t).length=t.size:=zb t;obtain ⟨l,hl⟩:=KZ6 (un s);obtain ⟨cs,hcs⟩:=KZ6 (un t);rw [←hl] at hlen ⊢;rw [←hcs] at hlet ⊢;obtain ⟨R,hR⟩:=KZ6 (wD cs l);rw [←hR];have HR:=KZ9 hR;have HL:=KZ9 hl;have HCS:=KZ9 hcs;have HLEN:=KZ9 hlen;have HLET:=KZ9 hlet;clear hl hcs hlen hlet hR;go_enter Tryz.func93,Tryz.ntmps93
 go_wp2;go_loopw [5] (fun iv wr=>∃ k:Nat,iv= .int .i64 k∧k≤s.size∧Below w.heap.size w wr∧Hid (R=k+wD cs (l.drop k))) (fun iv _=>s.size - (intOf iv).toNat)
 case atStart=>exact ⟨0,rfl,by omega,Below.refl _ _,KZ9 (by rw [HR.out,List.drop_zero];omega)⟩
 case round =>
  obtain ⟨k,rfl,hk,hnx,hst⟩:=hrel;by_cases hlt:k<s.size
  ·have hkl:k<l.length:=by rw [HLEN.out];exact hlt
   have hx:l[k]=s[k]:=by
    have:=HL.out;subst this;exact zL s k hlt
   have hyes:Hid (cs.contains s[k]=true→R=k):=KZ9 fun h=>by
    have h2:=hst.out;rw [HR.out] at h2 ⊢;exact RX hkl (by rw [hx];exact h) h2
   have hnot:Hid (cs.contains s[k]=false→R=(k+1)+wD cs (l.drop (k+1))):=KZ9 fun h=>by
    have h2:=hst.out;rw [HR.out] at h2 ⊢;exact St hkl (by rw [hx];exact h) h2
   clear hst hx;go_wp2;go_loopw [6] (fun jv wq=>∃ j:Nat,jv= .int .i64 j∧j≤t.size∧Below w.heap.size w wq∧Hid (cs.contains s[k]=(cs.drop j).contains s[k])) (fun jv _=>t.size - (intOf jv).toNat)
   case atStart=>exact ⟨0,rfl,by omega,hnx,KZ9 (by rw [List.drop_zero])⟩
   case round =>
    obtain ⟨j,rfl,hj,hnq,hct⟩:=hrel;by_cases hjt:j<t.size
    ·have hjl:j<cs.length:=by rw [HLET.out];exact hjt
     have hy:cs[j]=t[j]:=by
      have:=HCS.out;subst this;exact zL t j hjt
     have hct2:=hct.out;rw [List.drop_eq_getElem_cons hjl,hy,List.contains_cons] at hct2;have g1:decide ((j:Int)<(t.size:Int))=true:=KZ7 (by omega);have g0:decide ((k:Int)<(s.size:Int))=true:=KZ7 (by omega);by_cases hq:s[k]=t[j]
     ·have g2:((s[k].toNat:Int)==(t[j].toNat:Int))=true:=by rw [hq];simp
      have hfin:=hyes.out (by rw [hct2,hq];simp);have HF:=KZ9 hfin;clear hct hct2 hy hq hfin hyes hnot;go_upto_region 1 with fail
      all_goals try omega
      go_region_with (fail)
      all_goals
       go_wp2
       all_goals try omega
       (try simp +zetaDelta only [Exit.noGoto,Exit.then,Exit.inBlock])
       go_ret;exact ⟨by rw [HF.out];rfl,below_drewN hnq 1⟩
     have g2:((s[k].toNat:Int)==(t[j].toNat:Int))=false:=by
      simp;intro e;exact hq (UInt8.toNat_inj.1 (by omega))
     have hne:(s[k]==t[j])=false:=by simpa using hq
     have hct3:=KZ9 (show cs.contains s[k]=(cs.drop (j+1)).contains s[k] by rw [hct2,hne,Bool.false_or]);clear hct hct2 hy hq hne;go_upto_region 1 with fail
     all_goals try omega
     go_region_with (fail)
     all_goals
      go_wp2
      all_goals try omega
      go_roundw
      case rel=>exact ⟨j+1,by go_num,by omega,below_drewN hnq 1,hct3⟩
      case measure=>simp [intOf];omega
    have hfin:=KZ9 (hnot.out (by rw [hct.out,List.drop_of_length_le (by rw [HLET.out];omega)];rfl));have g1:decide ((j:Int)<(t.size:Int))=false:=KZ8 (by omega);clear hct hyes hnot;go_wp2
    all_goals try omega
    go_roundw
    case rel=>exact ⟨k+1,by go_num,by omega,hnq,hfin⟩
    case measure=>simp [intOf];omega
  have hkn:k=s.size:=by omega
  have hfin:Hid (R=s.size):=KZ9 (by
   rw [hst.out,List.drop_of_length_le (by rw [HLEN.out];omega),wD];omega)
  have g0:decide ((k:Int)<(s.size:Int))=false:=KZ8 (by omega);clear hst;go_wp2
  all_goals try omega
  go_ret;exact ⟨by rw [hfin.out];rfl,hnx⟩
end Go.Proofs.YtjbciamhhfcdoaaGreatDoor
namespace Hs
open Go
def r8 (l:Bs):Bs × Bs × Bool:=match scn l 0 with
 | none=>([],[],false)
 | some k=>(zt (l.take k),l.drop (k+1),true)
theorem ru {l:Bs} (h:scn l 0=none):r8 l=([],[],false):=by unfold r8;rw [h]
theorem Zm {l:Bs} {k:Nat} (h:scn l 0=some k):r8 l=(zt (l.take k),l.drop (k+1),true):=by unfold r8;rw [h]
theorem Vy {b:UInt8} (h:wI b=true):(97≤b.toNat∧b.toNat≤122)∨(65≤b.toNat∧b.toNat≤90)∨(48≤b.toNat∧b.toNat≤57)∨b.toNat=43∨b.toNat=45∨b.toNat=46:=by
 unfold wI zY sk wi at h;rw [Bool.or_eq_true] at h;rcases h with h | h
 ·simp at h;omega
 simp only [decide_eq_true_eq,List.mem_cons,List.not_mem_nil,or_false] at h;rcases h with rfl | rfl | rfl | rfl | rfl | rfl | rfl | rfl | rfl | rfl | rfl | rfl | rfl<;>decide
theorem Rf {b:UInt8} (h:wI b=false):¬ ((97≤b.toNat∧b.toNat≤122)∨(65≤b.toNat∧b.toNat≤90)∨(48≤b.toNat∧b.toNat≤57)∨b.toNat=43∨b.toNat=45∨b.toNat=46):=by
 unfold wI zY sk wi at h;simp only [List.mem_cons,List.not_mem_nil,or_false,←UInt8.toNat_inj] at h;simp at h;omega
theorem Ua {b:UInt8} (h:zY b=false):¬ ((97≤b.toNat∧b.toNat≤122)∨(65≤b.toNat∧b.toNat≤90)):=by
 unfold zY sk wi at h;simp at h;omega
theorem YQ {b:UInt8} (h:zY b=true):(97≤b.toNat∧b.toNat≤122)∨(65≤b.toNat∧b.toNat≤90):=by
 unfold zY sk wi at h;simp at h;omega
end Hs
namespace Go.Proofs.YtjbciamhhfcdoaaGreatDoor
open Go.RowKit Hs
set_option maxRecDepth 20000
set_option maxHeartbeats 4000000
theorem VC (s:ByteArray) (w:World) (hs:s.size≤100000000):Calls Tryz.prog 91 #[.string s] w fun e w'=>e= .returned (.tuple #[.string (mk (r8 (un s)).1),.string (mk (r8 (un s)).2.1),.bool (r8 (un s)).2.2])∧Below w.heap.size w w':=by
 have hlen:(un s).length=s.size:=zb s;have hx1:=fun k=>uf s k;have hx2:=fun k=>wN s k;have hlw:=fun k W=>ja (s.extract 0 k) W (by rw [ByteArray.size_extract];omega);obtain ⟨l,hl⟩:=KZ6 (un s);rw [←hl] at hlen ⊢;simp only [←hl] at hx1 hx2;obtain ⟨R,hR⟩:=KZ6 (r8 l);rw [←hR];have HR:=KZ9 hR;have HL:=KZ9 hl;have HLEN:=KZ9 hlen;have HX1:=KZ9 hx1;have HX2:=KZ9 hx2;have HLW:=KZ9 hlw;clear hl hlen hR hx1 hx2 hlw;go_enter Tryz.func91,Tryz.ntmps91
 go_wp2;go_loop [5] (fun iv=>∃ k:Nat,iv= .int .i64 k∧k≤s.size∧Hid (scn l 0=scn (l.drop k) k)) (fun iv=>s.size - (intOf iv).toNat)
 case atStart=>exact ⟨0,rfl,by omega,KZ9 (by rw [List.drop_zero])⟩
 case round =>
  obtain ⟨k,rfl,hk,hst⟩:=hrel;by_cases hlt:k<s.size
  ·have hkl:k<l.length:=by rw [HLEN.out];exact hlt
   have hx:l[k]=s[k]:=by
    have:=HL.out;subst this;exact zL s k hlt
   have hst2:=hst.out;rw [List.drop_eq_getElem_cons hkl,hx,scn] at hst2;have hb256:=(s[k]).toNat_lt;have g0:decide ((k:Int)<(s.size:Int))=true:=KZ7 (by omega);have h58:s[k]=58↔(s[k]).toNat=58:=⟨fun h=>by rw [h];rfl,fun h=>UInt8.toNat_inj.1 h⟩;have hlc:=@YQ s[k];have hln:=@Ua s[k];have hsc:=@Vy s[k];have hsn:=@Rf s[k];obtain ⟨LT,hLT⟩:=KZ6 (zY s[k]);obtain ⟨SB,hSB⟩:=KZ6 (wI s[k]);rw [←hLT] at hst2 hlc hln;rw [←hSB] at hst2 hsc hsn;simp only [h58] at hst2;obtain ⟨x,hx2⟩:=KZ6 ((s[k]).toNat);have cs:(s[k].toNat:Int)=(x:Int):=by rw [hx2]
   rw [←hx2] at hst2 hb256 hlc hln hsc hsn;clear hst hx hx2 h58 hLT hSB;by_cases h0:x=58∧0<k
   ·rw [if_pos h0] at hst2;have hfin:=HR.out.trans (Zm hst2);have HF:=KZ9 hfin;obtain ⟨hx58,hk0⟩:=h0;have hlow:Hid (∀ W:World,Calls Tryz.prog 153 #[.string (s.extract 0 k)] W fun e w'=>e= .returned (.string (mk (zt (l.take k))))∧Below W.heap.size W w'):=KZ9 fun W=>by
     have h:=HLW.out k W;rw [HX1.out k,zj] at h;rw [HX1.out k];exact h
    have HX3:=KZ9 (HX2.out (k+1));have g1:((x:Int)==58)=true:=by simp;omega
    have g2:decide ((0:Int)<(k:Int))=true:=KZ7 (by omega);clear hfin hst2 hlc hln hsc hsn HR HX1 HX2 HLW;go_upto_region 6 with fail
    all_goals try omega
    refine zM w (by kernel_rfl) (by kernel_rfl) (Below.refl _ _) ?_;repeat (go_big_quiet_step (first | (go_at_call 153;exact Calls.later (hlow.out _))))
    refine wpQuiet_nil ?_;intro _ hw';obtain ⟨⟨w5,hb5⟩,rfl⟩:=hw';go_wp2_with fail
    go_ret3
    rw [HF.out];exact ⟨by rw [←HX3.out];rfl,hb5⟩
   rw [if_neg h0] at hst2;have g1:((x:Int)==58&&decide ((0:Int)<(k:Int)))=false:=by simp;omega
   by_cases h1:LT=true∨(0<k∧SB=true)
   ·rw [if_pos h1] at hst2;have HST:=KZ9 hst2;have hcases:((97≤x∧x≤122)∨(65≤x∧x≤90))∨(0<k∧((48≤x∧x≤57)∨x=43∨x=45∨x=46)):=by
     rcases h1 with h | ⟨h2,h⟩
     ·exact .inl (hlc h)
     have:=hsc h;omega
    clear hst2 hlc hln hsc hsn h1 HR HX1 HX2 HLW;rcases hcases with (h | h) | ⟨hk0,h | h | h | h⟩
    all_goals
     go_wp2
     all_goals try omega
     all_goals
      go_round
      case rel=>exact ⟨k+1,by go_num,by omega,HST⟩
      case measure=>simp [intOf];omega
   rw [if_neg h1] at hst2;have hfin:=HR.out.trans (ru hst2);have HF:=KZ9 hfin;have hl2:LT=false:=by cases LT with
    | true=>exact absurd (.inl rfl) h1
    | false=>rfl
   have hcases:¬ ((97≤x∧x≤122)∨(65≤x∧x≤90))∧(k=0∨¬ ((48≤x∧x≤57)∨x=43∨x=45∨x=46)):=by
    refine ⟨hln hl2,?_⟩;rcases Nat.eq_zero_or_pos k with h | h
    ·exact .inl h
    right;have:SB=false:=by cases SB with
     | true=>exact absurd (.inr ⟨h,rfl⟩) h1
     | false=>rfl
    have:=hsn this;omega
   clear hst2 hlc hln hsc hsn h1 hl2 HR HX1 HX2 HLW hfin;obtain ⟨hc1,hc2⟩:=hcases;go_wp2
   all_goals try omega
   all_goals
    go_ret3
    rw [HF.out];exact ⟨rfl,Below.refl _ _⟩
  have hfin:Hid (R=([],[],false)):=KZ9 (HR.out.trans (ru (by rw [hst.out,List.drop_of_length_le (by rw [HLEN.out];omega)];rfl)));have g0:decide ((k:Int)<(s.size:Int))=false:=KZ8 (by omega);clear hst;go_wp2
  all_goals try omega
  go_ret3
  rw [hfin.out];exact ⟨rfl,Below.refl _ _⟩
theorem pz {ops:Array Oper} {o:Oper} {a:Act} {w:World} {K:Act→World→Prop} {Q:Exit→Act→World→Prop} {E:Prop} (hgd:o.guard=none) (s x:Operand)
  (ho:o.op= .call { callee:= .builtin .append,args:=#[s,x],argTypes:=#[32,32] })
  (base:Nat) (v:Value) (n:Nat) (xs:List Value) (hs:a.eval s=v) (hown:w.ownsRow base 5 1 v n xs) (g:Nat) (hx:a.eval x= .slice (some ⟨g,0,none⟩) 1 1) (z:Int) (hc:w.cell? ⟨g,0,none⟩=some (.int .u8 z)) (h1:n≤1000000) (hb:base≤w.heap.size)
  (h:∀ v' w',w'.ownsRow base 5 1 v' (n+1) (xs++[.int .u8 z])→w.grownBy w' v.ownBlock→K (a.put o.dst v') w'):if Region.wanted o (yielded ops a.tmps)=true then Oper.wp Tryz.prog o a w K Q else E:=by
 obtain ⟨iB0,iB⟩:=info_parts vp;have hw:Region.wanted o (yielded ops a.tmps)=true:=by simp [Region.wanted,hgd]
 rw [if_pos hw];have hnews:∀ j u,[Value.int .u8 z][j]? =some u→w.cell? ((⟨g,0,none⟩:Addr).add j)=some u:=by
  intro j u hj
  match j,hj with
  | 0,hj=>simp at hj;subst hj;simpa [Addr.add] using hc
  | j+1,hj=>simp at hj
 obtain ⟨v',w',hrun,h2,h3,_⟩:=run_append_own (P:=Tryz.prog) w base 32 o.type 5 iB0 (.int .u8 0) 1 1 Tryz.underlying32 iB.1 iB.2.1 iB.2.2.1 iB.2.2.2 rfl (by decide) v n xs hown ⟨g,0,none⟩ 1 1 [.int .u8 z] (by simp) hnews (by intro u hu;simp at hu;subst hu;rfl) (by unfold maxLen;omega) (by omega) hb;unfold Oper.wp execOp;simp only [ho,resolve,invoke,builtin,Sem.run_bind,Sem.run_pure,Result.andThen_ok,List.map_toArray,List.map_cons,List.map_nil,hs,hx,hrun];exact h v' w' h2 h3
def Jz (l:Bs) (w:World) (e:Ending) (w':World):Prop:=(∃ t ok,e= .returned (.tuple #[.string t,.bool ok])∧((ok=true∧pctV l=some (un t))∨(ok=false∧t=⟨#[]⟩∧pctV l=none)))∧Below w.heap.size w w'
theorem VH (s:ByteArray) (w:World) (hs:s.size≤100000):Calls Tryz.prog 155 #[.string s] w (Jz (un s) w):=by
 obtain ⟨iB0,iB⟩:=info_parts vp;have hlen:(un s).length=s.size:=zb s;obtain ⟨l,hl⟩:=KZ6 (un s);have hst0:pctV l=sG [] (l.drop 0):=by rw [List.drop_zero];unfold sG;cases pctV l<;>simp
 rw [←hl] at hlen ⊢;have HL:=KZ9 hl;have HST0:=KZ9 hst0;obtain ⟨n,hn⟩:=KZ6 s.size;rw [←hn] at hs;have hsn:(s.size:Int)=(n:Int):=by rw [hn]
 have HLEN:=KZ9 (hlen.trans hn.symm);have HN:=KZ9 hn;clear hl hst0 hlen hn;go_enter Tryz.func155,Tryz.ntmps155
 go_wp2
 all_goals try omega
 go_loopw [4,5] (fun ov iv wr=>∃ (k:Nat) (o:Bs),iv= .int .i64 k∧k≤n∧o.length≤k∧wr.ownsRow w.heap.size 5 1 ov o.length (yb o)∧Hid (pctV l=sG o (l.drop k))∧Below w.heap.size w wr) (fun _ iv _=>n - (intOf iv).toNat)
 case atStart=>exact ⟨0,[],rfl,by omega,by simp,World.ownsRow_nil _ _ _ _,HST0,Below.refl _ _⟩
 case round =>
  obtain ⟨k,o,rfl,hk,hol,hown,hst,hnx⟩:=hrel;have hown0:=hown;have hsize:=hnx.size;by_cases hlt:k<n
  ·have hks:k<s.size:=by rw [←HN.out];exact hlt
   have hkl:k<l.length:=by rw [HLEN.out];exact hlt
   have hx:l[k]=s[k]:=by
    have:=HL.out;subst this;exact zL s k hks
   have hdr:l.drop k=s[k]::l.drop (k+1):=by rw [←hx];exact List.drop_eq_getElem_cons hkl
   have hst2:=hst.out;rw [hdr] at hst2;by_cases hp:s[k]=37
   ·have cs:(s[k].toNat:Int)=37:=by rw [hp];rfl
    have g1:((s[k].toNat:Int) != 37)=false:=by simp [cs]
    rw [hp] at hst2;by_cases h2:k+2<n
    ·have hk1:k+1<s.size:=by rw [←HN.out];omega
     have hk2:k+2<s.size:=by rw [←HN.out];omega
     have hx1:l[k+1]'(by rw [HLEN.out];omega)=s[k+1]:=by
      have:=HL.out;subst this;exact zL s (k+1) hk1
     have hx2:l[k+2]'(by rw [HLEN.out];omega)=s[k+2]:=by
      have:=HL.out;subst this;exact zL s (k+2) hk2
     have hdr2:l.drop (k+1)=s[k+1]::s[k+2]::l.drop (k+3):=by
      rw [List.drop_eq_getElem_cons (by rw [HLEN.out];omega),hx1,List.drop_eq_getElem_cons (by rw [HLEN.out];omega),hx2]
     rw [hdr2] at hst2;have hI1:(0:Int)≤(k:Int)+1:=by omega
     have hI2:(k:Int)+1<(n:Int):=by omega
     have hI3:(0:Int)≤(k:Int)+2:=by omega
     have hI4:(k:Int)+2<(n:Int):=by omega
     have g2:decide ((n:Int) - (k:Int)<3)=false:=KZ8 (by omega);have hb1:=sm s[k+1];have hb2:=sm s[k+2];have hd1:=fun W=>Yy s[k+1] W;have hd2:=fun W=>Yy s[k+2] W;by_cases hbad:hxI s[k+1]<0∨hxI s[k+2]<0
     ·have hfin:=KZ9 (hst2.trans (ry (kB hbad)));obtain ⟨a,ha⟩:=KZ6 (hxI s[k+1]);obtain ⟨b,hb⟩:=KZ6 (hxI s[k+2]);simp only [←ha] at hb1 hd1 hbad;simp only [←hb] at hb2 hd2 hbad;have HD1:=KZ9 hd1;have HD2:=KZ9 hd2;clear hst hst2 hdr hdr2 hx hx1 hx2 ha hb hd1 hd2 hp hown hown0;by_cases ha0:a<0
      ·have g3:decide (a<0)=true:=KZ7 ha0;go_wp2_with fail
       all_goals try omega
       refine (HD1.out _).mono ?_;rintro e w1 ⟨rfl,rfl⟩;go_wp2
       all_goals try omega
       go_ret2;exact ⟨⟨_,_,rfl,.inr ⟨rfl,rfl,hfin.out⟩⟩,hnx⟩
      have g3:decide (a<0)=false:=KZ8 ha0;have g4:decide (b<0)=true:=KZ7 (by omega);go_wp2_with fail
      all_goals try omega
      refine (HD1.out _).mono ?_;rintro e w1 ⟨rfl,rfl⟩;go_wp2_with fail
      all_goals try omega
      refine (HD2.out _).mono ?_;rintro e w1 ⟨rfl,rfl⟩;go_wp2
      all_goals try omega
      go_ret2;exact ⟨⟨_,_,rfl,.inr ⟨rfl,rfl,hfin.out⟩⟩,hnx⟩
     have hst3:=KZ9 (hst2.trans (XN (fun e=>hbad (.inl e)) (fun e=>hbad (.inr e))));obtain ⟨a,ha⟩:=KZ6 (hxI s[k+1]);obtain ⟨b,hb⟩:=KZ6 (hxI s[k+2]);simp only [←ha] at hb1 hd1 hbad hst3;simp only [←hb] at hb2 hd2 hbad hst3;have ha0:0≤a∧a<16:=⟨by omega,hb1.2⟩;have hb0:0≤b∧b<16:=⟨by omega,hb2.2⟩;have g3:decide (a<0)=false:=KZ8 (by omega);have g4:decide (b<0)=false:=KZ8 (by omega);have hval:((UInt8.ofNat (16*a+b).toNat).toNat:Int)=16*a+b:=by
      rw [UInt8.toNat_ofNat'];omega
     obtain ⟨c,hc⟩:=KZ6 (UInt8.ofNat (16*a+b).toNat);rw [←hc] at hval;have hst4:Hid (pctV l=sG (o++[c]) (List.drop (k+3) l)):=by rw [hc];exact hst3
     have HD1:=KZ9 hd1;have HD2:=KZ9 hd2;have HD:=KZ9 (fun (x:UInt8) (W:World)=>Yy x W);have ha':=ha.symm;have hb':=hb.symm;have HOWN:=KZ9 hown;have HVAL:=KZ9 hval;have hw1:IntKind.i64.wrap ((k:Int)+1)=(k:Int)+1:=by rw [IntKind.wrap_i64];omega
     have hw2:IntKind.i64.wrap ((k:Int)+2)=(k:Int)+2:=by rw [IntKind.wrap_i64];omega
     have hw3:IntKind.i64.wrap (16*a)=16*a:=by rw [IntKind.wrap_i64];omega
     have hw4:IntKind.i64.wrap (16*a+b)=16*a+b:=by rw [IntKind.wrap_i64];omega
     have hw5:IntKind.u8.wrap (16*a+b)=((c.toNat:Nat):Int):=by rw [IntKind.wrap_u8,hval];omega
     have hn1:((k:Int)+1).toNat=k+1:=by omega
     have hn2:((k:Int)+2).toNat=k+2:=by omega
     clear hst hst2 hdr hdr2 hx hx1 hx2 ha hb hd1 hd2 hp hst3 hc hbad;go_wp2_with fail
     all_goals try omega
     refine (HD1.out _).mono ?_;rintro e w1 ⟨rfl,rfl⟩;go_wp2_with fail
     all_goals try omega
     refine (HD2.out _).mono ?_;rintro e w1 ⟨rfl,rfl⟩;go_wp2_with fail
     all_goals try omega
     go_region_law (first | (refine pz (by rfl) _ _ (by rfl) w.heap.size u4 _ _ (by rfl) (by first | exact HOWN.out.drew.alloc _ | exact (HOWN.out.alloc _).drew) _ (by rfl) (16*a+b) (by simp) (by omega) (by simp;omega) ?_;intro vA wA hA gA) | (go_simp;go_at_call 200;refine (HD.out _ _).mono ?_;rintro e w1 ⟨rfl,rfl⟩))
     all_goals
      have hown3:wA.ownsRow w.heap.size 5 1 vA (o++[c]).length (yb (o++[c])):=by
       rw [zU,List.length_append,show yb [c]=[.int .u8 (16*a+b)] by show [Value.int .u8 (c.toNat:Int)]=_;rw [HVAL.out]];exact hA
      have hbl3:Below w.heap.size w wA:=((hnx.drew).alloc (by simp;omega) _).grown gA (by simp;omega) (fun j hj=>(HOWN.out.lt j hj).1);clear hA gA hw1 hw2 hw3 hw4 hw5;go_wp2
      all_goals try omega
      go_roundw
      case rel=>exact ⟨k+3,o++[c],by go_num,by omega,by simp;omega,hown3,hst4,hbl3⟩
      case measure=>simp [intOf];omega
    have hfin:=KZ9 (hst2.trans (ry (tX (by rw [List.length_drop,HLEN.out];omega))));have g2:decide ((n:Int) - (k:Int)<3)=true:=KZ7 (by omega);clear hst hst2 hdr hx;go_wp2_with fail
    all_goals try omega
    go_ret2;exact ⟨⟨_,_,rfl,.inr ⟨rfl,rfl,hfin.out⟩⟩,hnx⟩
   have hst3:=KZ9 (hst2.trans (kC hp));have g1:((s[k].toNat:Int) != 37)=true:=by
    simp;intro e;exact hp (UInt8.toNat_inj.1 (by show s[k].toNat=37;omega))
   clear hst hst2 hdr hx hp;go_wp2_with (at_builtin;refine wpList_append_own _ rfl (.tmp 16) (.tmp 20) 32 rfl (w.heap.size) 5 iB0 (.int .u8 0) 1 1 Tryz.underlying32 iB.1 iB.2.1 iB.2.2.1 iB.2.2.2 rfl (by decide) _ _ _ rfl (hown.alloc _) ⟨wr.heap.size,0,none⟩ 1 1 [_] rfl rfl (cell_one_new _ _ _) (by intro u hu;simp at hu;subst hu;rfl) (by unfold maxLen;omega) (by omega) (by simp;omega) ?_;intro v1 w2 hown1 hgrow2 hnil1)
   all_goals try omega
   go_roundw
   case rel =>
    refine ⟨k+1,o++[s[k]],by go_num,by omega,by simp;omega,?_,hst3,(hnx.alloc (by omega) _).grown hgrow2 (by simp;omega) (fun j hj=>(hown0.lt j hj).1)⟩;rw [zU,List.length_append];exact hown1
   case measure=>simp [intOf];omega
  have hfin:pctV l=some o:=by rw [hst.out,List.drop_of_length_le (by rw [HLEN.out];omega),XO]
  have HFIN:=KZ9 hfin;have hcv:=yI (P:=Tryz.prog) (Row.owned hown) (src:=32) (dst:=9) Tryz.underlying32 Tryz.underlying5 Tryz.underlying9;clear hst hfin;go_wp2
  all_goals try omega
  go_ret2;exact ⟨⟨_,_,rfl,.inl ⟨rfl,by rw [HFIN.out,zj]⟩⟩,hnx⟩
end Go.Proofs.YtjbciamhhfcdoaaGreatDoor
namespace Hs
open Go
def xi:Nat→Bs→Option Nat
 | v,[]=>some v
 | v,c::r=>if 128≤c.toNat∧c.toNat≤191 then xi (v*64+c.toNat - 128) r else none
def xC (b:Nat):Nat × Nat × Nat :=
 if b<128 then (1,b,0)
 else if 194≤b∧b<224 then (2,b - 192,128)
 else if 224≤b∧b<240 then (3,b - 224,2048)
 else if 240≤b∧b<245 then (4,b - 240,65536)
 else (0,0,0)
def xe (l:Bs):Option (Nat × Nat):=match l with
 | []=>none
 | b::r =>
  if (xC b.toNat).1=0 then none
  else if l.length<(xC b.toNat).1 then none
  else match xi (xC b.toNat).2.1 (r.take ((xC b.toNat).1 - 1)) with
   | none=>none
   | some v=>if v<(xC b.toNat).2.2∨xl v=false then none else some (v,(xC b.toNat).1)
theorem pX (v:Nat) (c:UInt8) (r:Bs):xi v (c::r)=if 128≤c.toNat∧c.toNat≤191 then xi (v*64+c.toNat - 128) r else none:=rfl
theorem pY (v:Nat):xi v []=some v:=rfl
theorem kw (v:Nat):(xl v=false)=¬ (v≤1114111∧(v<55296∨57343<v)):=by
 unfold xl;simp
theorem Zq {b:UInt8} (r:Bs) (h:b.toNat<128):xe (b::r)=some (b.toNat,1):=by
 have hl:xC b.toNat=(1,b.toNat,0):=by unfold xC;rw [if_pos h]
 unfold xe;simp only [hl];rw [if_neg (by decide),if_neg (by simp),Nat.sub_self,List.take_zero];simp only [xi,kw];rw [if_neg (by omega)]
theorem YH {a b k:Nat} (h:a=b):(a,k)=(b,k):=by rw [h]
set_option maxRecDepth 4000
theorem WN (n b0 b1 b2 b3:Nat) (h:194≤b0∧b0<224):Lib.decodeN n b0 b1 b2 b3=if 1<n∧128≤b1∧b1≤191 then ((b0 - 192)*64+b1 - 128,2) else (65533,1):=by
 unfold Lib.decodeN
 repeat' split
 all_goals first | (exfalso;omega) | exact YH (by omega)
theorem Zb (n b0 b1 b2 b3:Nat) (h:224≤b0∧b0<240):Lib.decodeN n b0 b1 b2 b3=if 2<n∧(128≤b1∧b1≤191)∧(128≤b2∧b2≤191)∧2048≤((b0 - 224)*64+b1 - 128)*64+b2 - 128∧¬ (55296≤((b0 - 224)*64+b1 - 128)*64+b2 - 128∧((b0 - 224)*64+b1 - 128)*64+b2 - 128≤57343) then (((b0 - 224)*64+b1 - 128)*64+b2 - 128,3) else (65533,1):=by
 unfold Lib.decodeN
 repeat' split
 all_goals first | (exfalso;omega) | exact YH (by omega)
theorem Xc (n b0 b1 b2 b3:Nat) (h:240≤b0∧b0<245):Lib.decodeN n b0 b1 b2 b3=if 3<n∧(128≤b1∧b1≤191)∧(128≤b2∧b2≤191)∧(128≤b3∧b3≤191)∧65536≤(((b0 - 240)*64+b1 - 128)*64+b2 - 128)*64+b3 - 128∧(((b0 - 240)*64+b1 - 128)*64+b2 - 128)*64+b3 - 128≤1114111 then ((((b0 - 240)*64+b1 - 128)*64+b2 - 128)*64+b3 - 128,4) else (65533,1):=by
 unfold Lib.decodeN
 repeat' split
 all_goals first | (exfalso;omega) | exact YH (by omega)
theorem Xb (n b0 b1 b2 b3:Nat) (h0:b0<256) (h:(128≤b0∧b0<194)∨245≤b0):Lib.decodeN n b0 b1 b2 b3=(65533,1):=Lib.decodeN_bad n b0 b1 b2 b3 (by omega)
theorem wh (x:Nat × Nat) (h:x=(65533,1)):(none:Option (Nat × Nat))=if x.1=65533∧x.2=1 then none else some x:=by rw [h];rfl
theorem Yr (x:Nat × Nat) (v k:Nat) (h:x=(v,k)) (hk:k≠1):some (v,k)=if x.1=65533∧x.2=1 then none else some x:=by rw [h,if_neg (by simp;omega)]
theorem ptN (V:Nat) (L:Nat) (h:L≤V) (h2:V≤1114111∧(V<55296∨57343<V)) (k:Nat):(if V<L∨xl V=false then none else some (V,k))=some (V,k) :=
 if_neg (by rw [kw];omega)
theorem ptX (V:Nat) (L:Nat) (h:V<L∨¬ (V≤1114111∧(V<55296∨57343<V))) (k:Nat):(if V<L∨xl V=false then none else some (V,k))=none :=
 if_pos (by rw [kw];exact h)
theorem Xv (b:UInt8) (r:Bs):xe (b::r)=if (Lib.decodeL (b::r)).1=65533∧(Lib.decodeL (b::r)).2=1 then none else some (Lib.decodeL (b::r)):=by
 by_cases h1:b.toNat<128
 ·rw [Zq r h1,Lib.decodeL_ascii b r h1,if_neg (by simp;omega)]
 rw [Lib.decodeL_N];have hb:=b.toNat_lt;rw [show ((b::r).getD 0 0).toNat=b.toNat from rfl];by_cases h2:194≤b.toNat∧b.toNat<224
 ·have hl:xC b.toNat=(2,b.toNat - 192,128):=by unfold xC;rw [if_neg h1,if_pos h2]
  rw [WN _ _ _ _ _ h2];unfold xe;simp only [hl];rw [if_neg (show ¬ (2=0) by decide)]
  match r with
  | []=>rw [if_pos (show ([b]:Bs).length<2 by simp)];exact wh _ (if_neg (by simp))
  | c1::r =>
   rw [if_neg (show ¬ ((b::c1::r).length<2) by simp)];simp only [List.length_cons,List.getD_cons_succ,List.getD_cons_zero,Nat.add_one_sub_one,List.take_succ_cons,List.take_zero,xi];by_cases hc:128≤c1.toNat∧c1.toNat≤191
   ·rw [if_pos hc];simp only [];rw [ptN _ _ (by omega) (by omega)];exact Yr _ _ _ (if_pos ⟨by omega,hc⟩) (by decide)
   rw [if_neg hc];exact wh _ (if_neg fun h=>hc h.2)
 by_cases h3:224≤b.toNat∧b.toNat<240
 ·have hl:xC b.toNat=(3,b.toNat - 224,2048):=by unfold xC;rw [if_neg h1,if_neg h2,if_pos h3]
  rw [Zb _ _ _ _ _ h3];unfold xe;simp only [hl];rw [if_neg (show ¬ (3=0) by decide)]
  match r with
  | []=>rw [if_pos (show ([b]:Bs).length<3 by simp)];exact wh _ (if_neg (by simp))
  | [c1]=>rw [if_pos (show ([b,c1]:Bs).length<3 by simp)];exact wh _ (if_neg (by simp))
  | c1::c2::r =>
   rw [if_neg (show ¬ ((b::c1::c2::r).length<3) by simp)];simp only [List.length_cons,List.getD_cons_succ,List.getD_cons_zero,Nat.add_one_sub_one,List.take_succ_cons,List.take_zero,xi,Nat.reduceSub];by_cases hc:128≤c1.toNat∧c1.toNat≤191
   ·rw [if_pos hc];by_cases hd:128≤c2.toNat∧c2.toNat≤191
    ·rw [if_pos hd];have hV:((b.toNat - 224)*64+c1.toNat - 128)*64+c2.toNat - 128≤65535:=by omega
     generalize ((b.toNat - 224)*64+c1.toNat - 128)*64+c2.toNat - 128=V at *;simp only [];by_cases hv:2048≤V∧¬ (55296≤V∧V≤57343)
     ·rw [ptN V _ hv.1 (by omega)];exact Yr _ _ _ (if_pos ⟨by omega,hc,hd,hv.1,hv.2⟩) (by decide)
     rw [ptX V _ (by omega)];exact wh _ (if_neg fun h=>hv h.2.2.2)
    rw [if_neg hd];exact wh _ (if_neg fun h=>hd h.2.2.1)
   rw [if_neg hc];exact wh _ (if_neg fun h=>hc h.2.1)
 by_cases h4:240≤b.toNat∧b.toNat<245
 ·have hl:xC b.toNat=(4,b.toNat - 240,65536):=by unfold xC;rw [if_neg h1,if_neg h2,if_neg h3,if_pos h4]
  rw [Xc _ _ _ _ _ h4];unfold xe;simp only [hl];rw [if_neg (show ¬ (4=0) by decide)]
  match r with
  | []=>rw [if_pos (show ([b]:Bs).length<4 by simp)];exact wh _ (if_neg (by simp))
  | [c1]=>rw [if_pos (show ([b,c1]:Bs).length<4 by simp)];exact wh _ (if_neg (by simp))
  | [c1,c2]=>rw [if_pos (show ([b,c1,c2]:Bs).length<4 by simp)];exact wh _ (if_neg (by simp))
  | c1::c2::c3::r =>
   rw [if_neg (show ¬ ((b::c1::c2::c3::r).length<4) by simp)];simp only [List.length_cons,List.getD_cons_succ,List.getD_cons_zero,Nat.add_one_sub_one,List.take_succ_cons,List.take_zero,xi,Nat.reduceSub];by_cases hc:128≤c1.toNat∧c1.toNat≤191
   ·rw [if_pos hc];by_cases hd:128≤c2.toNat∧c2.toNat≤191
    ·rw [if_pos hd];by_cases he:128≤c3.toNat∧c3.toNat≤191
     ·rw [if_pos he];generalize (((b.toNat - 240)*64+c1.toNat - 128)*64+c2.toNat - 128)*64+c3.toNat - 128=V at *;simp only [];by_cases hv:65536≤V∧V≤1114111
      ·rw [ptN V _ hv.1 (by omega)];exact Yr _ _ _ (if_pos ⟨by omega,hc,hd,he,hv.1,hv.2⟩) (by decide)
      rw [ptX V _ (by omega)];exact wh _ (if_neg fun h=>hv h.2.2.2.2)
     rw [if_neg he];exact wh _ (if_neg fun h=>he h.2.2.2.1)
    rw [if_neg hd];exact wh _ (if_neg fun h=>hd h.2.2.1)
   rw [if_neg hc];exact wh _ (if_neg fun h=>hc h.2.1)
 have hl:xC b.toNat=(0,0,0):=by unfold xC;rw [if_neg h1,if_neg h2,if_neg h3,if_neg h4]
 rw [Xb _ _ _ _ _ (by omega) (by omega)];unfold xe;simp only [hl];simp
theorem Vo {l:Bs} (hne:l≠[]):Lib.validD l=match xe l with
  | none=>false
  | some p=>Lib.validD (l.drop p.2):=by
 match l,hne with
 | b::r,_ =>
  rw [Xv,Lib.validD_step _ (by simp)];split<;>rfl
theorem qC {l:Bs} {v k:Nat} (h:xe l=some (v,k)):xD l=v::xD (l.drop k)∧1≤k∧k≤l.length∧v≤1114111:=by
 match l,h with
 | [],h=>cases h
 | b::r,h =>
  rw [Xv] at h;split at h
  ·cases h
  have hd:=Lib.decodeL_width (b::r);have hl:=Lib.decodeL_le (b::r) (by simp);have hr:=Lib.decodeL_rune (b::r);have hs:=ww (l:=b::r) (by simp);injection h with h
  rw [h] at hd hl hr hs;exact ⟨hs,hd,hl,hr⟩
def vb (k:Nat):Nat:=32*64 ^ (k - 1)
theorem Yg {v k c:Nat} (h:v<vb k) (hk:1≤k) (hc:c≤191):v*64+c - 128<vb (k+1):=by
 obtain ⟨j,rfl⟩:∃ j,k=j+1:=⟨k - 1,by omega⟩;unfold vb at *;simp only [Nat.add_one_sub_one] at *;rw [Nat.pow_succ];omega
theorem SX {k:Nat} (h:k≤4):vb k≤8388608:=by
 match k,h with
 | 0,_=>decide
 | 1,_=>decide
 | 2,_=>decide
 | 3,_=>decide
 | 4,_=>decide
theorem Vz {b:UInt8} {r:Bs} (h:(xC b.toNat).1=0):xe (b::r)=none:=by
 unfold xe;simp only [];rw [if_pos h]
theorem sO {b:UInt8} {r:Bs} {k v0 m:Nat} (hl:xC b.toNat=(k,v0,m)) (h:(b::r).length<k):xe (b::r)=none:=by
 unfold xe;simp only [hl];by_cases h0:k=0
 ·rw [if_pos h0]
 rw [if_neg h0,if_pos h]
theorem r9 {b:UInt8} {r:Bs} {k v0 m:Nat} (hl:xC b.toNat=(k,v0,m)) (h0:k≠0) (h:¬ (b::r).length<k):xe (b::r)=match xi v0 (r.take (k - 1)) with
  | none=>none
  | some v=>if v<m∨xl v=false then none else some (v,k):=by
 unfold xe;simp only [hl];rw [if_neg h0,if_neg h]
end Hs
