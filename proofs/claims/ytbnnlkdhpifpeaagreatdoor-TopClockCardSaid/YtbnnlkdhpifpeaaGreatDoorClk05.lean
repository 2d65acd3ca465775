/- What the proof of TopClock uses, part Clk05. -/
import Derived.Test.YtbnnlkdhpifpeaaGreatDoorClk04
set_option linter.unusedSimpArgs false
set_option linter.unusedVariables false
namespace Go.Proofs.YtbnnlkdhpifpeaaGreatDoor
open Go.RowKit Hs
def Pk (a b c d e f g h:Nat):Int:=bits .or .u64 (bits .or .u64 (bits .or .u64 (bits .or .u64 (bits .or .u64 (bits .or .u64 (bits .or .u64 (IntKind.u64.wrap a) (IntKind.u64.wrap (IntKind.u64.wrap b*256))) (IntKind.u64.wrap (IntKind.u64.wrap c*65536))) (IntKind.u64.wrap (IntKind.u64.wrap d*16777216))) (IntKind.u64.wrap (IntKind.u64.wrap e*4294967296))) (IntKind.u64.wrap (IntKind.u64.wrap f*1099511627776))) (IntKind.u64.wrap (IntKind.u64.wrap g*281474976710656))) (IntKind.u64.wrap (IntKind.u64.wrap h*72057594037927936))
set_option maxRecDepth 20000
set_option maxHeartbeats 4000000
theorem VC (s:ByteArray) (h8:8≤s.size) (hs:s.size≤100000000) (w:World):Calls Tryz.prog 319 #[.string s] w fun e w'=>e= .returned (.int .u64 (Pk s[0].toNat s[1].toNat s[2].toNat s[3].toNat s[4].toNat s[5].toNat s[6].toNat s[7].toNat))∧∃ m,w'=w.drewN m:=by
 have i0:(0:Int)<(s.size:Int):=by omega
 have i1:(1:Int)<(s.size:Int):=by omega
 have i2:(2:Int)<(s.size:Int):=by omega
 have i3:(3:Int)<(s.size:Int):=by omega
 have i4:(4:Int)<(s.size:Int):=by omega
 have i5:(5:Int)<(s.size:Int):=by omega
 have i6:(6:Int)<(s.size:Int):=by omega
 have i7:(7:Int)<(s.size:Int):=by omega
 have n0:0<s.size:=by omega
 have n1:1<s.size:=by omega
 have n2:2<s.size:=by omega
 have n3:3<s.size:=by omega
 have n4:4<s.size:=by omega
 have n5:5<s.size:=by omega
 have n6:6<s.size:=by omega
 have n7:7<s.size:=by omega
 go_enter Tryz.func319,Tryz.ntmps319
 go_wp2;go_quiet (fail)
 go_wp2;go_ret;exact ⟨rfl,_,rfl⟩
theorem ug {B:Nat} {a w:World} (h:Below B a w) (n:Nat):Below B a (w.drewN n):=⟨h.os,h.tape,h.output,h.size,h.block⟩
def Asc (t:ByteArray):Prop:=(un t).all (fun b=>decide (b.toNat<128))=true
theorem Asc.part {t:ByteArray} (h:Asc t) (a b:Nat):Asc (t.extract a b):=by
 unfold Asc at *;rw [xj];rw [List.all_eq_true] at *;intro x hx;exact h x (List.mem_of_mem_drop (List.mem_of_mem_take hx))
theorem wy (t:ByteArray) (a:Nat) (h:a≤t.size):(t.extract a t.size).size=t.size - a:=by
 have:=congrArg List.length (xj t a t.size);rw [za,List.length_take,List.length_drop,za] at this;omega
set_option maxHeartbeats 8000000
theorem pf (s:ByteArray) (w:World) (hs:s.size≤100000000) (ha:(un s).all (fun b=>decide (b.toNat<128))=true):Calls Tryz.prog 299 #[.string s] w fun e w'=>e= .returned (.bool true)∧Below w.heap.size w w':=by
 go_enter Tryz.func299,Tryz.ntmps299
 go_wp2
 all_goals try omega
 go_loopg [0] s.size (fun m sv wr=>∃ t:ByteArray,m=t.size∧sv= .string t∧t.size≤100000000∧Hid ((un t).all (fun b=>decide (b.toNat<128))=true)∧Below w.heap.size w wr)
 case atStart=>exact ⟨s,rfl,rfl,hs,KZ9 ha,Below.refl _ _⟩
 case round =>
  obtain ⟨t,rfl,rfl,hts,hat,hnx⟩:=hrel;rcases Nat.eq_zero_or_pos t.size with h0 | hpos
  ·have h0I:(t.size:Int)=0:=by omega
   go_wp2
   all_goals try omega
   go_ret;exact ⟨rfl,hnx⟩
  have hb:t[0].toNat<128:=by
   have:=List.all_eq_true.1 hat.out t[0] (by rw [←zR t 0 hpos];exact List.getElem_mem _);exact of_decide_eq_true this
  have hbI:decide ((t[0].toNat:Int)<128)=true:=KZ7 (by omega);have hword:∀ X:ByteArray,8≤X.size→X.size≤100000000→∃ x,∀ W:World,Calls Tryz.prog 319 #[.string X] W fun e w'=>e= .returned (.int .u64 x)∧∃ m,w'=W.drewN m:=fun X h8 hx=>⟨_,fun W=>VC X h8 hx W⟩;have HWORD:=KZ9 hword;clear hword;have hA1:=KZ9 (show Asc (t.extract 1 t.size) from Asc.part (show Asc t from hat.out) 1 t.size);have hs1:=wy t 1 hpos;obtain ⟨t1,ht1⟩:∃ t1,t.extract 1 t.size=t1:=⟨_,rfl⟩;rw [ht1] at hA1 hs1;have hl1:t1.size<t.size:=by omega
  have hc1:t1.size≤100000000:=by omega
  clear hs1;by_cases h9:8<t1.size
  ·obtain ⟨x,hx⟩:=HWORD.out t1 (by omega) (by omega);have HX:=KZ9 hx;have g8:decide ((8:Int)<(t1.size:Int))=true:=KZ7 (by omega);clear hx;go_wp2_with fail
   all_goals try omega
   refine (HX.out _).mono ?_;rintro e w2 ⟨rfl,m2,rfl⟩;have hnx2:=ug hnx m2;generalize wr.drewN m2=wr2 at hnx2 ⊢;go_upto_if 24 with fail
   all_goals try omega
   generalize (bits BinOp.and IntKind.u64 x 9259542123273814144==0)=q;cases q
   ·go_wp2
    all_goals try omega
    all_goals
     go_roundg t1.size
     case measure=>omega
     case rel=>exact ⟨t1,rfl,rfl,by omega,hA1,hnx2⟩
   have hA2:=KZ9 (show Asc (t1.extract 8 t1.size) from Asc.part (show Asc t1 from hA1.out) 8 t1.size);have hs2:=wy t1 8 (by omega);obtain ⟨t2,ht2⟩:∃ t2,t1.extract 8 t1.size=t2:=⟨_,rfl⟩;rw [ht2] at hA2 hs2;have hl2:t2.size<t1.size:=by omega
   have hc2:t2.size≤100000000:=by omega
   clear hs2;by_cases h16:16<t2.size
   ·have hs3:=wy t2 8 (by omega);obtain ⟨t3,ht3⟩:∃ t3,t2.extract 8 t2.size=t3:=⟨_,rfl⟩;rw [ht3] at hs3;have hl3:8≤t3.size:=by omega
    have hc3:t3.size≤100000000:=by omega
    clear hs3;obtain ⟨y1,hy1⟩:=HWORD.out t2 (by omega) (by omega);obtain ⟨y2,hy2⟩:=HWORD.out t3 (by omega) (by omega);have HY1:=KZ9 hy1;have HY2:=KZ9 hy2;have g16:decide ((16:Int)<(t2.size:Int))=true:=KZ7 (by omega);have gn8:8≤t2.size:=by omega
    have gI8:(8:Int)≤(t2.size:Int):=by omega
    clear hy1 hy2;go_wp2_with fail
    all_goals try omega
    refine wp_region_quiet_lit (by kernel_rfl) (by kernel_rfl) ?_;repeat (go_big_quiet_step (fail))
    go_big_quiet_want
    go_big_quiet_op
    apply Exists.intro;refine ⟨fun _=> ?_,?_⟩
    ·exact Calls.quiet_of (HY1.out _)
    go_big_quiet_on
    repeat (go_big_quiet_step (fail))
    go_big_quiet_want
    go_big_quiet_op
    apply Exists.intro;refine ⟨fun _=> ?_,?_⟩
    ·exact Calls.quiet_of (HY2.out _)
    go_big_quiet_on
    repeat (go_big_quiet_step (fail))
    refine wpQuiet_nil ?_;intro _ hw';obtain ⟨nq,hw''⟩:=hw';subst hw'';generalize (bits BinOp.and IntKind.u64 (bits BinOp.or IntKind.u64 y1 y2) 9259542123273814144==0)=q2;have hnx3:=ug hnx2 nq;generalize wr2.drewN nq=wr3 at hnx3 ⊢;cases q2
    ·go_wp2
     all_goals try omega
     all_goals
      go_roundg t2.size
      case measure=>omega
      case rel=>exact ⟨t2,rfl,rfl,by omega,hA2,hnx3⟩
    have hA4:=KZ9 (show Asc (t2.extract 16 t2.size) from Asc.part (show Asc t2 from hA2.out) 16 t2.size);have hs4:=wy t2 16 (by omega);obtain ⟨t4,ht4⟩:∃ t4,t2.extract 16 t2.size=t4:=⟨_,rfl⟩;rw [ht4] at hA4 hs4;have hl4:t4.size<t.size:=by omega
    have hc4:t4.size≤100000000:=by omega
    have gn16:16≤t2.size:=by omega
    have gI16:(16:Int)≤(t2.size:Int):=by omega
    clear hs4;go_wp2
    all_goals try omega
    go_loopg [0] t4.size (fun m sv wr=>∃ v:ByteArray,m=v.size∧sv= .string v∧v.size<t.size∧v.size≤100000000∧Hid (Asc v)∧Below w.heap.size w wr)
    case atStart=>exact ⟨t4,rfl,rfl,hl4,hc4,hA4,hnx3⟩
    case round =>
     obtain ⟨v,rfl,rfl,hvt,hvc,hva,hnv⟩:=hrel;by_cases h32:32<v.size
     ·have q8:=wy v 8 (by omega);have q16:=wy v 16 (by omega);have q24:=wy v 24 (by omega);obtain ⟨v8,hv8⟩:∃ v8,v.extract 8 v.size=v8:=⟨_,rfl⟩;obtain ⟨v16,hv16⟩:∃ v16,v.extract 16 v.size=v16:=⟨_,rfl⟩;obtain ⟨v24,hv24⟩:∃ v24,v.extract 24 v.size=v24:=⟨_,rfl⟩;rw [hv8] at q8;rw [hv16] at q16;rw [hv24] at q24;obtain ⟨z1,hz1⟩:=HWORD.out v (by omega) (by omega);obtain ⟨z2,hz2⟩:=HWORD.out v8 (by omega) (by omega);obtain ⟨z3,hz3⟩:=HWORD.out v16 (by omega) (by omega);obtain ⟨z4,hz4⟩:=HWORD.out v24 (by omega) (by omega);have HZ1:=KZ9 hz1;have HZ2:=KZ9 hz2;have HZ3:=KZ9 hz3;have HZ4:=KZ9 hz4;have g32:decide ((32:Int)<(v.size:Int))=true:=KZ7 (by omega);have m8:8≤v.size:=by omega
      have m16:16≤v.size:=by omega
      have m24:24≤v.size:=by omega
      have m32:32≤v.size:=by omega
      have I8:(8:Int)≤(v.size:Int):=by omega
      have I16:(16:Int)≤(v.size:Int):=by omega
      have I24:(24:Int)≤(v.size:Int):=by omega
      have I32:(32:Int)≤(v.size:Int):=by omega
      clear hz1 hz2 hz3 hz4 q8 q16 q24;go_wp2_with fail
      all_goals try omega
      refine wp_region_quiet_lit (by kernel_rfl) (by kernel_rfl) ?_;repeat (go_big_quiet_step (fail))
      go_big_quiet_want
      go_big_quiet_op
      apply Exists.intro;refine ⟨fun _=> ?_,?_⟩
      ·exact Calls.quiet_of (HZ1.out _)
      go_big_quiet_on
      repeat (go_big_quiet_step (fail))
      go_big_quiet_want
      go_big_quiet_op
      apply Exists.intro;refine ⟨fun _=> ?_,?_⟩
      ·exact Calls.quiet_of (HZ2.out _)
      go_big_quiet_on
      repeat (go_big_quiet_step (fail))
      go_big_quiet_want
      go_big_quiet_op
      apply Exists.intro;refine ⟨fun _=> ?_,?_⟩
      ·exact Calls.quiet_of (HZ3.out _)
      go_big_quiet_on
      repeat (go_big_quiet_step (fail))
      go_big_quiet_want
      go_big_quiet_op
      apply Exists.intro;refine ⟨fun _=> ?_,?_⟩
      ·exact Calls.quiet_of (HZ4.out _)
      go_big_quiet_on
      repeat (go_big_quiet_step (fail))
      refine wpQuiet_nil ?_;intro _ hw';obtain ⟨nr,hw''⟩:=hw';subst hw'';generalize (bits BinOp.and IntKind.u64 (bits BinOp.or IntKind.u64 (bits BinOp.or IntKind.u64 z1 z2) (bits BinOp.or IntKind.u64 z3 z4)) 9259542123273814144==0)=q3;have hnw:=ug hnv nr;cases q3
      ·go_wp2
       all_goals try omega
       all_goals
        go_roundg v.size
        case measure=>omega
        case rel=>exact ⟨v,rfl,rfl,by omega,hva,hnw⟩
      have hA5:=KZ9 (show Asc (v.extract 32 v.size) from Asc.part (show Asc v from hva.out) 32 v.size);have hs5:=wy v 32 (by omega);obtain ⟨v5,hv5⟩:∃ v5,v.extract 32 v.size=v5:=⟨_,rfl⟩;rw [hv5] at hA5 hs5;have hl5:v5.size<v.size:=by omega
      clear hs5;go_wp2
      all_goals try omega
      all_goals
       go_roundg v5.size
       case measure=>omega
       case rel=>exact ⟨v5,rfl,rfl,by omega,by omega,hA5,hnw⟩
     have g32:decide ((32:Int)<(v.size:Int))=false:=KZ8 (by omega);go_wp2_with fail
     all_goals try omega
     go_quiet (fail)
     have hnw:=ug hnv nq;go_wp2
     all_goals try omega
     all_goals
      go_roundg v.size
      case measure=>omega
      case rel=>exact ⟨v,rfl,rfl,by omega,hva,hnw⟩
   have g16:decide ((16:Int)<(t2.size:Int))=false:=KZ8 (by omega);go_wp2_with fail
   all_goals try omega
   go_quiet (fail)
   have hnx3:=ug hnx2 nq;go_wp2
   all_goals try omega
   all_goals
    go_roundg t2.size
    case measure=>omega
    case rel=>exact ⟨t2,rfl,rfl,by omega,hA2,hnx3⟩
  have g8:decide ((8:Int)<(t1.size:Int))=false:=KZ8 (by omega);go_wp2
  all_goals try omega
  all_goals
   go_roundg t1.size
   case measure=>omega
   case rel=>exact ⟨t1,rfl,rfl,by omega,hA1,hnx⟩
end Go.Proofs.YtbnnlkdhpifpeaaGreatDoor
namespace Hs
open Go Go.RowKit
theorem gg {w:World} (s:ByteArray) (p:Nat):Below w.heap.size w (w.iter s p):=(Below.refl _ _).alloc (Nat.le_refl _) _
end Hs
namespace Go.Proofs.YtbnnlkdhpifpeaaGreatDoor
open Go.RowKit Hs
theorem rn (s:ByteArray) (w:World) (hs:s.size≤100000000) (ha:Asc s):Calls Tryz.prog 300 #[.string s] w fun e w'=>e= .returned (.int .i64 (s.size:Int))∧Below w.heap.size w w':=by
 refine (Tryz.utf8_RuneCountInString_ascii s w (by omega) ?_).mono ?_
 ·intro j b hb;have h1:(un s)[j]? =some b:=hb;exact of_decide_eq_true (List.all_eq_true.1 ha b (List.mem_of_getElem? h1))
 rintro e w' ⟨rfl,rfl⟩;exact ⟨rfl,gg _ _⟩
set_option maxRecDepth 20000
set_option maxHeartbeats 4000000
theorem pu (s:ByteArray) (w:World) (hs:s.size≤100000000) (ha:Asc s):Calls Tryz.prog 270 #[.string s] w fun e w'=>(∃ t c,e= .returned (.tuple #[.string t,.int .i64 c])∧((c=0∧vn (un s)=some (un t))∨(c≠0∧t=⟨#[]⟩∧vn (un s)=none)))∧Below w.heap.size w w':=by
 have hlen:(un s).length=s.size:=za s;have hdef:vn (un s)=if 256<s.size then none else if zY (zt (un s))=true then some (zt (un s)) else none:=by unfold vn;rw [hlen]
 have hv:=fun W=>pf s W hs ha;have hr:=fun W=>rn s W hs ha;have HV:=KZ9 hv;have HR:=KZ9 hr;have HDEF:=KZ9 hdef;have hlow:=fun W=>yw s W hs;have HLOW:=KZ9 hlow;have hval:=fun W=>kg (mk (zt (un s))) W (by rw [zi,x6,hlen];exact hs);rw [zk] at hval;obtain ⟨ok,hok⟩:=KZ6 (zY (zt (un s)));rw [←hok] at hdef;simp only [←hok] at hval;have HVAL:=KZ9 hval;have HDEF2:=KZ9 hdef;obtain ⟨n,hn⟩:=KZ6 s.size;rw [←hn] at hs;have hsI:(s.size:Int)=(n:Int):=by rw [hn]
 have HN:=KZ9 hn;clear hv hr hdef hlow hval hok hlen HDEF hn;go_enter Tryz.func270,Tryz.ntmps270
 go_wp2_with fail
 refine (HV.out _).mono ?_;rintro e w1 ⟨rfl,hb1⟩;have HB1:=KZ9 hb1;clear hb1;go_wp2_with fail
 all_goals try omega
 refine (HR.out _).mono ?_;rintro e w2 ⟨rfl,hb2⟩;have HB2:=KZ9 (HB1.out.trans (hb2.mono HB1.out.size));clear hb2;by_cases h256:256<n
 ·have g1:decide ((256:Int)<(n:Int))=true:=KZ7 (by omega);have hfin:=KZ9 (HDEF2.out.trans (if_pos (by rw [←HN.out];exact h256)));go_wp2
  all_goals try omega
  go_ret2;exact ⟨⟨_,_,rfl,.inr ⟨by decide,rfl,hfin.out⟩⟩,HB2.out⟩
 have g1:decide ((256:Int)<(n:Int))=false:=KZ8 (by omega);have hfin:=KZ9 (HDEF2.out.trans (if_neg (by rw [←HN.out];exact h256)));go_wp2_with fail
 all_goals try omega
 refine (HLOW.out _).mono ?_;rintro e w3 ⟨rfl,hb3⟩;have HB3:=KZ9 (HB2.out.trans (hb3.mono HB2.out.size));clear hb3;go_wp2_with fail
 all_goals try omega
 refine (HR.out _).mono ?_;rintro e w4 ⟨rfl,hb4⟩;have HB4:=KZ9 (HB3.out.trans (hb4.mono HB3.out.size));clear hb4;go_wp2_with fail
 all_goals try omega
 refine (HVAL.out _).mono ?_;rintro e w5 ⟨rfl,hb5⟩;have HB5:=KZ9 (HB4.out.trans (hb5.mono HB4.out.size));clear hb5;cases ok
 ·have hf:=KZ9 (hfin.out.trans (if_neg (by simp)));go_wp2
  all_goals try omega
  go_ret2;exact ⟨⟨_,_,rfl,.inr ⟨by decide,rfl,hf.out⟩⟩,HB5.out⟩
 have hf:=KZ9 (hfin.out.trans (if_pos rfl));go_wp2
 all_goals try omega
 go_ret2;exact ⟨⟨_,_,rfl,.inl ⟨rfl,by rw [hf.out,zk]⟩⟩,HB5.out⟩
end Go.Proofs.YtbnnlkdhpifpeaaGreatDoor
namespace Hs
open Go
theorem uD (n b0:Nat):∀ (l:List Nat) (out:Bs) (delta bias done:Nat),delta+l.length<10 ^ 14 →
  (zr n b0 l out delta bias done).1.length≤out.length+15*l.length∧(zr n b0 l out delta bias done).2.1≤delta+l.length∧(zr n b0 l out delta bias done).2.2.2≤done+l.length
 | [],out,delta,bias,done,_=>by simp [zr]
 | p::r,out,delta,bias,done,h=>by
  simp only [List.length_cons] at h ⊢;unfold zr;split
  ·have:=uD n b0 r out (delta+1) bias done (by omega);omega
  split
  ·have:=uD n b0 r (out++wQ delta 0 bias) 0 (xw delta (done+1) (decide (done=b0))) (done+1) (by omega);have h2:=uj 14 delta 0 bias (by omega);rw [List.length_append] at this;omega
  have:=uD n b0 r out delta bias done (by omega);omega
theorem kF (n D:Nat):∀ l:List Nat,zv n D l≤D
 | []=>Nat.le_refl _
 | p::r=>by
  have:=kF n D r;unfold zv;split<;>omega
theorem Yw (pts:List Nat) (b0:Nat) (hL:pts.length≤256):∀ (f n:Nat) (out:Bs) (delta bias done:Nat),done+f*256≤65792→delta+f*73300772000+256<10 ^ 14 →
  (qi pts b0 f n out delta bias done).length≤out.length+f*3840
 | 0,n,out,delta,bias,done,_,_=>by simp [qi]
 | f+1,n,out,delta,bias,done,h1,h2=>by
  unfold qi;split
  ·omega
  have hm:=kF n 1114112 pts;have hp:(zv n 1114112 pts - n)*(done+1)≤1114112*65793:=Nat.mul_le_mul (by omega) (by omega);have hb:=uD (zv n 1114112 pts) b0 pts out (delta+(zv n 1114112 pts - n)*(done+1)) bias done (by omega);have:=Yw pts b0 hL f (zv n 1114112 pts+1)
   (zr (zv n 1114112 pts) b0 pts out (delta+(zv n 1114112 pts - n)*(done+1)) bias done).1
   ((zr (zv n 1114112 pts) b0 pts out (delta+(zv n 1114112 pts - n)*(done+1)) bias done).2.1+1)
   (zr (zv n 1114112 pts) b0 pts out (delta+(zv n 1114112 pts - n)*(done+1)) bias done).2.2.1
   (zr (zv n 1114112 pts) b0 pts out (delta+(zv n 1114112 pts - n)*(done+1)) bias done).2.2.2 (by omega) (by omega)
  omega
theorem SC {pts:List Nat} {c:Bs} (h:se pts=some c):c.length≤1000000:=by
 unfold se at h;split at h
 ·cases h
 rename_i hL;split at h
 ·cases h
 injection h with h
 rw [←h];have hb:(zA pts).length≤pts.length:=by unfold zA;rw [List.length_map];exact List.length_filter_le _ _
 have:=Yw pts (zA pts).length (by omega) pts.length 128 (zA pts++if (zA pts).length=0 then [] else [45]) 0 72 (zA pts).length (by omega) (by omega);rw [List.length_append] at this;have h1:(if (zA pts).length=0 then ([]:Bs) else [45]).length≤1:=by split<;>simp
 omega
end Hs
namespace Go.Proofs.YtbnnlkdhpifpeaaGreatDoor
open Go.RowKit Hs
theorem gx (s:ByteArray) (w:World) (hs:s.size≤100000000):Calls Tryz.prog 300 #[.string s] w fun e w'=>e= .returned (.int .i64 ((tu (un s)).length:Int))∧Below w.heap.size w w':=by
 refine (Tryz.utf8_RuneCountInString s w (by omega)).mono ?_;rintro e w' ⟨rfl,p,rfl⟩;exact ⟨by rw [go],gg _ _⟩
theorem Uy (s:ByteArray) (w:World) (hU:U8 w) (hs:s.size≤100000000):Calls Tryz.prog 299 #[.string s] w fun e w'=>e= .returned (.bool (Lib.validD (un s)))∧Below w.heap.size w w' :=
 Tryz.utf8_ValidString s w (by omega) hU
set_option maxRecDepth 20000
set_option maxHeartbeats 8000000
theorem kh (s:ByteArray) (w:World) (hU:U8 w) (hs:s.size≤100000) (ha:gl (un s)=false):Calls Tryz.prog 270 #[.string s] w fun e w'=>(∃ t c,e= .returned (.tuple #[.string t,.int .i64 c])∧((c=0∧wH (un s)=some (un t))∨(c≠0∧t=⟨#[]⟩∧wH (un s)=none)))∧Below w.heap.size w w':=by
 obtain ⟨iN0,iN⟩:=info_parts jw;have hlen:(un s).length=s.size:=za s;obtain ⟨l,hl⟩:=KZ6 (un s);have HDEF:Hid (wH l=if Lib.validD l=false then none else if 256<(tu l).length then none else match se (tu (zt l)) with
  | none=>none
  | some c=>if zY (xnP++c)=true then some (xnP++c) else none):=KZ9 rfl
 have hv:=Uy s w hU (by omega);have hr:=fun W=>gx s W (by omega);have hlow:=fun W=>yw s W (by omega);have hplt:=WK l.length l (Nat.le_refl _);rw [←hl] at hv hr hlow ha hlen ⊢;have hsz0:(mk (zt l)).size=l.length:=by rw [zi,x6]
 obtain ⟨n,hn⟩:=KZ6 l.length;have hsI:(s.size:Int)=(n:Int):=by omega
 have hn6:n≤100000:=by omega
 rw [←hn] at hplt hsz0;have HNL:=KZ9 hn;obtain ⟨m,hm⟩:=KZ6 ((tu l).length);rw [←hm] at hplt HDEF;simp only [←hm] at hr;have hmn:m≤n:=by rw [hm,hn];exact kn l
 clear hn;obtain ⟨ok,hok⟩:=KZ6 (Lib.validD l);rw [←hok] at HDEF hv hplt;have HR:=KZ9 hr;have HLOW:=KZ9 hlow;have HV:=KZ9 hv;clear hr hlow hv hok hm hs hl hlen;cases ok
 ·have hfin:=KZ9 (HDEF.out.trans (if_pos rfl));go_enter Tryz.func270,Tryz.ntmps270
  go_wp2_with fail
  refine HV.out.mono ?_;rintro e w1 ⟨rfl,hb1⟩;go_wp2
  all_goals try omega
  go_ret2;exact ⟨⟨_,_,rfl,.inr ⟨by decide,rfl,hfin.out⟩⟩,hb1⟩
 have HD2:=KZ9 (HDEF.out.trans (if_neg (by simp)));have hlt:=hplt rfl ha;clear HDEF hplt ha;go_enter Tryz.func270,Tryz.ntmps270
 go_wp2_with fail
 refine HV.out.mono ?_;rintro e w1 ⟨rfl,hb1⟩;have HB1:=KZ9 hb1;clear hb1 HV;go_wp2_with fail
 all_goals try omega
 refine (HR.out _).mono ?_;rintro e w2 ⟨rfl,hb2⟩;have HB2:=KZ9 (HB1.out.trans (hb2.mono HB1.out.size));clear hb2 HB1;by_cases h256:256<m
 ·have g1:decide ((256:Int)<(m:Int))=true:=KZ7 (by omega);have hfin:=KZ9 (HD2.out.trans (if_pos h256));clear HD2;go_wp2
  all_goals try omega
  go_ret2;exact ⟨⟨_,_,rfl,.inr ⟨by decide,rfl,hfin.out⟩⟩,HB2.out⟩
 have g1:decide ((256:Int)<(m:Int))=false:=KZ8 (by omega);have g2:decide ((m:Int)<(n:Int))=true:=KZ7 (by omega);have HD3:=KZ9 (HD2.out.trans (if_neg h256));clear HD2;go_wp2_with fail
 all_goals try omega
 refine (HLOW.out _).mono ?_;rintro e w3 ⟨rfl,hb3⟩;have HB3:=KZ9 (HB2.out.trans (hb3.mono HB2.out.size));clear hb3 HB2;go_wp2_with fail
 all_goals try omega
 refine (HR.out _).mono ?_;rintro e w4 ⟨rfl,hb4⟩;have hb04:=HB3.out.trans (hb4.mono HB3.out.size);have HB4:=KZ9 hb04;have hs04:=hb04.size;clear hb4 HB3 hb04 HLOW HR;obtain ⟨q,hq⟩:=KZ6 (zt l);have hqs:(mk q).size=n:=by rw [hq];exact hsz0
 have hql:q.length=n:=by rw [←zi];exact hqs
 rw [←hq] at HD3 ⊢;obtain ⟨sq,hsq⟩:=KZ6 (mk q);rw [←hsq] at hqs ⊢;have hun:un sq=q:=by rw [hsq,zk]
 clear hq hsz0 hsq;go_wp2
 all_goals try omega
 go_loopg [5] n (fun f pv wr=>∃ (pos k:Nat) (done:List Nat),wr.heap[w4.heap.size]? =some (.stringIter sq pos)∧wr.ownsRow (w4.heap.size+1) 3 1 pv k (zo done)∧Hid (tu q=done++tu (q.drop pos))∧n≤pos+f∧k≤pos∧pos≤n∧Below w.heap.size w wr∧done.length=k∧(∀ p∈done,p≤1114111))
 case atStart=>exact ⟨0,0,[],World.iter_heap _ _ _,World.ownsRow_nil _ _ _ _,KZ9 (by rw [List.drop_zero];rfl),by omega,by omega,by omega,HB4.out.alloc hs04 _,rfl,fun p h=>by cases h⟩
 case round =>
  obtain ⟨pos,k,done,hit,hown,hst,hf,hkp,hpn,hbw,hdk,hdone⟩:=hrel;by_cases hp:pos<n
  ·obtain ⟨g',rfl⟩:∃ g',gk=g'+1:=⟨gk - 1,by omega⟩;have hnx:∀ ty,(Instr.next (.pointer (some ⟨w4.heap.size,0,none⟩)) true ty).run Tryz.prog wr=_:=fun ty=>Lib.run_next_any_at wr w4.heap.size sq pos ty hit (by omega);have hdl:=Lib.decodeL_drop sq pos;have hdl2:Lib.decodeL (q.drop pos)=Utf8.decode sq pos:=by rw [←hun];exact hdl
   have hrl:=Lib.rune_le sq pos;have hwd:=Lib.width_pos sq pos;have hwl:=Lib.decodeL_le (q.drop pos) (by intro e;have:=congrArg List.length e;simp at this;omega);have hst2:Hid (tu q=(done++[(Utf8.decode sq pos).1])++tu (q.drop (pos+(Utf8.decode sq pos).2))):=by
    refine KZ9 ?_;rw [hst.out,pw (by intro e;have:=congrArg List.length e;simp at this;omega),hdl2,List.drop_drop,List.append_assoc];rfl
   rw [hdl2,List.length_drop] at hwl;obtain ⟨R,hR⟩:∃ R,(Utf8.decode sq pos).1=R:=⟨_,rfl⟩;obtain ⟨K,hK⟩:∃ K,(Utf8.decode sq pos).2=K:=⟨_,rfl⟩;rw [hR,hK] at hnx hst2;rw [hR] at hrl;rw [hK] at hwd hwl;have hit2:=Lib.iterAt_heap wr w4.heap.size sq pos (pos+K) hit;have hbw2:=Lib.below_iterAt hbw (k:=w4.heap.size) (by omega) sq (pos+K);have hown2:=ownsRow_iterAt hown (Nat.lt_succ_self _) sq (pos+K);obtain ⟨W,hWd⟩:∃ W,wr.iterAt w4.heap.size sq (pos+K)=W:=⟨_,rfl⟩;rw [hWd] at hnx hit2 hbw2 hown2;have hltW:w4.heap.size<W.heap.size:=(Array.getElem?_eq_some_iff.1 hit2).1;have hsW:=hbw2.size;have hit3:∀ o,(W.alloc o).heap[w4.heap.size]? =some (.stringIter sq (pos+K)):=fun o=>by
    show (W.heap.push o)[w4.heap.size]? =_;rw [Array.getElem?_push_lt hltW,←Array.getElem?_eq_getElem hltW];exact hit2
   clear hWd hK hR hdl hdl2 hst hit hbw hown;go_wp2_with (at_builtin;refine wpList_append_own _ rfl (.tmp 30) (.tmp 33) 22 rfl ((w4.heap.size+1)) 3 iN0 (.int .i64 0) 1 8 Tryz.underlying22 iN.1 iN.2.1 iN.2.2.1 iN.2.2.2 rfl (by decide) _ _ _ rfl (hown2.alloc _) ⟨W.heap.size,0,none⟩ 1 1 [_] rfl rfl (cell_one_new _ _ _) (by intro u hu;simp at hu;subst hu;rfl) (by unfold maxLen;omega) (by omega) (by simp;omega) ?_;intro v1 w5 hown1 hgrow1 hnil1)
   all_goals try omega
   go_roundg g'
   case measure=>omega
   case rel =>
    refine ⟨pos+K,k+1,done++[R],(hgrow1.block _ (by simp;omega) (fun e=> ?_)).trans (hit3 _),?_,hst2,by omega,by omega,by omega,?_,by simp;omega,?_⟩
    ·have:=(hown2.lt _ e.symm).1;omega
    ·rw [uL,show zo [R]=[.int .i64 (R:Int)] from rfl];exact hown1
    ·exact (hbw2.alloc hsW _).grown hgrow1 (by simp;omega) (fun j hj=>by have:=(hown2.lt j hj).1;omega)
    intro p hp;rcases List.mem_append.1 hp with h | h
    ·exact hdone p h
    rw [List.mem_singleton.1 h];exact hrl
  have hnx:∀ ty,(Instr.next (.pointer (some ⟨w4.heap.size,0,none⟩)) true ty).run Tryz.prog wr=_:=fun ty=>Lib.run_next_end_at wr w4.heap.size sq pos ty hit (by omega);have hfin:tu q=done:=by rw [hst.out,List.drop_of_length_le (by omega),TQ,List.append_nil]
  have henc:=dg _ done wr (Nums.owned hown) (by have:=kn q;rw [hfin] at this;omega) (fun p h=>by have:=hdone p h;omega);have HE:=KZ9 henc;have HFIN:=KZ9 hfin;clear henc hfin hst hdone;go_wp2_with fail
  all_goals try omega
  refine HE.out.mono ?_;rintro e w6 ⟨⟨sc,ec,rfl,hcase⟩,hb6⟩;have hB6:=hbw.trans (hb6.mono hbw.size);have HB6:=KZ9 hB6;clear hb6 hB6 HE;rcases hcase with ⟨rfl,henc2⟩ | ⟨hne,rfl,henc2⟩
  ·have HD4:Hid (wH l=if zY (xnP++un sc)=true then some (xnP++un sc) else none):=KZ9 (by rw [HD3.out,HFIN.out,henc2]);obtain ⟨T,hT⟩:=KZ6 ((⟨#[120,110,45,45]⟩:ByteArray)++sc);have huT:un T=xnP++un sc:=by rw [hT,yT];rfl
   have hTs:T.size=sc.size+4:=by rw [←za,huT,List.length_append,za,Nat.add_comm];rfl
   rw [←huT] at HD4;have hscl:sc.size≤1000000:=by have:=SC henc2;rwa [za] at this
   have hval:=fun W=>kg T W (by omega);obtain ⟨ok2,hok2⟩:=KZ6 (zY (un T));rw [←hok2] at HD4;simp only [←hok2] at hval;have HVAL:=KZ9 hval;rw [hT] at hTs;have hT2:=hT.symm;clear HD3 hT huT hval hok2 henc2;go_wp2_with fail
   all_goals try omega
   refine (HVAL.out _).mono ?_;rintro e w7 ⟨rfl,hb7⟩;have HB7:=KZ9 (HB6.out.trans (hb7.mono HB6.out.size));clear hb7;cases ok2
   ·have hf:=KZ9 (HD4.out.trans (if_neg (by simp)));go_wp2
    all_goals try omega
    go_ret2;exact ⟨⟨_,_,rfl,.inr ⟨by decide,rfl,hf.out⟩⟩,HB7.out⟩
   have hf:=KZ9 (HD4.out.trans (if_pos rfl));go_wp2
   all_goals try omega
   go_ret2;exact ⟨⟨_,_,rfl,.inl ⟨rfl,hf.out⟩⟩,HB7.out⟩
  have hf:Hid (wH l=none):=KZ9 (by rw [HD3.out,HFIN.out,henc2]);have g3:((ec:Int) != 0)=true:=by simp;omega
  go_wp2
  all_goals try omega
  go_ret2;exact ⟨⟨_,_,rfl,.inr ⟨by decide,rfl,hf.out⟩⟩,HB6.out⟩
def Base6 (w:World):Prop:=Base w∧w.cell? ⟨5,15,none⟩=some (.int .u8 4)
theorem Base6.below {w w':World} (h:Base6 w) (hb:Below w.heap.size w w'):Base6 w' :=
 ⟨h.1.below hb,((wj hb).1 _ _ (World.block_lt_of_cell? w _ h.2)).trans h.2⟩
theorem BlkN.set {w:World} {g:Nat} {T:TypeId} {cs:Array Value} (h:BlkN w g T cs) (j:Nat) (v:Value):BlkN (w.setCell ⟨g,j,none⟩ v) g T (cs.setIfInBounds j v):=by
 have hlt:=h.lt;have h':w.heap[g]= .cells cs T (0,0):=by simpa [BlkN,Array.getElem?_eq_getElem hlt] using h
 show (w.heap.modify g _)[g]? =_;rw [Array.getElem?_eq_getElem (by simpa using hlt),Array.getElem_modify_self,h'];rfl
end Go.Proofs.YtbnnlkdhpifpeaaGreatDoor
namespace Hs
open Go Go.RowKit
def xi (W:World):Type:={ w':World // Below W.heap.size W w' }
instance (W:World):Nonempty (xi W):=⟨⟨W,Below.refl _ _⟩⟩
theorem xI {P:Program} {id:Nat} {Q:Exit→Act→World→Prop} {a:Act} {w:World} (W:World) {l:List Oper} (hm:P.follows .mixedOrders=true) (hB:Region.lexB .any l.toArray=true) (h0:Below W.heap.size W w)
  (h:wpQuiet P l.toArray (fun w'=>∃ x:xi W,w'=x.1) (fun a'=>∀ w',(∃ x:xi W,w'=x.1)→Q .normal a' w') l a):(Code.region id l.toArray true).wp P Q a w :=
 wp_region_quiet (C:=fun w'=>∃ x:xi W,w'=x.1) hm hB ⟨⟨_,h0.drew⟩,rfl⟩ (by simpa using h)
theorem Calls.later {P:Program} {f:FuncId} {args:Array Value} {W:World} {x:xi W} {v:Value} (h:Calls P f args x.1 fun e w'=>e= .returned v∧Below x.1.heap.size x.1 w'):Calls P f args x.1 fun e w''=>e= .returned v∧∃ y:xi W,w''=y.1 :=
 h.mono fun _ w' ⟨he,hb⟩=>⟨he,⟨w',x.2.trans (hb.mono x.2.size)⟩,rfl⟩
theorem Calls.later_same {P:Program} {f:FuncId} {args:Array Value} {W:World} {x:xi W} {v:Value} (h:Calls P f args x.1 fun e w'=>e= .returned v∧x.1=w'):Calls P f args x.1 fun e w''=>e= .returned v∧∃ y:xi W,w''=y.1 :=
 h.mono fun _ _ ⟨he,hb⟩=>⟨he,x,hb.symm⟩
end Hs
namespace Go.Proofs.YtbnnlkdhpifpeaaGreatDoor
open Go.RowKit Hs
theorem uA (c:UInt8):∀ L:List Bs,List.intercalate [c] L=wS c L
 | []=>rfl
 | [p]=>by simp [List.intercalate,wS]
 | p::q::r=>by
  have ih:=uA c (q::r);show List.intercalate [c] (p::q::r)=p++c::wS c (q::r);rw [←ih];simp [List.intercalate,List.intersperse]
set_option maxHeartbeats 800000
theorem qd (s:ByteArray) (w:World) (hB:Base w) (hs:s.size≤100000000):Calls Tryz.prog 113 #[.string s] w fun e w'=>e= .returned (.bool (yz (un s)))∧Below w.heap.size w w':=by
 have HS:=KZ9 (Yb s w hB hs);have hlen:=rP (un s);have hpos:=tz (un s);have hpv:Hid (yz (un s)=let p:=((zZ (un s)).getLast?).getD [];if wV p then (zL p).2 else (yu 10 p).2&& !p.isEmpty):=KZ9 rfl;obtain ⟨R,hR⟩:=KZ6 (yz (un s));rw [←hR] at hpv ⊢;clear hR;obtain ⟨L,hL⟩:=KZ6 (zZ (un s));rw [←hL] at hpv HS hlen hpos;clear hL;rw [za] at hlen;obtain ⟨n,hn0⟩:∃ n,L.length=n+1:=⟨L.length - 1,by omega⟩;have hxl:=hlen (L[n]'(by omega)) (List.getElem_mem _);have hlast:Hid (L.getLast? =some (L[n]'(by omega))):=KZ9 (by rw [List.getLast?_eq_getElem?];simp only [hn0,Nat.add_sub_cancel];exact List.getElem?_eq_getElem _);have HN:=KZ9 hn0;clear hlen hpos;go_enter Tryz.func113,Tryz.ntmps113
 go_wp2_with fail
 refine HS.out.mono ?_;rintro e w1 ⟨v,rfl,hst,hb⟩;clear HS;obtain ⟨a,c,rfl,hn,hm,hc⟩:=hst.open;unfold maxLen at hm;obtain ⟨b,off,rfl,hb1,hcell⟩:=hc (by rw [HN.out];omega);have c0:=hcell n (by rw [HN.out];omega);rw [HN.out] at hn ⊢;obtain ⟨x,hx⟩:∃ x,x=L[n]'(by rw [HN.out];omega):=⟨_,rfl⟩;rw [←hx] at c0 hxl hlast;rw [hlast.out] at hpv;simp only [Option.getD_some] at hpv;clear hcell hc hst hx hn0 hlast HN;have ch:=fun W=>Sm (mk x) W (by rw [zi];omega);have cn:=fun W=>KZZ (mk x) W (by rw [zi];omega);have cd:=fun W=>jc (mk x) W (by rw [zi];omega);simp only [zk] at ch cn cd;cases hh:wV x
 ·rw [hh] at ch hpv;have CH:=KZ9 ch;have CD:=KZ9 cd;obtain ⟨m,hm2⟩:=KZ6 (yu 10 x);rw [←hm2] at CD hpv;obtain ⟨y,ok⟩:=m;simp only at CD;cases ok
  ·have hend:Hid (R=false):=KZ9 (by rw [hpv.out];rfl);clear ch cn cd hpv hm2 hh;go_wp2_with fail
   refine (CH.out _).mono ?_;rintro e w2 ⟨rfl,rfl⟩;go_wp2_with fail
   refine (CD.out _).mono ?_;rintro e w2 ⟨rfl,rfl⟩;go_wp2_with fail
   go_ret;rw [hend.out];exact ⟨rfl,hb⟩
  cases hx0:x.isEmpty
  ·have hend:Hid (R=true):=KZ9 (by rw [hpv.out,hx0];rfl);have e1:(mk x).toList.isEmpty=false:=by rw [zy,zk];exact hx0
   clear ch cn cd hpv hm2 hh hx0;go_wp2_with fail
   refine (CH.out _).mono ?_;rintro e w2 ⟨rfl,rfl⟩;go_wp2_with fail
   refine (CD.out _).mono ?_;rintro e w2 ⟨rfl,rfl⟩;go_wp2_with fail
   go_ret;rw [hend.out];exact ⟨rfl,hb⟩
  have hend:Hid (R=false):=KZ9 (by rw [hpv.out,hx0];rfl);have e1:(mk x).toList.isEmpty=true:=by rw [zy,zk];exact hx0
  clear ch cn cd hpv hm2 hh hx0;go_wp2_with fail
  refine (CH.out _).mono ?_;rintro e w2 ⟨rfl,rfl⟩;go_wp2_with fail
  refine (CD.out _).mono ?_;rintro e w2 ⟨rfl,rfl⟩;go_wp2_with fail
  go_ret;rw [hend.out];exact ⟨rfl,hb⟩
 rw [hh] at ch hpv;have CH:=KZ9 ch;have CN:=KZ9 cn;have hend:Hid (R=(zL x).2):=KZ9 (by rw [hpv.out];rfl);clear ch cn cd hpv hh;go_wp2_with fail
 refine (CH.out _).mono ?_;rintro e w2 ⟨rfl,rfl⟩;go_wp2_with fail
 refine (CN.out _).mono ?_;rintro e w2 ⟨rfl,rfl⟩;go_wp2_with fail
 go_ret;rw [hend.out];exact ⟨rfl,hb⟩
theorem vZ (v m F C:Nat) (hC:C=2 ^ F) (hv:v*C<9223372036854775808) (hm:m<C) (hm2:m<9223372036854775808) (hs:v*C+m<9223372036854775808):bits .or .i64 ((v:Int)*(C:Int)) (m:Int)=((v*C+m:Nat):Int):=by
 have h2:v*C ||| m=v*C+m:=by
  have e:v*C=v <<< F:=by rw [Nat.shiftLeft_eq,hC]
  rw [e];exact (Nat.shiftLeft_add_eq_or_of_lt (by rw [←hC];exact hm) v).symm
 have e1:(BitVec.ofInt 64 ((v:Int)*(C:Int))).toNat=v*C:=by
  rw [BitVec.toNat_ofInt];have:((v:Int)*(C:Int))=((v*C:Nat):Int):=by simp
  rw [this];omega
 have e2:(BitVec.ofInt 64 (m:Int)).toNat=m:=by rw [BitVec.toNat_ofInt];omega
 show IntKind.i64.wrap ((BitVec.ofInt 64 ((v:Int)*(C:Int)) ||| BitVec.ofInt 64 (m:Int)).toNat:Int)=_;rw [BitVec.toNat_or,e1,e2,h2,IntKind.wrap_i64];omega
theorem rb (F:Nat) (p:Bs) (v:Nat):yb F [p] v=if (zL p).2=true∧(zL p).1<2 ^ F then some (v*2 ^ F+(zL p).1) else none:=rfl
theorem qG (F:Nat) (p:Bs) (r:List Bs) (v:Nat) (h:r≠[]):yb F (p::r) v=if (zL p).2=true∧(zL p).1≤255 then yb F r (v*256+(zL p).1) else none:=by
 cases r with
 | nil=>exact absurd rfl h
 | cons q r=>rfl
set_option maxRecDepth 100000
set_option maxHeartbeats 4000000
theorem XR (s:ByteArray) (w:World) (hB:Base w) (hs:s.size≤100000000):Calls Tryz.prog 269 #[.string s] w fun e w'=>e= .returned (.tuple #[.int .u32 (qE (un s)).1,.bool (qE (un s)).2])∧Below w.heap.size w w':=by
 have HS:=KZ9 (Yb s w hB hs);have HLEN:=KZ9 (rP (un s));have hpos:=tz (un s);have hpv:Hid (qE (un s)=if (zZ (un s)).length≤4 then cV (yb (8*(5 - (zZ (un s)).length)) (zZ (un s)) 0) else (0,false)):=KZ9 rfl;obtain ⟨R,hR⟩:=KZ6 (qE (un s));rw [←hR] at hpv ⊢;clear hR;obtain ⟨L,hL⟩:=KZ6 (zZ (un s));rw [←hL] at hpv HS HLEN hpos;clear hL;rw [za] at HLEN;clear hB;go_enter Tryz.func269,Tryz.ntmps269
 go_wp2;go_step3;go_wp2_with fail
 refine HS.out.mono ?_;rintro e w1 ⟨v,rfl,hst,hb⟩;clear HS;obtain ⟨a,c,rfl,hn,hm,hc⟩:=hst.open;unfold maxLen at hm;have HC:=KZ9 hc;clear hc hst;obtain ⟨n,hn0⟩:∃ n,L.length=n:=⟨_,rfl⟩;rw [hn0] at hn hpos hpv ⊢;have HN:=KZ9 hn0;clear hn0;by_cases h4:n≤4
 ·have hfin:Hid (R=cV (yb (8*(5 - n)) L 0)):=KZ9 (by rw [hpv.out,if_pos h4]);clear hpv;rcases (by omega:n=1∨n=2∨n=3∨n=4) with rfl | rfl | rfl | rfl
  ·have hfin:Hid (R=cV (yb 32 L 0)):=hfin;go_wp2;go_step3;go_wp2;go_loop [5,18] (fun vv iv=>∃ (k v:Nat),iv= .int .i64 k∧k≤1∧vv= .int .i64 v∧v<4294967296∧(k<1→v<256 ^ k)∧Hid (yb 32 L 0=yb 32 (L.drop k) v)) (fun _ iv=>1 - (intOf iv).toNat)
   case atStart=>exact ⟨0,0,rfl,by omega,rfl,by omega,fun _=>by simp,KZ9 rfl⟩
   case round =>
    obtain ⟨k,v,rfl,hk,rfl,hv,hvk,hst⟩:=hrel;by_cases hlt:k<1
    ·obtain ⟨b,off,rfl,hb1,hcell⟩:=HC.out (by rw [HN.out];omega);have hkl:k<L.length:=by rw [HN.out];exact hlt
     have c0:=hcell k hkl;have hlen:=HLEN.out L[k] (List.getElem_mem hkl);have hst2:Hid (yb 32 L 0=yb 32 (L[k]::L.drop (k+1)) v):=KZ9 (by rw [hst.out,List.drop_eq_getElem_cons hkl]);obtain ⟨x,hx⟩:=KZ6 (L[k]);rw [←hx] at c0 hlen hst2;clear hcell hst hx hkl;have hd:=fun W=>KZZ (mk x) W (by rw [zi];omega);simp only [zk] at hd;have hle:=ju x;have hlst:Hid (∀ F v,yb F [x] v=if (zL x).2=true∧(zL x).1<2 ^ F then some (v*2 ^ F+(zL x).1) else none):=KZ9 (fun F v=>rb F x v);have hmid:Hid (∀ F r v,r≠[]→yb F (x::r) v=if (zL x).2=true∧(zL x).1≤255 then yb F r (v*256+(zL x).1) else none):=KZ9 (fun F r v h=>qG F x r v h);obtain ⟨m,hm2⟩:=KZ6 (zL x);rw [←hm2] at hlst hmid hle;simp only [←hm2] at hd;clear hm2;obtain ⟨m,ok⟩:=m;simp only at hd hlst hmid hle;have HD:=KZ9 hd;have hvk2:=hvk hlt;clear hd hvk;by_cases hl:k+1<1
     ·exfalso;omega
     have hkn:k+1=1:=by omega
     have hdr:L.drop (k+1)=[]:=List.drop_of_length_le (by rw [HN.out];omega);have hnx:Hid (yb 32 L 0=if ok=true∧m<4294967296 then some (v*4294967296+m) else none):=KZ9 (by rw [hst2.out,hdr,hlst.out]);have hdn:Hid (yb 32 (L.drop (k+1)) (v*4294967296+m)=some (v*4294967296+m)):=KZ9 (by rw [hdr];rfl);have hv5:v<1:=by
      have hk2:k=0:=by omega
      rw [hk2] at hvk2;exact hvk2
     have hl':(1:Int) - 1≤(k:Int):=by omega
     have hl3:decide ((k:Int)<0)=false:=KZ8 (by omega);clear hst2 hdr hlst hmid hvk2;cases ok
     ·have hend:Hid (R=(0,false)):=KZ9 (by rw [hfin.out,hnx.out,if_neg (by simp)];rfl);clear hnx hdn;go_wp2_with fail
      refine (HD.out _).mono ?_;rintro e w2 ⟨rfl,rfl⟩;go_wp2
      all_goals try omega
      (try rw [Exit.noGoto_ret])
      go_ret2;rw [hend.out];exact ⟨rfl,hb⟩
     by_cases hn5:4294967296≤m
     ·have g2:decide ((4294967296:Int)≤(m:Int))=true:=KZ7 (by omega);have hend:Hid (R=(0,false)):=KZ9 (by rw [hfin.out,hnx.out,if_neg (by omega)];rfl);clear hnx hdn;go_wp2_with fail
      refine (HD.out _).mono ?_;rintro e w2 ⟨rfl,rfl⟩;go_wp2
      all_goals try omega
      (try rw [Exit.noGoto_ret])
      go_ret2;rw [hend.out];exact ⟨rfl,hb⟩
     have g2:decide ((4294967296:Int)≤(m:Int))=false:=KZ8 (by omega);have hnx2:Hid (yb 32 L 0=yb 32 (L.drop (k+1)) (v*4294967296+m)):=KZ9 (by rw [hnx.out,if_pos ⟨rfl,by omega⟩,hdn.out]);clear hnx hdn;go_wp2_with fail
     refine (HD.out _).mono ?_;rintro e w2 ⟨rfl,rfl⟩;go_wp2
     all_goals try omega
     go_round
     case rel=>exact ⟨k+1,v*4294967296+m,by go_num,by omega,by first | rfl | (rw [vZ v m 32 4294967296 (by decide) (by omega) (by omega) (by omega) (by omega)]) | (have ho:=vZ v m 32 4294967296 (by decide) (by omega) (by omega) (by omega) (by omega);simpa using ho),by omega,fun h=>absurd h (by omega),hnx2⟩
     case measure=>simp [intOf];omega
    obtain rfl:k=1:=by omega
    have hend:Hid (R=(v,true)):=KZ9 (by rw [hfin.out,hst.out,List.drop_of_length_le (by rw [HN.out];omega)];rfl);have m1:(v:Int) % 4294967296=(v:Int):=by omega
    clear hst;go_wp2
    (try rw [Exit.noGoto_ret])
    go_ret2;rw [hend.out];exact ⟨rfl,hb⟩
  ·have hfin:Hid (R=cV (yb 24 L 0)):=hfin;go_wp2;go_step3;go_wp2;go_loop [5,18] (fun vv iv=>∃ (k v:Nat),iv= .int .i64 k∧k≤2∧vv= .int .i64 v∧v<4294967296∧(k<2→v<256 ^ k)∧Hid (yb 24 L 0=yb 24 (L.drop k) v)) (fun _ iv=>2 - (intOf iv).toNat)
   case atStart=>exact ⟨0,0,rfl,by omega,rfl,by omega,fun _=>by simp,KZ9 rfl⟩
   case round =>
    obtain ⟨k,v,rfl,hk,rfl,hv,hvk,hst⟩:=hrel;by_cases hlt:k<2
    ·obtain ⟨b,off,rfl,hb1,hcell⟩:=HC.out (by rw [HN.out];omega);have hkl:k<L.length:=by rw [HN.out];exact hlt
     have c0:=hcell k hkl;have hlen:=HLEN.out L[k] (List.getElem_mem hkl);have hst2:Hid (yb 24 L 0=yb 24 (L[k]::L.drop (k+1)) v):=KZ9 (by rw [hst.out,List.drop_eq_getElem_cons hkl]);obtain ⟨x,hx⟩:=KZ6 (L[k]);rw [←hx] at c0 hlen hst2;clear hcell hst hx hkl;have hd:=fun W=>KZZ (mk x) W (by rw [zi];omega);simp only [zk] at hd;have hle:=ju x;have hlst:Hid (∀ F v,yb F [x] v=if (zL x).2=true∧(zL x).1<2 ^ F then some (v*2 ^ F+(zL x).1) else none):=KZ9 (fun F v=>rb F x v);have hmid:Hid (∀ F r v,r≠[]→yb F (x::r) v=if (zL x).2=true∧(zL x).1≤255 then yb F r (v*256+(zL x).1) else none):=KZ9 (fun F r v h=>qG F x r v h);obtain ⟨m,hm2⟩:=KZ6 (zL x);rw [←hm2] at hlst hmid hle;simp only [←hm2] at hd;clear hm2;obtain ⟨m,ok⟩:=m;simp only at hd hlst hmid hle;have HD:=KZ9 hd;have hvk2:=hvk hlt;clear hd hvk;by_cases hl:k+1<2
     ·have hne:L.drop (k+1)≠[]:=fun e=>by have:=congrArg List.length e;rw [List.length_drop,HN.out] at this;simp at this;omega
      have hnx:Hid (yb 24 L 0=if ok=true∧m≤255 then yb 24 (L.drop (k+1)) (v*256+m) else none):=KZ9 (by rw [hst2.out,hmid.out _ _ _ hne]);have hl':(k:Int)<2 - 1:=by omega
      have hl3:(k:Int)<1:=by omega
      clear hst2 hne hlst hmid;cases ok
      ·have hend:Hid (R=(0,false)):=KZ9 (by rw [hfin.out,hnx.out,if_neg (by simp)];rfl);clear hnx;go_wp2_with fail
       refine (HD.out _).mono ?_;rintro e w2 ⟨rfl,rfl⟩;go_wp2
       all_goals try omega
       (try rw [Exit.noGoto_ret])
       go_ret2;rw [hend.out];exact ⟨rfl,hb⟩
      by_cases hn5:255<m
      ·have g2:(255:Int)<(m:Int):=by omega
       have hend:Hid (R=(0,false)):=KZ9 (by rw [hfin.out,hnx.out,if_neg (by simp;omega)];rfl);clear hnx;go_wp2_with fail
       refine (HD.out _).mono ?_;rintro e w2 ⟨rfl,rfl⟩;go_wp2
       all_goals try omega
       (try rw [Exit.noGoto_ret])
       go_ret2;rw [hend.out];exact ⟨rfl,hb⟩
      have g2:¬ ((255:Int)<(m:Int)):=by omega
      have hnx2:Hid (yb 24 L 0=yb 24 (L.drop (k+1)) (v*256+m)):=KZ9 (by rw [hnx.out,if_pos ⟨rfl,by omega⟩]);have hv3:v<65536:=by
       have:(256:Nat) ^ k≤256 ^ 2:=Nat.pow_le_pow_right (by decide) (by omega);omega
      have ho:bits .or .i64 ((v:Int)*256) (m:Int)=((v*256+m:Nat):Int):=vZ v m 8 256 (by decide) (by omega) (by omega) (by omega) (by omega);have H256:Hid (v*256+m<256 ^ (k+1)):=KZ9 (by rw [Nat.pow_succ];generalize (256:Nat) ^ k=q at hvk2;omega);clear hnx hvk2;go_wp2_with fail
      refine (HD.out _).mono ?_;rintro e w2 ⟨rfl,rfl⟩;go_wp2
      all_goals try omega
      go_round
      case rel=>exact ⟨k+1,v*256+m,by go_num,by omega,by first | rfl | (rw [ho]),by omega,fun _=>H256.out,hnx2⟩
      case measure=>simp [intOf];omega
     have hkn:k+1=2:=by omega
     have hdr:L.drop (k+1)=[]:=List.drop_of_length_le (by rw [HN.out];omega);have hnx:Hid (yb 24 L 0=if ok=true∧m<16777216 then some (v*16777216+m) else none):=KZ9 (by rw [hst2.out,hdr,hlst.out]);have hdn:Hid (yb 24 (L.drop (k+1)) (v*16777216+m)=some (v*16777216+m)):=KZ9 (by rw [hdr];rfl);have hv5:v<256:=by
      have hk2:k=1:=by omega
      rw [hk2] at hvk2;exact hvk2
     have hl':(2:Int) - 1≤(k:Int):=by omega
     have hl3:decide ((k:Int)<1)=false:=KZ8 (by omega);clear hst2 hdr hlst hmid hvk2;cases ok
     ·have hend:Hid (R=(0,false)):=KZ9 (by rw [hfin.out,hnx.out,if_neg (by simp)];rfl);clear hnx hdn;go_wp2_with fail
      refine (HD.out _).mono ?_;rintro e w2 ⟨rfl,rfl⟩;go_wp2
      all_goals try omega
      (try rw [Exit.noGoto_ret])
      go_ret2;rw [hend.out];exact ⟨rfl,hb⟩
     by_cases hn5:16777216≤m
     ·have g2:decide ((16777216:Int)≤(m:Int))=true:=KZ7 (by omega);have hend:Hid (R=(0,false)):=KZ9 (by rw [hfin.out,hnx.out,if_neg (by omega)];rfl);clear hnx hdn;go_wp2_with fail
      refine (HD.out _).mono ?_;rintro e w2 ⟨rfl,rfl⟩;go_wp2
      all_goals try omega
      (try rw [Exit.noGoto_ret])
      go_ret2;rw [hend.out];exact ⟨rfl,hb⟩
     have g2:decide ((16777216:Int)≤(m:Int))=false:=KZ8 (by omega);have hnx2:Hid (yb 24 L 0=yb 24 (L.drop (k+1)) (v*16777216+m)):=KZ9 (by rw [hnx.out,if_pos ⟨rfl,by omega⟩,hdn.out]);clear hnx hdn;go_wp2_with fail
     refine (HD.out _).mono ?_;rintro e w2 ⟨rfl,rfl⟩;go_wp2
     all_goals try omega
     go_round
     case rel=>exact ⟨k+1,v*16777216+m,by go_num,by omega,by first | rfl | (rw [vZ v m 24 16777216 (by decide) (by omega) (by omega) (by omega) (by omega)]) | (have ho:=vZ v m 24 16777216 (by decide) (by omega) (by omega) (by omega) (by omega);simpa using ho),by omega,fun h=>absurd h (by omega),hnx2⟩
     case measure=>simp [intOf];omega
    obtain rfl:k=2:=by omega
    have hend:Hid (R=(v,true)):=KZ9 (by rw [hfin.out,hst.out,List.drop_of_length_le (by rw [HN.out];omega)];rfl);have m1:(v:Int) % 4294967296=(v:Int):=by omega
    clear hst;go_wp2
    (try rw [Exit.noGoto_ret])
    go_ret2;rw [hend.out];exact ⟨rfl,hb⟩
  ·have hfin:Hid (R=cV (yb 16 L 0)):=hfin;go_wp2;go_step3;go_wp2;go_loop [5,18] (fun vv iv=>∃ (k v:Nat),iv= .int .i64 k∧k≤3∧vv= .int .i64 v∧v<4294967296∧(k<3→v<256 ^ k)∧Hid (yb 16 L 0=yb 16 (L.drop k) v)) (fun _ iv=>3 - (intOf iv).toNat)
   case atStart=>exact ⟨0,0,rfl,by omega,rfl,by omega,fun _=>by simp,KZ9 rfl⟩
   case round =>
    obtain ⟨k,v,rfl,hk,rfl,hv,hvk,hst⟩:=hrel;by_cases hlt:k<3
    ·obtain ⟨b,off,rfl,hb1,hcell⟩:=HC.out (by rw [HN.out];omega);have hkl:k<L.length:=by rw [HN.out];exact hlt
     have c0:=hcell k hkl;have hlen:=HLEN.out L[k] (List.getElem_mem hkl);have hst2:Hid (yb 16 L 0=yb 16 (L[k]::L.drop (k+1)) v):=KZ9 (by rw [hst.out,List.drop_eq_getElem_cons hkl]);obtain ⟨x,hx⟩:=KZ6 (L[k]);rw [←hx] at c0 hlen hst2;clear hcell hst hx hkl;have hd:=fun W=>KZZ (mk x) W (by rw [zi];omega);simp only [zk] at hd;have hle:=ju x;have hlst:Hid (∀ F v,yb F [x] v=if (zL x).2=true∧(zL x).1<2 ^ F then some (v*2 ^ F+(zL x).1) else none):=KZ9 (fun F v=>rb F x v);have hmid:Hid (∀ F r v,r≠[]→yb F (x::r) v=if (zL x).2=true∧(zL x).1≤255 then yb F r (v*256+(zL x).1) else none):=KZ9 (fun F r v h=>qG F x r v h);obtain ⟨m,hm2⟩:=KZ6 (zL x);rw [←hm2] at hlst hmid hle;simp only [←hm2] at hd;clear hm2;obtain ⟨m,ok⟩:=m;simp only at hd hlst hmid hle;have HD:=KZ9 hd;have hvk2:=hvk hlt;clear hd hvk;by_cases hl:k+1<3
     ·have hne:L.drop (k+1)≠[]:=fun e=>by have:=congrArg List.length e;rw [List.length_drop,HN.out] at this;simp at this;omega
      have hnx:Hid (yb 16 L 0=if ok=true∧m≤255 then yb 16 (L.drop (k+1)) (v*256+m) else none):=KZ9 (by rw [hst2.out,hmid.out _ _ _ hne]);have hl':(k:Int)<3 - 1:=by omega
      have hl3:(k:Int)<2:=by omega
      clear hst2 hne hlst hmid;cases ok
      ·have hend:Hid (R=(0,false)):=KZ9 (by rw [hfin.out,hnx.out,if_neg (by simp)];rfl);clear hnx;go_wp2_with fail
       refine (HD.out _).mono ?_;rintro e w2 ⟨rfl,rfl⟩;go_wp2
       all_goals try omega
       (try rw [Exit.noGoto_ret])
       go_ret2;rw [hend.out];exact ⟨rfl,hb⟩
      by_cases hn5:255<m
      ·have g2:(255:Int)<(m:Int):=by omega
       have hend:Hid (R=(0,false)):=KZ9 (by rw [hfin.out,hnx.out,if_neg (by simp;omega)];rfl);clear hnx;go_wp2_with fail
       refine (HD.out _).mono ?_;rintro e w2 ⟨rfl,rfl⟩;go_wp2
       all_goals try omega
       (try rw [Exit.noGoto_ret])
       go_ret2;rw [hend.out];exact ⟨rfl,hb⟩
      have g2:¬ ((255:Int)<(m:Int)):=by omega
      have hnx2:Hid (yb 16 L 0=yb 16 (L.drop (k+1)) (v*256+m)):=KZ9 (by rw [hnx.out,if_pos ⟨rfl,by omega⟩]);have hv3:v<65536:=by
       have:(256:Nat) ^ k≤256 ^ 2:=Nat.pow_le_pow_right (by decide) (by omega);omega
      have ho:bits .or .i64 ((v:Int)*256) (m:Int)=((v*256+m:Nat):Int):=vZ v m 8 256 (by decide) (by omega) (by omega) (by omega) (by omega);have H256:Hid (v*256+m<256 ^ (k+1)):=KZ9 (by rw [Nat.pow_succ];generalize (256:Nat) ^ k=q at hvk2;omega);clear hnx hvk2;go_wp2_with fail
      refine (HD.out _).mono ?_;rintro e w2 ⟨rfl,rfl⟩;go_wp2
      all_goals try omega
      go_round
      case rel=>exact ⟨k+1,v*256+m,by go_num,by omega,by first | rfl | (rw [ho]),by omega,fun _=>H256.out,hnx2⟩
      case measure=>simp [intOf];omega
     have hkn:k+1=3:=by omega
     have hdr:L.drop (k+1)=[]:=List.drop_of_length_le (by rw [HN.out];omega);have hnx:Hid (yb 16 L 0=if ok=true∧m<65536 then some (v*65536+m) else none):=KZ9 (by rw [hst2.out,hdr,hlst.out]);have hdn:Hid (yb 16 (L.drop (k+1)) (v*65536+m)=some (v*65536+m)):=KZ9 (by rw [hdr];rfl);have hv5:v<65536:=by
      have hk2:k=2:=by omega
      rw [hk2] at hvk2;exact hvk2
     have hl':(3:Int) - 1≤(k:Int):=by omega
     have hl3:decide ((k:Int)<2)=false:=KZ8 (by omega);clear hst2 hdr hlst hmid hvk2;cases ok
     ·have hend:Hid (R=(0,false)):=KZ9 (by rw [hfin.out,hnx.out,if_neg (by simp)];rfl);clear hnx hdn;go_wp2_with fail
      refine (HD.out _).mono ?_;rintro e w2 ⟨rfl,rfl⟩;go_wp2
      all_goals try omega
      (try rw [Exit.noGoto_ret])
      go_ret2;rw [hend.out];exact ⟨rfl,hb⟩
     by_cases hn5:65536≤m
     ·have g2:decide ((65536:Int)≤(m:Int))=true:=KZ7 (by omega);have hend:Hid (R=(0,false)):=KZ9 (by rw [hfin.out,hnx.out,if_neg (by omega)];rfl);clear hnx hdn;go_wp2_with fail
      refine (HD.out _).mono ?_;rintro e w2 ⟨rfl,rfl⟩;go_wp2
      all_goals try omega
      (try rw [Exit.noGoto_ret])
      go_ret2;rw [hend.out];exact ⟨rfl,hb⟩
     have g2:decide ((65536:Int)≤(m:Int))=false:=KZ8 (by omega);have hnx2:Hid (yb 16 L 0=yb 16 (L.drop (k+1)) (v*65536+m)):=KZ9 (by rw [hnx.out,if_pos ⟨rfl,by omega⟩,hdn.out]);clear hnx hdn;go_wp2_with fail
     refine (HD.out _).mono ?_;rintro e w2 ⟨rfl,rfl⟩;go_wp2
     all_goals try omega
     go_round
     case rel=>exact ⟨k+1,v*65536+m,by go_num,by omega,by first | rfl | (rw [vZ v m 16 65536 (by decide) (by omega) (by omega) (by omega) (by omega)]) | (have ho:=vZ v m 16 65536 (by decide) (by omega) (by omega) (by omega) (by omega);simpa using ho),by omega,fun h=>absurd h (by omega),hnx2⟩
     case measure=>simp [intOf];omega
    obtain rfl:k=3:=by omega
    have hend:Hid (R=(v,true)):=KZ9 (by rw [hfin.out,hst.out,List.drop_of_length_le (by rw [HN.out];omega)];rfl);have m1:(v:Int) % 4294967296=(v:Int):=by omega
    clear hst;go_wp2
    (try rw [Exit.noGoto_ret])
    go_ret2;rw [hend.out];exact ⟨rfl,hb⟩
  have hfin:Hid (R=cV (yb 8 L 0)):=hfin;go_wp2;go_step3;go_wp2;go_loop [5,18] (fun vv iv=>∃ (k v:Nat),iv= .int .i64 k∧k≤4∧vv= .int .i64 v∧v<4294967296∧(k<4→v<256 ^ k)∧Hid (yb 8 L 0=yb 8 (L.drop k) v)) (fun _ iv=>4 - (intOf iv).toNat)
  case atStart=>exact ⟨0,0,rfl,by omega,rfl,by omega,fun _=>by simp,KZ9 rfl⟩
  case round =>
   obtain ⟨k,v,rfl,hk,rfl,hv,hvk,hst⟩:=hrel;by_cases hlt:k<4
   ·obtain ⟨b,off,rfl,hb1,hcell⟩:=HC.out (by rw [HN.out];omega);have hkl:k<L.length:=by rw [HN.out];exact hlt
    have c0:=hcell k hkl;have hlen:=HLEN.out L[k] (List.getElem_mem hkl);have hst2:Hid (yb 8 L 0=yb 8 (L[k]::L.drop (k+1)) v):=KZ9 (by rw [hst.out,List.drop_eq_getElem_cons hkl]);obtain ⟨x,hx⟩:=KZ6 (L[k]);rw [←hx] at c0 hlen hst2;clear hcell hst hx hkl;have hd:=fun W=>KZZ (mk x) W (by rw [zi];omega);simp only [zk] at hd;have hle:=ju x;have hlst:Hid (∀ F v,yb F [x] v=if (zL x).2=true∧(zL x).1<2 ^ F then some (v*2 ^ F+(zL x).1) else none):=KZ9 (fun F v=>rb F x v);have hmid:Hid (∀ F r v,r≠[]→yb F (x::r) v=if (zL x).2=true∧(zL x).1≤255 then yb F r (v*256+(zL x).1) else none):=KZ9 (fun F r v h=>qG F x r v h);obtain ⟨m,hm2⟩:=KZ6 (zL x);rw [←hm2] at hlst hmid hle;simp only [←hm2] at hd;clear hm2;obtain ⟨m,ok⟩:=m;simp only at hd hlst hmid hle;have HD:=KZ9 hd;have hvk2:=hvk hlt;clear hd hvk;by_cases hl:k+1<4
    ·have hne:L.drop (k+1)≠[]:=fun e=>by have:=congrArg List.length e;rw [List.length_drop,HN.out] at this;simp at this;omega
     have hnx:Hid (yb 8 L 0=if ok=true∧m≤255 then yb 8 (L.drop (k+1)) (v*256+m) else none):=KZ9 (by rw [hst2.out,hmid.out _ _ _ hne]);have hl':(k:Int)<4 - 1:=by omega
     have hl3:(k:Int)<3:=by omega
     clear hst2 hne hlst hmid;cases ok
     ·have hend:Hid (R=(0,false)):=KZ9 (by rw [hfin.out,hnx.out,if_neg (by simp)];rfl);clear hnx;go_wp2_with fail
      refine (HD.out _).mono ?_;rintro e w2 ⟨rfl,rfl⟩;go_wp2
      all_goals try omega
      (try rw [Exit.noGoto_ret])
      go_ret2;rw [hend.out];exact ⟨rfl,hb⟩
     by_cases hn5:255<m
     ·have g2:(255:Int)<(m:Int):=by omega
      have hend:Hid (R=(0,false)):=KZ9 (by rw [hfin.out,hnx.out,if_neg (by simp;omega)];rfl);clear hnx;go_wp2_with fail
      refine (HD.out _).mono ?_;rintro e w2 ⟨rfl,rfl⟩;go_wp2
      all_goals try omega
      (try rw [Exit.noGoto_ret])
      go_ret2;rw [hend.out];exact ⟨rfl,hb⟩
     have g2:¬ ((255:Int)<(m:Int)):=by omega
     have hnx2:Hid (yb 8 L 0=yb 8 (L.drop (k+1)) (v*256+m)):=KZ9 (by rw [hnx.out,if_pos ⟨rfl,by omega⟩]);have hv3:v<65536:=by
      have:(256:Nat) ^ k≤256 ^ 2:=Nat.pow_le_pow_right (by decide) (by omega);omega
     have ho:bits .or .i64 ((v:Int)*256) (m:Int)=((v*256+m:Nat):Int):=vZ v m 8 256 (by decide) (by omega) (by omega) (by omega) (by omega);have H256:Hid (v*256+m<256 ^ (k+1)):=KZ9 (by rw [Nat.pow_succ];generalize (256:Nat) ^ k=q at hvk2;omega);clear hnx hvk2;go_wp2_with fail
     refine (HD.out _).mono ?_;rintro e w2 ⟨rfl,rfl⟩;go_wp2
     all_goals try omega
     go_round
     case rel=>exact ⟨k+1,v*256+m,by go_num,by omega,by first | rfl | (rw [ho]),by omega,fun _=>H256.out,hnx2⟩
     case measure=>simp [intOf];omega
    have hkn:k+1=4:=by omega
    have hdr:L.drop (k+1)=[]:=List.drop_of_length_le (by rw [HN.out];omega);have hnx:Hid (yb 8 L 0=if ok=true∧m<256 then some (v*256+m) else none):=KZ9 (by rw [hst2.out,hdr,hlst.out]);have hdn:Hid (yb 8 (L.drop (k+1)) (v*256+m)=some (v*256+m)):=KZ9 (by rw [hdr];rfl);have hv5:v<16777216:=by
     have hk2:k=3:=by omega
     rw [hk2] at hvk2;exact hvk2
    have hl':(4:Int) - 1≤(k:Int):=by omega
    have hl3:decide ((k:Int)<3)=false:=KZ8 (by omega);clear hst2 hdr hlst hmid hvk2;cases ok
    ·have hend:Hid (R=(0,false)):=KZ9 (by rw [hfin.out,hnx.out,if_neg (by simp)];rfl);clear hnx hdn;go_wp2_with fail
     refine (HD.out _).mono ?_;rintro e w2 ⟨rfl,rfl⟩;go_wp2
     all_goals try omega
     (try rw [Exit.noGoto_ret])
     go_ret2;rw [hend.out];exact ⟨rfl,hb⟩
    by_cases hn5:256≤m
    ·have g2:decide ((256:Int)≤(m:Int))=true:=KZ7 (by omega);have hend:Hid (R=(0,false)):=KZ9 (by rw [hfin.out,hnx.out,if_neg (by omega)];rfl);clear hnx hdn;go_wp2_with fail
     refine (HD.out _).mono ?_;rintro e w2 ⟨rfl,rfl⟩;go_wp2
     all_goals try omega
     (try rw [Exit.noGoto_ret])
     go_ret2;rw [hend.out];exact ⟨rfl,hb⟩
    have g2:decide ((256:Int)≤(m:Int))=false:=KZ8 (by omega);have hnx2:Hid (yb 8 L 0=yb 8 (L.drop (k+1)) (v*256+m)):=KZ9 (by rw [hnx.out,if_pos ⟨rfl,by omega⟩,hdn.out]);clear hnx hdn;go_wp2_with fail
    refine (HD.out _).mono ?_;rintro e w2 ⟨rfl,rfl⟩;go_wp2
    all_goals try omega
    go_round
    case rel=>exact ⟨k+1,v*256+m,by go_num,by omega,by first | rfl | (rw [vZ v m 8 256 (by decide) (by omega) (by omega) (by omega) (by omega)]) | (have ho:=vZ v m 8 256 (by decide) (by omega) (by omega) (by omega) (by omega);simpa using ho),by omega,fun h=>absurd h (by omega),hnx2⟩
    case measure=>simp [intOf];omega
   obtain rfl:k=4:=by omega
   have hend:Hid (R=(v,true)):=KZ9 (by rw [hfin.out,hst.out,List.drop_of_length_le (by rw [HN.out];omega)];rfl);have m1:(v:Int) % 4294967296=(v:Int):=by omega
   clear hst;go_wp2
   (try rw [Exit.noGoto_ret])
   go_ret2;rw [hend.out];exact ⟨rfl,hb⟩
 have hend:Hid (R=(0,false)):=KZ9 (by rw [hpv.out,if_neg h4]);have g1:(4:Int)<(n:Int):=by omega
 clear hpv;go_wp2_with fail
 all_goals try omega
 (try rw [Exit.noGoto_ret])
 go_ret2;rw [hend.out];exact ⟨rfl,hb⟩
end Go.Proofs.YtbnnlkdhpifpeaaGreatDoor
namespace Hs
open Go
def okT (l:Bs):Prop:=∀ b∈l,b≠91
theorem jt {a b:Bs} (h:okT b) (hs:∀ x∈a,x∈b):okT a:=fun x hx=>h x (hs x hx)
theorem T1 {l:Bs} (h:okT l) (k:Nat):okT (l.take k):=jt h (fun _ hx=>List.mem_of_mem_take hx)
theorem ZJ {l:Bs} (h:okT l) (k:Nat):okT (l.drop k):=jt h (fun _ hx=>List.mem_of_mem_drop hx)
theorem T2 {l:Bs} (h:okT l):l.head? ≠some 91:=fun e=>h 91 (List.mem_of_head? e) rfl
theorem YA (l:Bs):(vj l).length≤l.length:=by
 unfold vj Lib.trimSuffix;split
 ·rw [List.length_take];omega
 omega
theorem cw {x y:Bs} (h:wG x=some y):y.length≤63:=by
 unfold wG at h;split at h
 ·unfold vn at h;split at h
  ·cases h
  split at h
  ·rename_i h2;cases h;exact (qb h2).2
  cases h
 exact (qb (cx h)).2
theorem XN {x y:Bs} {r d:List Bs} {o:Option (List Bs)} (hs:o=(vE (x::r)).map (d++·)) (h:wG x=some y):o=(vE r).map ((d++[y])++·):=by
 rw [hs,vE,h];simp only;cases vE r<;>simp
theorem XO {x:Bs} {r d:List Bs} {o:Option (List Bs)} (hs:o=(vE (x::r)).map (d++·)) (h:wG x=none):o=none:=by
 rw [hs,vE,h];rfl
theorem Z7 (c:UInt8):∀ L:List Bs,(∀ y∈L,y.length≤63)→(wS c L).length≤64*L.length
 | [],_=>by simp [wS]
 | [p],h=>by have:=h p (List.mem_cons_self ..);show p.length≤_;simp;omega
 | p::q::r,h=>by
  have ih:=Z7 c (q::r) (fun y hy=>h y (List.mem_cons_of_mem _ hy));have:=h p (List.mem_cons_self ..);show (p++c::wS c (q::r)).length≤_;simp only [List.length_append,List.length_cons] at ih ⊢;omega
theorem WT (F:Nat):∀ (ps:List Bs) (v j r:Nat),ps≠[]→v<256 ^ j→yb F ps v=some r→r<256 ^ (j+ps.length - 1)*2 ^ F
 | [],v,j,r,h,_,_=>absurd rfl h
 | [p],v,j,r,_,hv,h=>by
  unfold yb at h;split at h
  ·rename_i hc;cases h;have h1:v+1≤256 ^ j:=hv;have h2:=Nat.mul_le_mul_right (2 ^ F) h1;rw [Nat.add_mul,Nat.one_mul] at h2;have e:j+[p].length - 1=j:=by simp
   rw [e];omega
  cases h
 | p::q::t,v,j,r,_,hv,h=>by
  unfold yb at h;split at h
  ·rename_i hc;have hv2:v*256+(zL p).1<256 ^ (j+1):=by
    rw [Nat.pow_succ];have:=Nat.mul_le_mul_right 256 (show v+1≤256 ^ j from hv);omega
   have:=WT F (q::t) _ (j+1) r (by simp) hv2 h;have e:j+1+(q::t).length - 1=j+(p::q::t).length - 1:=by simp;omega
   rw [e] at this;exact this
  cases h
theorem T3 (l:Bs):(qE l).1<4294967296:=by
 unfold qE;split
 ·rename_i h;refine WO (fun v hv=> ?_);have hp:=tz l;have:=WT _ (zZ l) 0 0 v (List.length_pos_iff.1 hp) (by simp) hv;have h4:(zZ l).length=1∨(zZ l).length=2∨(zZ l).length=3∨(zZ l).length=4:=by omega
  rcases h4 with h4 | h4 | h4 | h4<;>rw [h4] at this<;>simpa using this
 decide
theorem splitD_count (c:UInt8):∀ l:Bs,(zg c l).length≤l.length+1
 | []=>by simp [zg]
 | b::r=>by
  have ih:=splitD_count c r;rw [zg];split
  ·simp;omega
  cases hs:zg c r with
  | nil=>simp
  | cons x t=>rw [hs] at ih;simp at ih ⊢;omega
end Hs
namespace Go.Proofs.YtbnnlkdhpifpeaaGreatDoor
open Go.RowKit Hs
theorem R8 (s:ByteArray) (w:World) (hU:U8 w) (hs:s.size≤100000):Calls Tryz.prog 270 #[.string s] w fun e w'=>(∃ t c,e= .returned (.tuple #[.string t,.int .i64 c])∧((c=0∧wG (un s)=some (un t))∨(c≠0∧t=⟨#[]⟩∧wG (un s)=none)))∧Below w.heap.size w w':=by
 by_cases ha:gl (un s)=true
 ·rw [qq ha];exact pu s w (by omega) ha
 have ha2:gl (un s)=false:=by simpa using ha
 rw [show wG (un s)=wH (un s) from if_neg ha];exact kh s w hU hs ha2
theorem bu (s:ByteArray) (w:World) (hB:Base w) (hs:s.size≤100000000):Calls Tryz.prog 247 #[.string s,.string ⟨#[46]⟩] w fun e w'=>e= .returned (.slice (some ⟨w.heap.size,0,none⟩) (zg 46 (un s)).length (zg 46 (un s)).length)∧w'=w.alloc (.cells (scells (zg 46 (un s))).toArray 9):=by
 obtain ⟨_,⟨m,hm⟩,_⟩:=hB;refine (Tryz.strings_Split s ⟨#[46]⟩ m w (by omega) hm (by decide)).mono ?_;rintro e w' ⟨rfl,rfl⟩;have hlen:=Lib.splitB_all (⟨#[46]⟩:ByteArray) (by decide) 0 (Lib.countB s ⟨#[46]⟩) s rfl;have hmap:(Lib.splitB (⟨#[46]⟩:ByteArray) 0 (Lib.countB s ⟨#[46]⟩) s).map un=zg 46 (un s):=(Lib.splitB_data _ 0 _ s).trans (gR 46 (un s));have h2:(zg 46 (un s)).length=Lib.countB s ⟨#[46]⟩+1:=by rw [←hmap,List.length_map,hlen]
 have h3:scells (zg 46 (un s))=(Lib.splitB (⟨#[46]⟩:ByteArray) 0 (Lib.countB s ⟨#[46]⟩) s).map Value.string:=by
  rw [←hmap];unfold scells;rw [List.map_map];apply List.map_congr_left;intro x _;simp [Function.comp,x8]
 rw [h2,h3];exact ⟨rfl,rfl⟩
theorem XM (v:Value) (L:List Bs) (w:World) (hst:Strs w v L) (hl:(wS 46 L).length≤1000000) (hn:L.length≤1000000):Calls Tryz.prog 271 #[v,.string ⟨#[46]⟩] w fun e w'=>e= .returned (.string (mk (wS 46 L)))∧Below w.heap.size w w':=by
 obtain ⟨a,cap,rfl,h1,h2,hc⟩:=hst.open;cases L with
 | nil =>
  refine (Tryz.strings_Join_none a cap ⟨#[46]⟩ w).mono ?_;rintro e w' ⟨rfl,rfl⟩;exact ⟨rfl,Below.refl _ _⟩
 | cons x r =>
  obtain ⟨b,off,rfl,hb,hcell⟩:=hc (by simp);have hx:((x::r).map mk).length=(x::r).length:=by simp
  have hm:(((x::r).map mk).map (·.data.toList))=x::r:=by
   rw [List.map_map]
   conv=>rhs;rw [←List.map_id (x::r)]
   apply List.map_congr_left;intro y _;exact zk y
  have hj:Lib.join (((x::r).map mk).map (·.data.toList)) (⟨#[46]⟩:ByteArray).data.toList=wS 46 (x::r):=by
   rw [hm];exact uA 46 (x::r)
  have:=Tryz.strings_Join b off cap ((x::r).map mk) ⟨#[46]⟩ w (by
   intro j y hy;have hjl:j<(x::r).length:=by have:=(List.getElem?_eq_some_iff.1 hy).1;simpa using this
   rw [List.getElem?_map,List.getElem?_eq_getElem hjl] at hy;have hy:=Option.some.inj hy;rw [←hy];exact hcell j hjl) hb (by rw [hx];omega) (by rw [hx];exact h1) (by rw [hj];omega)
  rw [hj,hx] at this;exact this
theorem Tr {w:World} {g:Nat} {T:TypeId} {L:List Bs} (h:BlkL w g T (scells L)) (hn:L.length≤1000000):Strs w (.slice (some ⟨g,0,none⟩) L.length L.length) L:=by
 refine ⟨by simp [scells],_,_,rfl,Nat.le_refl _,by unfold maxLen;omega,.inr ⟨g,0,rfl,h.lt,fun j u hj=> ?_⟩⟩;rw [Nat.zero_add];exact h.c j u hj
theorem ze (w:World) {b:Nat} (g k:Nat) (v:Value) (hb:b≤g):Below b w (w.setCell ⟨g,k,none⟩ v):=⟨rfl,rfl,rfl,by simp,fun j hj=>Below.heap_setCell w ⟨g,k,none⟩ v j (fun e=>by have:j=g:=e;omega)⟩
theorem QD {l:Bs} {h:HostP} (e:Ra l=some h):rG h:=by
 unfold Ra at e;split at e
 ·cases hp:cR ((l.take (l.length - 1)).drop 1) with
  | none=>rw [hp] at e;cases e
  | some v =>
   rw [hp] at e;cases e;have:=ZG hp;exact ⟨this.1,trivial⟩
 cases e
theorem Vb {l:Bs} {h:HostP} (e:vF l=some h):rG h:=by
 unfold vF at e;split at e
 ·cases e
 split at e
 ·exact QD e
 split at e
 ·cases e
 unfold tv at e;split at e
 ·split at e
  ·cases e;exact ⟨rfl,trivial⟩
  cases e
 unfold Qm at e;split at e
 ·cases e
 unfold SE at e;split at e
 ·cases e
 split at e
 ·cases e
 cases e;exact ⟨rfl,trivial⟩
def bQ (o:Option HostP) (base:Nat) (w:World) (e:Ending) (w':World):Prop:=(∃ h c,e= .returned (.tuple #[.agg (zj h).toArray,.int .i64 c])∧((c=0∧o=some h)∨(c≠0∧h=zD∧o=none)))∧Below base w w'
theorem UI {l:Bs} (h:1024<l.length):vF l=none:=if_pos h
theorem UH {l:Bs} (h:¬ 1024<l.length) (hb:l.head? ≠some 91):vF l=match pctV l with
  | none=>none
  | some t=>tv (vj t):=by unfold vF;rw [if_neg h,if_neg hb];rfl
set_option maxRecDepth 20000
set_option maxHeartbeats 4000000
theorem Ss (s:ByteArray) (w:World) (hB:Base w) (h1:1024<s.size) (hs:s.size≤1000000):Calls Tryz.prog 209 #[.string s] w (bQ (vF (un s)) w.heap.size w):=by
 have hfin:=KZ9 (UI (l:=un s) (by rw [za];exact h1));have HS0:=KZ9 (heap_alloc_new w (.cells (zj zD).toArray 98));have g1:decide ((1024:Int)<(s.size:Int))=true:=KZ7 (by omega);go_enter Tryz.func209,Tryz.ntmps209
 go_wp2_with (first
  | refine wpList_store_row rfl 98 (.tmp 2) (.tmp 18) rfl w.heap.size (zj zD).toArray rfl rfl 98 _ HS0.out yl rfl (zh (vy zD)) ?_)
 all_goals try omega
 refine bodyPost_ret (zf rfl _ _ w.heap.size 98 _ _ rfl ((BlkL.new w 98 (zj zD)).setRow (zj zD)) Tryz.underlying98 rfl yl) rfl ?_;exact ⟨⟨zD,3,rfl,.inr ⟨by decide,rfl,hfin.out⟩⟩,below_setRow ((Below.refl _ w).alloc (Nat.le_refl _) _) (Nat.le_refl _) _⟩
set_option maxHeartbeats 8000000
theorem Sr (s:ByteArray) (w:World) (hB:Base w) (h1:s.size≤1024) (hb:(un s).head? ≠some 91) (hT:okT (un s)):Calls Tryz.prog 209 #[.string s] w (bQ (vF (un s)) w.heap.size w):=by
 have hdef:=UH (l:=un s) (by rw [za];omega) hb;have hbA:Below w.heap.size w (w.alloc (.cells (zj zD).toArray 98)):=(Below.refl _ w).alloc (Nat.le_refl _) _;have hr0:BlkL (w.alloc (.cells (zj zD).toArray 98)) w.heap.size 98 (zj zD):=BlkL.new w _ _;have hsz0:w.heap.size+1≤(w.alloc (.cells (zj zD).toArray 98)).heap.size:=by simp
 obtain ⟨W0,hW0⟩:=KZ6 (w.alloc (.cells (zj zD).toArray 98));rw [←hW0] at hbA hr0 hsz0;have HW0:=KZ9 ((Wm w).trans hW0.symm);have B0:=hB.below hbA;have HR0:=KZ9 hr0;clear hW0 hr0;have hp:=uN s 91 W0;rw [KZ8 hb] at hp;have HP:=KZ9 hp;have HDC:=KZ9 (St s W0 (by omega));have HDEF:=KZ9 hdef;have HT:=KZ9 hT;have HBB:=KZ9 hB;clear hp hb hB hdef hT;go_enter Tryz.func209,Tryz.ntmps209
 go_wp2_with fail
 all_goals try omega
 rw [HW0.out];refine HP.out.mono ?_;rintro e w1 ⟨rfl,rfl⟩;go_wp2_with fail
 all_goals try omega
 refine HDC.out.mono ?_;rintro e w1 ⟨⟨t,ok,rfl,hres⟩,hb1⟩;have hr1:=HR0.out.below (by omega) hb1;have hall1:=hbA.trans (hb1.mono (by omega));have B1:=B0.below hb1;have hs1:=hb1.size;have HR1:=KZ9 hr1;have HALL1:=KZ9 hall1;clear hb1 hbA hr1 hall1 HP HDC HW0 HR0 B0;rcases hres with ⟨rfl,hpt⟩ | ⟨rfl,rfl,hpn⟩
 ·have hd2:=HDEF.out;rw [hpt] at hd2;have hd2:vF (un s)=tv (vj (un t)):=hd2;have hlt:(un t).length≤s.size:=by have:=ks _ _ _ (Nat.le_refl _) hpt;rw [za] at this;exact this
  have hld:=YA (un t);have htr:=Z1 t w1 (by rw [←za];omega);obtain ⟨q,hq⟩:=KZ6 (vj (un t));rw [←hq] at hd2 hld htr;have hql:q.length≤1024:=by omega
  have HTR:=KZ9 htr;have HD2:=KZ9 hd2;have hnum:=qd (mk q) w1 B1 (by rw [zi];omega);rw [zk] at hnum;obtain ⟨nm,hnm⟩:=KZ6 (yz q);rw [←hnm] at hnum;have HN:=KZ9 hnum;have HNM:=KZ9 hnm;clear hd2 htr hq hpt hnum hnm HDEF HT hlt hld;go_wp2_with fail
  all_goals try omega
  refine HTR.out.mono ?_;rintro e w2 ⟨rfl,rfl⟩;go_wp2_with fail
  all_goals try omega
  refine HN.out.mono ?_;rintro e w2 ⟨rfl,hb2⟩;have hr2:=HR1.out.below (by omega) hb2;have hall2:=HALL1.out.trans (hb2.mono (by omega));have B2:=B1.below hb2;have hs2:=hb2.size;have HR2:=KZ9 hr2;have HALL2:=KZ9 hall2;clear hb2 hr2 hall2 HR1 HALL1 B1 HN HTR;cases nm
  ·have hd3:=HD2.out;unfold tv Qm at hd3;rw [←HNM.out,if_neg (by simp)] at hd3;have hsp:=bu (mk q) w2 B2 (by rw [zi];omega);rw [zk] at hsp;have hll:(zg 46 q).length≤1025:=by
    have:=splitD_count 46 q;omega
   have hle:∀ x∈zg 46 q,x.length≤1024:=fun x hx=>by have:=vW 46 q x hx;omega
   obtain ⟨L,hL⟩:=KZ6 (zg 46 q);simp only [←hL] at hd3 hsp hll hle;have HSP:=KZ9 hsp;have HLE:=KZ9 hle;have HD3:=KZ9 hd3;obtain ⟨g,hg⟩:=KZ6 w2.heap.size;obtain ⟨n,hn⟩:=KZ6 L.length;rw [←hn] at hll;clear hd3 hsp hL hle HD2 HNM;go_wp2_with fail
   all_goals try omega
   refine HSP.out.mono ?_;rintro e w3 ⟨rfl,rfl⟩;have hb3:Below w2.heap.size w2 (w2.alloc (.cells (scells L).toArray 9)):=(Below.refl _ w2).alloc (Nat.le_refl _) _;have hl3:BlkL (w2.alloc (.cells (scells L).toArray 9)) w2.heap.size 9 (scells L):=BlkL.new w2 _ _;have hr3:=HR2.out.below (by omega) hb3;have hall3:=HALL2.out.trans (hb3.mono (by omega));have B3:=B2.below hb3;have hs3:w2.heap.size+1≤(w2.alloc (.cells (scells L).toArray 9)).heap.size:=by simp
   obtain ⟨W3,hW3⟩:=KZ6 (w2.alloc (.cells (scells L).toArray 9));rw [←hW3] at hb3 hl3 hr3 hall3 B3 hs3 ⊢;rw [←hg] at hs3 hl3 ⊢;rw [←hn];have HL3:=KZ9 hl3;have HR3:=KZ9 hr3;have HALL3:=KZ9 hall3;have HNL:=KZ9 hn;have hgw:w.heap.size<g:=by omega
   clear hl3 hr3 hall3 hb3 hW3 HSP HR2 HALL2 B2 hn hg hs2 hs1;go_wp2
   all_goals try omega
   go_loopw [52] (fun iv wr=>∃ (k:Nat) (d:List Bs),iv= .int .i64 k∧k≤n∧d.length=k∧Hid (∀ y∈d,y.length≤63)∧g<wr.heap.size∧Hid (BlkL wr g 9 (scells (d++L.drop k)))∧Hid (BlkL wr w.heap.size 98 (zj zD))∧Hid (Below w.heap.size w wr)∧Hid (vE L=(vE (L.drop k)).map (d++·))) (fun iv _=>n - (intOf iv).toNat)
   case atStart=>exact ⟨0,[],rfl,by omega,rfl,KZ9 (by simp),by omega,KZ9 (by rw [List.drop_zero,List.nil_append];exact HL3.out),HR3,HALL3,KZ9 (by rw [List.drop_zero];cases vE L<;>simp)⟩
   case round =>
    obtain ⟨k,d,rfl,hk,hdl,hd63,hgr,hlr,hrr,hnx,hst⟩:=hrel;by_cases hlt:k<n
    ·have hkl:k<L.length:=by rw [←HNL.out];exact hlt
     have hdr:L.drop k=L[k]::L.drop (k+1):=List.drop_eq_getElem_cons hkl;have hst2:=hst.out;have hl2:=hlr.out;rw [hdr] at hst2 hl2;have hxl:=HLE.out L[k] (List.getElem_mem hkl);obtain ⟨x,hx⟩:=KZ6 (L[k]);rw [←hx] at hst2 hl2 hxl;have c0:wr.cell? ⟨g,k,none⟩=some (.string (mk x)):=hl2.c k _ (by simp [scells,hdl]);have htoa:=R8 (mk x) wr (HBB.out.below hnx.out).2.2 (by rw [zi];omega);rw [zk] at htoa;have HTO:=KZ9 htoa;have HST:=KZ9 hst2;have HL2:=KZ9 hl2;clear hst hst2 hlr hl2 hdr hx htoa;go_wp2_with fail
     all_goals try omega
     refine HTO.out.mono ?_;rintro e w4 ⟨⟨y,c,rfl,hres⟩,hb4⟩;have hs4:=hb4.size;have HL4:=KZ9 (HL2.out.below hgr hb4);have HR4:=KZ9 (hrr.out.below (by omega) hb4);have HNX4:=KZ9 (hnx.out.trans (hb4.mono (by have:=hnx.out.size;omega)));have f4:=HL4.out.f k;have c4:w4.cell? ⟨g,k,none⟩=some (.string (mk x)):=HL4.out.c k _ (by simp [scells,hdl]);clear hb4 HL2 hrr hnx HTO c0;rcases hres with ⟨rfl,hok⟩ | ⟨hc,rfl,hno⟩
     ·have hst5:=KZ9 (XN HST.out hok);have hy63:=cw hok;have hd2:Hid (∀ z∈d++[un y],z.length≤63):=KZ9 fun z hz=>by
       rcases List.mem_append.1 hz with hz | hz
       ·exact hd63.out z hz
       rw [List.mem_singleton.1 hz];exact hy63
      clear HST hok hd63 hy63;go_wp2
      all_goals try omega
      go_roundw
      case rel =>
       refine ⟨k+1,d++[un y],by go_num,by omega,by simp;omega,hd2,by simp;omega,KZ9 ?_,KZ9 (HR4.out.other (by omega) _ _),KZ9 ?_,hst5⟩
       ·have:=HL4.out.set k (by simp [scells,hdl]) (.string y);have e:(scells (d++x::L.drop (k+1))).set k (.string y)=scells (d++[un y]++L.drop (k+1)):=by
         have e0:scells (d++x::L.drop (k+1))=scells d++(.string (mk x)::scells (L.drop (k+1))):=by simp [scells]
         have e1:scells (d++[un y]++L.drop (k+1))=scells d++(.string y::scells (L.drop (k+1))):=by simp [scells,x8]
         have el:(scells d).length=k:=by simp [scells,hdl]
         rw [e0,e1,←el];simp
        rw [e] at this;exact this
       exact HNX4.out.trans (ze w4 _ _ _ (by omega))
      case measure=>simp [intOf];omega
     have hfin:vF (un s)=none:=by
      rw [HD3.out,XO HST.out hno]
     have HFIN:=KZ9 hfin;have g4:(c != 0)=true:=by simpa using hc
     have HC:=KZ9 hc;clear HST hno hfin hc;go_wp2_with (first
      | refine wpList_store_row rfl 98 (.tmp 2) (.tmp 64) rfl w.heap.size (zj zD).toArray rfl rfl 98 _ HR4.out yl rfl (zh (vy zD)) ?_)
     all_goals try omega
     refine bodyPost_ret (zf rfl _ _ w.heap.size 98 _ _ rfl (HR4.out.setRow (zj zD)) Tryz.underlying98 rfl yl) rfl ?_;exact ⟨⟨zD,c,rfl,.inr ⟨HC.out,rfl,HFIN.out⟩⟩,below_setRow HNX4.out (Nat.le_refl _) _⟩
    have hkn:k=n:=by omega
    have hdrop:L.drop k=[]:=List.drop_of_length_le (by rw [←HNL.out];omega);have hst2:=hst.out;have hl2:=hlr.out;rw [hdrop] at hst2 hl2;rw [List.append_nil] at hl2;have hlabs:vE L=some d:=by rw [hst2];simp [vE]
    have hd4:=HD3.out;rw [hlabs] at hd4;have hd4:vF (un s)=SE (wS 46 d):=hd4;have hjl:=Z7 46 d hd63.out;have hstr:=Tr hl2 (by omega);rw [hdl,hkn] at hstr;have hjo:=XM _ d wr hstr (by omega) (by omega);obtain ⟨N,hN⟩:=KZ6 (wS 46 d);rw [←hN] at hd4 hjl hjo;have HJ:=KZ9 hjo;have HD4:=KZ9 hd4;clear hst hst2 hlr hl2 hlabs hd4 hstr hjo hdrop hN hd63 HD3 HLE HNL;go_wp2_with fail
    all_goals try omega
    refine HJ.out.mono ?_;rintro e w5 ⟨rfl,hb5⟩;have hs5:=hb5.size;have HR5:=KZ9 (hrr.out.below (by omega) hb5);have HNX5:=KZ9 (hnx.out.trans (hb5.mono (by have:=hnx.out.size;omega)));have B5:=HBB.out.below HNX5.out;clear hb5 HJ hrr hnx;by_cases h253:253<N.length
    ·have hfin:=KZ9 (HD4.out.trans (if_pos h253));have g5:decide ((253:Int)<((mk N).size:Int))=true:=KZ7 (by rw [zi];omega);clear HD4;go_wp2_with (first
      | refine wpList_store_row rfl 98 (.tmp 2) (.tmp 77) rfl w.heap.size (zj zD).toArray rfl rfl 98 _ HR5.out yl rfl (zh (vy zD)) ?_)
     all_goals try omega
     refine bodyPost_ret (zf rfl _ _ w.heap.size 98 _ _ rfl (HR5.out.setRow (zj zD)) Tryz.underlying98 rfl yl) rfl ?_;exact ⟨⟨zD,3,rfl,.inr ⟨by decide,rfl,hfin.out⟩⟩,below_setRow HNX5.out (Nat.le_refl _) _⟩
    have hd5:=HD4.out;unfold SE at hd5;rw [if_neg h253] at hd5;have g5:decide ((253:Int)<((mk N).size:Int))=false:=KZ8 (by rw [zi];omega);have hnum:=qd (mk N) w5 B5 (by rw [zi];omega);rw [zk] at hnum;obtain ⟨nm,hnm⟩:=KZ6 (yz N);rw [←hnm] at hnum hd5;have HN:=KZ9 hnum;have HD5:=KZ9 hd5;clear hnum hnm hd5 HD4;go_wp2_with fail
    all_goals try omega
    refine HN.out.mono ?_;rintro e w6 ⟨rfl,hb6⟩;have HR6:=KZ9 (HR5.out.below (by omega) hb6);have HNX6:=KZ9 (HNX5.out.trans (hb6.mono (by have:=HNX5.out.size;omega)));clear hb6 HN HR5 HNX5;cases nm
    ·have hfin:=KZ9 (HD5.out.trans (if_neg (by simp)));go_wp2_with (first
      | refine wpList_store_row rfl 98 (.tmp 2) (.tmp 83) rfl w.heap.size (zj ⟨1,N,0,vG⟩).toArray rfl rfl 98 _ HR6.out yl rfl (zh (vy _)) ?_)
     all_goals try omega
     refine bodyPost_ret (zf rfl _ _ w.heap.size 98 _ _ rfl (HR6.out.setRow (zj ⟨1,N,0,vG⟩)) Tryz.underlying98 rfl yl) rfl ?_;exact ⟨⟨_,0,rfl,.inl ⟨rfl,hfin.out⟩⟩,below_setRow HNX6.out (Nat.le_refl _) _⟩
    have hfin:=KZ9 (HD5.out.trans (if_pos rfl));go_wp2_with (first
     | refine wpList_store_row rfl 98 (.tmp 2) (.tmp 81) rfl w.heap.size (zj zD).toArray rfl rfl 98 _ HR6.out yl rfl (zh (vy zD)) ?_)
    all_goals try omega
    refine bodyPost_ret (zf rfl _ _ w.heap.size 98 _ _ rfl (HR6.out.setRow (zj zD)) Tryz.underlying98 rfl yl) rfl ?_;exact ⟨⟨zD,14,rfl,.inr ⟨by decide,rfl,hfin.out⟩⟩,below_setRow HNX6.out (Nat.le_refl _) _⟩
  have hd3:=HD2.out;unfold tv at hd3;rw [←HNM.out,if_pos rfl] at hd3;have hns:=XR (mk q) w2 B2 (by rw [zi];omega);rw [zk] at hns;obtain ⟨⟨v,vok⟩,hv⟩:∃ v,v=qE q:=⟨_,rfl⟩;have hvl:=T3 q;rw [←hv] at hns hd3 hvl;simp only at hns hd3 hvl;have HNS:=KZ9 hns;have HD3:=KZ9 hd3;clear hns hd3 hv HD2 HNM;go_wp2_with fail
  all_goals try omega
  refine HNS.out.mono ?_;rintro e w3 ⟨rfl,hb3⟩;have HR3:=KZ9 (HR2.out.below (by omega) hb3);have HNX3:=KZ9 (HALL2.out.trans (hb3.mono (by have:=HALL2.out.size;omega)));clear hb3 HR2 HALL2 HNS;cases vok
  ·have hfin:=KZ9 (HD3.out.trans (if_neg (by simp)));go_wp2_with (first
    | refine wpList_store_row rfl 98 (.tmp 2) (.tmp 45) rfl w.heap.size (zj zD).toArray rfl rfl 98 _ HR3.out yl rfl (zh (vy zD)) ?_)
   all_goals try omega
   refine bodyPost_ret (zf rfl _ _ w.heap.size 98 _ _ rfl (HR3.out.setRow (zj zD)) Tryz.underlying98 rfl yl) rfl ?_;exact ⟨⟨zD,14,rfl,.inr ⟨by decide,rfl,hfin.out⟩⟩,below_setRow HNX3.out (Nat.le_refl _) _⟩
  have hfin:=KZ9 (HD3.out.trans (if_pos rfl));go_wp2_with (first
   | refine wpList_store_row rfl 98 (.tmp 2) (.tmp 47) rfl w.heap.size (zj ⟨2,[],v,vG⟩).toArray rfl rfl 98 _ HR3.out yl rfl (zh (vy _)) ?_)
  all_goals try omega
  refine bodyPost_ret (zf rfl _ _ w.heap.size 98 _ _ rfl (HR3.out.setRow (zj ⟨2,[],v,vG⟩)) Tryz.underlying98 rfl yl) rfl ?_;exact ⟨⟨_,0,rfl,.inl ⟨rfl,hfin.out⟩⟩,below_setRow HNX3.out (Nat.le_refl _) _⟩
 have hd2:=HDEF.out;rw [hpn] at hd2;have hfin:=KZ9 hd2;clear hd2 hpn HDEF HT;go_wp2_with (first
  | refine wpList_store_row rfl 98 (.tmp 2) (.tmp 33) rfl w.heap.size (zj zD).toArray rfl rfl 98 _ HR1.out yl rfl (zh (vy zD)) ?_)
 all_goals try omega
 refine bodyPost_ret (zf rfl _ _ w.heap.size 98 _ _ rfl (HR1.out.setRow (zj zD)) Tryz.underlying98 rfl yl) rfl ?_;exact ⟨⟨zD,14,rfl,.inr ⟨by decide,rfl,hfin.out⟩⟩,below_setRow HALL1.out (Nat.le_refl _) _⟩
theorem R7 (s:ByteArray) (w:World) (hB:Base w) (hs:s.size≤1000000) (hT:okT (un s)):Calls Tryz.prog 209 #[.string s] w (bQ (vF (un s)) w.heap.size w):=by
 by_cases h1:1024<s.size
 ·exact Ss s w hB h1 hs
 by_cases hb:(un s).head? =some 91
 ·exact absurd hb (T2 hT)
 exact Sr s w hB (by omega) hb hT
end Go.Proofs.YtbnnlkdhpifpeaaGreatDoor
namespace Hs
open Go
theorem Th {a:Bs} (h:zl 64 a<0):uS a=([],a):=by unfold uS;rw [if_pos h]
theorem Ti {a:Bs} {k:Nat} (h:zl 64 a=k):uS a=(a.take k,a.drop (k+1)):=by
 unfold uS;rw [h,if_neg (by omega)];simp
theorem Yg {a:Bs} {k:Nat} (hh:a.head? =some 91) (h:Lib.indexByte a 93=k):xd a=some (a.take (k+1),a.drop (k+1)):=by
 unfold xd;rw [if_pos hh,h,if_neg (by omega)];simp
theorem bH {a:Bs} (hh:a.head? =some 91) (h:Lib.indexByte a 93<0):xd a=none:=by
 unfold xd;rw [if_pos hh,if_pos h]
theorem bG {a:Bs} {k:Nat} (hh:a.head? ≠some 91) (h:Lib.indexByte a 58=k):xd a=some (a.take k,a.drop k):=by
 unfold xd;rw [if_neg hh,h,if_neg (by omega)];simp
theorem Yf {a:Bs} (hh:a.head? ≠some 91) (h:Lib.indexByte a 58<0):xd a=some (a,[]):=by
 unfold xd;rw [if_neg hh,if_pos h]
theorem VD (a:Bs):∀ x∈(uS a).2,x∈a:=by
 intro x hx;unfold uS at hx;split at hx
 ·exact hx
 exact List.mem_of_mem_drop hx
theorem VE (a:Bs):(uS a).2.length≤a.length:=by
 unfold uS;split
 ·exact Nat.le_refl _
 simp only [List.length_drop];omega
theorem bF {r nm tl:Bs} (h:xd r=some (nm,tl)):(∀ x∈nm,x∈r)∧nm.length≤r.length∧tl.length≤r.length:=by
 unfold xd at h;split at h
 ·split at h
  ·cases h
  cases h;exact ⟨fun x hx=>List.mem_of_mem_take hx,by rw [List.length_take];omega,by rw [List.length_drop];omega⟩
 split at h
 ·cases h;exact ⟨fun x hx=>hx,Nat.le_refl _,by simp⟩
 cases h;exact ⟨fun x hx=>List.mem_of_mem_take hx,by rw [List.length_take];omega,by rw [List.length_drop];omega⟩
theorem Xt {u:UrlP} {nm tl:Bs} (h:tl≠[]∧tl.head? ≠some 58):tw u nm tl=none:=if_pos h
theorem Ue {u:UrlP} {nm tl:Bs} (h:tl=[]∨tl.head? =some 58):tw u nm tl=match vF nm with
  | none=>none
  | some h=>match kp (tl.drop 1) with
   | none=>none
   | some p=>some { u with host:=h,port:=if p=zS u.scheme then u.port else p }:=by
 unfold tw;rw [if_neg (by rintro ⟨h1,h2⟩;rcases h with h | h<;>contradiction)];rfl
theorem vN (c:UInt8):∀ l:Bs,Lib.indexByte l c<l.length
 | []=>by simp [Lib.indexByte]
 | b::r=>by
  have ih:=vN c r;rw [Lib.indexByte];split
  ·simp
  split<;>simp<;>omega
end Hs
namespace Go.Proofs.YtbnnlkdhpifpeaaGreatDoor
open Go.RowKit Hs
def Wo (o:Option UrlP) (base:Nat) (w:World) (e:Ending) (w':World):Prop:=(∃ u c,e= .returned (.tuple #[.agg (zb u).toArray,.int .i64 c])∧((c=0∧o=some u)∨(c≠0∧u=zJ∧o=none)))∧Below base w w'
theorem pB (s:ByteArray) (k:Nat):s.extract 0 k=mk ((un s).take k):=by rw [yQ,jW]
theorem td (s:ByteArray) (k:Nat):s.extract k s.size=mk ((un s).drop k):=by rw [yQ,←za,jX]
set_option maxRecDepth 20000
set_option maxHeartbeats 8000000
theorem Ww (u:UrlP) (a:ByteArray) (w:World) (hB:Base w) (hw:xR u.host) (hu:u.user=[]) (hs:a.size≤100000) (hT:okT (un a)):Calls Tryz.prog 141 #[.agg (zb u).toArray,.string a] w (Wo (xA u (un a)) w.heap.size w):=by
 obtain ⟨W0,hW0⟩:=KZ6 ((w.alloc (.cells (zb u).toArray 100)).alloc (.cells (zb zJ).toArray 100));have hbA:Below w.heap.size w W0:=by rw [hW0];exact ((Below.refl _ w).alloc (Nat.le_refl _) _).alloc (by simp) _
 have hb0:BlkL W0 w.heap.size 100 (zb u):=by rw [hW0];exact (BlkL.new w _ _).alloc _
 have hr0:BlkL W0 (w.heap.size+1) 100 (zb zJ):=by
  rw [hW0];have:=BlkL.new (w.alloc (.cells (zb u).toArray 100)) 100 (zb zJ)
  simpa using this
 have HW0:Hid ((w.alloc (.cells (zb u).toArray 100)).alloc (.cells #[.string ⟨#[]⟩,.string ⟨#[]⟩,.int .i64 0,.string ⟨#[]⟩,.int .u32 0,.int .u16 0,.int .u16 0,.int .u16 0,.int .u16 0,.int .u16 0,.int .u16 0,.int .u16 0,.int .u16 0,.int .i64 0,.string ⟨#[]⟩] 100)=W0):=KZ9 hW0.symm;have hsz:W0.heap.size=w.heap.size+2:=by rw [hW0];simp
 clear hW0;have HBB:=KZ9 hB;have HLB:=KZ9 (tM a 64 W0 (by omega));have hlc:=zI 64 (un a);rw [za] at hlc;have hu1:=@Th (un a);have hu2:=fun k=>@Ti (un a) k;obtain ⟨q,hq⟩:=KZ6 (zl 64 (un a));rw [←hq] at HLB hlc hu1;simp only [←hq] at hu2;have HU1:=KZ9 hu1;have HU2:=KZ9 hu2;have HT:=KZ9 hT;obtain ⟨z,hz⟩:=KZ6 w.heap.size;obtain ⟨n,hn⟩:=KZ6 a.size;have HN:=KZ9 hn;have hsI:(a.size:Int)=(n:Int):=by rw [hn]
 rw [←hn] at hs hlc;clear hq hu1 hu2 hT hB hn;go_enter Tryz.func141,Tryz.ntmps141
 go_upto_region 1 with fail
 rw [HW0.out];clear HW0;go_wp2_with fail
 refine HLB.out.mono ?_;rintro e w1 ⟨rfl,rfl⟩;clear HLB;go_upto_if 18 with fail
 all_goals try omega
 go_cut [1] (fun s1 wx=>∃ usr rest,s1= .string (mk rest)∧Hid (uS (un a)=(usr,rest))∧Hid (BlkL wx w.heap.size 100 (zb { u with user:=usr }))∧Hid (BlkL wx (w.heap.size+1) 100 (zb zJ))∧Hid (Below w.heap.size w wx)∧w.heap.size+2≤wx.heap.size)
 case first =>
  by_cases hq0:q<0
  ·have g1:decide ((0:Int)≤q)=false:=KZ8 (by omega);have hup:=HU1.out hq0;have HUP:=KZ9 hup;clear hup HU2 HU1;go_wp2
   all_goals try omega
   go_meet;refine ⟨[],un a,by rw [x8],HUP,KZ9 ?_,KZ9 hr0,KZ9 hbA,by omega⟩;have:{ u with user:=[] }=u:=by cases u;simp at hu;simp [hu]
   rw [this];exact hb0
  obtain ⟨k,rfl⟩:∃ k:Nat,q=k:=⟨q.toNat,by omega⟩;have g1:decide ((0:Int)≤(k:Int))=true:=KZ7 (by omega);have HUP:=KZ9 (HU2.out k rfl);have hkn:k<n:=by omega
  have hI1:(0:Int)≤(k:Int):=by omega
  have hI2:(k:Int)≤(n:Int):=by omega
  have hI3:(0:Int)≤(k:Int)+1:=by omega
  have hI4:(k:Int)+1≤(n:Int):=by omega
  have hw1:IntKind.i64.wrap ((k:Int)+1)=(k:Int)+1:=by rw [IntKind.wrap_i64];omega
  have hx1:=pB a k;have hx2:=td a (k+1);have f1:=hb0.f 1;have c1:=hb0.c 1 _ rfl;clear HU2 HU1;go_upto_region 3 with fail
  all_goals try omega
  go_region_with (fail)
  all_goals
   go_wp2;go_meet;refine ⟨(un a).take k,(un a).drop (k+1),rfl,HUP,KZ9 (hb0.drew.set 1 (by simp [zb]) (.string (mk ((un a).take k)))),KZ9 (hr0.drew.other (by omega) _ _),KZ9 ((below_drewN hbA 1).trans (ze _ _ _ _ (Nat.le_refl _))),?_⟩;simp;omega
 case rest =>
 obtain ⟨usr,rest,rfl,hup,hB1,hR1,hA1,hsz1⟩:=hcut;have hTr:okT rest:=jt HT.out (by
  intro x hx;have h2:=congrArg Prod.snd hup.out;simp only at h2;rw [←h2] at hx;exact VD _ x hx)
 have hrl:rest.length≤n:=by
  have h2:=congrArg Prod.snd hup.out;simp only at h2;rw [←h2,HN.out,←za];exact VE _
 obtain ⟨V,hV⟩:=KZ6 (({ u with user:=usr }:UrlP));have hdef:Hid (xA u (un a)=match xd rest with
  | none=>none
  | some (nm,t)=>tw V nm t):=KZ9 (by unfold xA;rw [hup.out,hV];rfl)
 have hVw:xR V.host:=by rw [hV];exact hw
 rw [←hV] at hB1;have HTR:=KZ9 hTr;clear hbA hb0 hr0 hsz hu hw hV hup HU1 HU2 HT HN hsI hTr hlc;have HP:=KZ9 (uN (mk rest) 91 wc);rw [zk] at HP;obtain ⟨br,hbr⟩:=KZ6 (decide (rest.head? =some 91));rw [←hbr] at HP;have HBR:=KZ9 hbr;clear hbr;go_wp2_with fail
 refine HP.out.mono ?_;rintro e w2 ⟨rfl,rfl⟩;clear HP;go_upto_if 29 with fail
 all_goals try omega
 go_cut [7,8] (fun s7 s8 wx=>∃ nm tl,s7= .string (mk nm)∧s8= .string (mk tl)∧Hid (xd rest=some (nm,tl))∧Hid (BlkL wx w.heap.size 100 (zb V))∧Hid (BlkL wx (w.heap.size+1) 100 (zb zJ))∧Hid (Below w.heap.size w wx)∧w.heap.size+2≤wx.heap.size)
 case first =>
  cases br
  ·have hh:=of_decide_eq_false HBR.out.symm;have hI:=wg (mk rest) 58 wc;rw [zk] at hI;have hge:=Lib.indexByte_ge rest 58;have hlt:=vN 58 rest;have hp1:=fun k=>@bG rest k hh;have hp2:=@Yf rest hh;obtain ⟨ix,hix⟩:=KZ6 (Lib.indexByte rest 58);rw [←hix] at hI hge hlt hp2;simp only [←hix] at hp1;have HI:=KZ9 hI;have HP1:=KZ9 hp1;have HP2:=KZ9 hp2;clear hI hix hp1 hp2 hh;go_wp2_with fail
   refine HI.out.mono ?_;rintro e w3 ⟨rfl,rfl⟩;by_cases h0:ix<0
   ·have g1:decide ((0:Int)≤ix)=false:=KZ8 (by omega);have HPF:=KZ9 (HP2.out h0);clear HP1 HP2 HI;go_wp2
    all_goals try omega
    go_meet;exact ⟨rest,[],rfl,rfl,HPF,hB1,hR1,hA1,hsz1⟩
   obtain ⟨k,rfl⟩:∃ k:Nat,ix=k:=⟨ix.toNat,by omega⟩;have g1:decide ((0:Int)≤(k:Int))=true:=KZ7 (by omega);have HPF:=KZ9 (HP1.out k rfl);have hsr:(mk rest).size=rest.length:=zi rest;have hI1:(0:Int)≤(k:Int):=by omega
   have hI2:(k:Int)≤((mk rest).size:Int):=by omega
   have hx1:=pB (mk rest) k;have hx2:=td (mk rest) k;rw [zk] at hx1 hx2;rw [hsr] at hx2;clear HP1 HP2 HI;go_upto_region 12 with fail
   all_goals try omega
   go_region_with (fail)
   all_goals
    go_wp2;go_meet;exact ⟨rest.take k,rest.drop k,rfl,by first | rfl | rw [hx2],HPF,KZ9 hB1.out.drew,KZ9 hR1.out.drew,KZ9 (below_drewN hA1.out 1),hsz1⟩
  have hh:=of_decide_eq_true HBR.out.symm;have hI:=wg (mk rest) 93 wc;rw [zk] at hI;have hge:=Lib.indexByte_ge rest 93;have hlt:=vN 93 rest;have hp1:=fun k=>@Yg rest k hh;have hp2:=@bH rest hh;obtain ⟨ix,hix⟩:=KZ6 (Lib.indexByte rest 93);rw [←hix] at hI hge hlt hp2;simp only [←hix] at hp1;have HI:=KZ9 hI;have HP1:=KZ9 hp1;have HP2:=KZ9 hp2;clear hI hix hp1 hp2 hh;go_wp2_with fail
  refine HI.out.mono ?_;rintro e w3 ⟨rfl,rfl⟩;by_cases h0:ix<0
  ·have g1:decide (ix<(0:Int))=true:=KZ7 h0;have hfin:=hdef.out;rw [HP2.out h0] at hfin;have HFIN:=KZ9 hfin;clear HP1 HP2 HI hfin;go_wp2_with (first
    | refine wpList_store_row rfl 100 (.tmp 4) (.tmp 34) rfl (w.heap.size+1) (zb zJ).toArray rfl rfl 100 _ hR1.out yp rfl (zh (yZ zJ)) ?_)
   all_goals try omega
   refine bodyPost_ret (zf rfl _ _ (w.heap.size+1) 100 _ _ rfl (hR1.out.setRow (zb zJ)) Tryz.underlying100 rfl yp) rfl ?_;exact ⟨⟨zJ,4,rfl,.inr ⟨by decide,rfl,HFIN.out⟩⟩,below_setRow hA1.out (by omega) _⟩
  obtain ⟨k,rfl⟩:∃ k:Nat,ix=k:=⟨ix.toNat,by omega⟩;have g1:decide ((k:Int)<(0:Int))=false:=KZ8 (by omega);have HPF:=KZ9 (HP1.out k rfl);have hsr:(mk rest).size=rest.length:=zi rest;have hI1:(0:Int)≤(k:Int)+1:=by omega
  have hI2:(k:Int)+1≤((mk rest).size:Int):=by omega
  have hw1:IntKind.i64.wrap ((k:Int)+1)=(k:Int)+1:=by rw [IntKind.wrap_i64];omega
  have hx1:=pB (mk rest) (k+1);have hx2:=td (mk rest) (k+1);rw [zk] at hx1 hx2;rw [hsr] at hx2;clear HP1 HP2 HI;go_upto_region 9 with fail
  all_goals try omega
  go_region_with (fail)
  all_goals
   go_wp2;go_meet;exact ⟨rest.take (k+1),rest.drop (k+1),rfl,by first | rfl | rw [hx2],HPF,KZ9 hB1.out.drew,KZ9 hR1.out.drew,KZ9 (below_drewN hA1.out 1),hsz1⟩
 case rest =>
 obtain ⟨nm,tl,rfl,rfl,hpf,hB2,hR2,hA2,hsz2⟩:=hcut;have hsub:=bF hpf.out;have hTn:okT nm:=jt HTR.out hsub.1;have hnl:nm.length≤n:=by omega
 have htl:tl.length≤n:=by omega
 have hd2:Hid (xA u (un a)=tw V nm tl):=KZ9 (by rw [hdef.out,hpf.out]);clear hB1 hR1 hA1 hsz1 hpf hdef HTR hrl hsub HBR;by_cases hbad:tl≠[]∧tl.head? ≠some 58
 ·have hfin:=KZ9 (hd2.out.trans (Xt hbad));obtain ⟨b,r,rfl⟩:∃ b r,tl=b::r:=by
   cases tl with
   | nil=>exact absurd rfl hbad.1
   | cons b r=>exact ⟨b,r,rfl⟩
  have hb58:b≠58:=fun e=>hbad.2 (by rw [e];rfl);have e1:((mk (b::r)).toList==([]:Bs))=false:=by rw [toList_mk'];rfl
  have hpos:0<(mk (b::r)).size:=by rw [zi];simp
  have c0:(((mk (b::r))[0]'hpos).toNat:Int)=(b.toNat:Int):=rfl;have g1:((b.toNat:Int) != 58)=true:=by
   simp;intro e;exact hb58 (UInt8.toNat_inj.1 (by show b.toNat=58;omega))
  clear hbad hd2 hb58;go_wp2_with (first
   | refine wpList_store_row rfl 100 (.tmp 4) (.tmp 60) rfl (w.heap.size+1) (zb zJ).toArray rfl rfl 100 _ hR2.out yp rfl (zh (yZ zJ)) ?_)
  all_goals try omega
  refine bodyPost_ret (zf rfl _ _ (w.heap.size+1) 100 _ _ rfl (hR2.out.setRow (zb zJ)) Tryz.underlying100 rfl yp) rfl ?_;exact ⟨⟨zJ,4,rfl,.inr ⟨by decide,rfl,hfin.out⟩⟩,below_setRow hA2.out (by omega) _⟩
 have hgood:tl=[]∨tl.head? =some 58:=by
  by_cases h:tl=[]
  ·exact .inl h
  exact .inr (Classical.byContradiction fun h2=>hbad ⟨h,h2⟩)
 have hd3:=KZ9 (hd2.out.trans (Ue hgood));have htp:=fun W=>kK (mk tl) 58 W;have htr:(if (un (mk tl)).head? =some 58 then (un (mk tl)).drop 1 else un (mk tl))=tl.drop 1:=by
  rw [zk];rcases hgood with rfl | h
  ·rfl
  rw [if_pos h]
 rw [htr] at htp;have hpar:=R7 (mk nm) wc (HBB.out.below hA2.out) (by rw [zi];omega) (by rw [zk];exact hTn);rw [zk] at hpar;have HPAR:=KZ9 hpar;have htest:(0<tl.length∧((mk tl).toList==([]:Bs))=false∧∃ hp:0<(mk tl).size,(((mk tl)[0]'hp).toNat:Int)=58)∨((mk tl).toList==([]:Bs))=true:=by
  rcases hgood with h | h
  ·right;rw [h,toList_mk'];rfl
  left;cases tl with
  | nil=>cases h
  | cons b r =>
   have hb:b=58:=Option.some.inj h;subst hb;refine ⟨by simp,by rw [toList_mk'];rfl,by rw [zi];simp,rfl⟩
 have ht1l:(tl.drop 1).length≤n:=by rw [List.length_drop];omega
 obtain ⟨t1,ht1⟩:=KZ6 (tl.drop 1);have hd3:Hid (xA u (un a)=match vF nm with
  | none=>none
  | some h=>match kp t1 with
   | none=>none
   | some p=>some { V with host:=h,port:=if p=zS V.scheme then V.port else p }):=KZ9 (by rw [ht1];exact hd3.out)
 rw [←ht1] at ht1l htp;have HTP:=KZ9 htp;clear ht1;have hport:=Xr t1;have hnum:=fun W=>Tm (mk t1) W (by rw [zi];omega);simp only [zk] at hnum;obtain ⟨⟨p,pok⟩,hp⟩:∃ p,p=ZK t1:=⟨_,rfl⟩;rw [←hp] at hport;simp only [←hp] at hnum hport;have HNUM:=KZ9 hnum;have HPORT:=KZ9 hport;clear hbad hd2 hgood htp htr hpar hnum hport hp;rcases htest with ⟨ht1,ht2,hp0,ht3⟩ | ht1
 all_goals
  go_wp2_with fail
  all_goals try omega
  refine HPAR.out.mono ?_;rintro e w3 ⟨⟨h,c,rfl,hres⟩,hb3⟩;have hwh:rG h:=by
   rcases hres with ⟨_,h2⟩ | ⟨_,h2,_⟩
   ·exact Vb h2
   rw [h2];exact qO
  have hs3:=hb3.size;have HI:=KZ9 (uf hwh.1);have HIL:=KZ9 (show (Tryz.prog.info? 98).map (·.size)=some (zj h).toArray.size from uf hwh.1);have HSZ:=KZ9 (show (zj zD).toArray.size=(zj h).toArray.size by rw [List.size_toArray,List.size_toArray,wd hwh.1];rfl);have HN3:=KZ9 (heap_alloc_new w3 (.cells (zj zD).toArray 98));have hne1:w.heap.size≠w3.heap.size:=by omega
  have hne2:w.heap.size+1≠w3.heap.size:=by omega
  have HB4:=KZ9 (((hB2.out.below (by omega) hb3).alloc (.cells (zj zD).toArray 98)).setRow_other hne1 (zj h).toArray);have HR4:=KZ9 (((hR2.out.below (by omega) hb3).alloc (.cells (zj zD).toArray 98)).setRow_other hne2 (zj h).toArray);have HY4:=KZ9 ((BlkL.new w3 98 (zj zD)).setRow (zj h));have HA4:=KZ9 (below_setRow ((hA2.out.trans (hb3.mono hA2.out.size)).alloc (by omega) (.cells (zj zD).toArray 98)) (show w.heap.size≤w3.heap.size by omega) (zj h).toArray);obtain ⟨W4,hW4⟩:=KZ6 ((w3.alloc (.cells (zj zD).toArray 98)).setRow w3.heap.size (zj h).toArray);rw [←hW4] at HB4 HR4 HY4 HA4;have hs4:W4.heap.size=w3.heap.size+1:=by rw [hW4];simp [World.setRow]
  have HW4:Hid ((w3.alloc (.cells #[.int .i64 0,.string ⟨#[]⟩,.int .u32 0,.int .u16 0,.int .u16 0,.int .u16 0,.int .u16 0,.int .u16 0,.int .u16 0,.int .u16 0,.int .u16 0] 98)).setRow w3.heap.size (zj h).toArray=W4):=KZ9 hW4.symm;clear hb3 HPAR hB2 hR2 hA2 hW4;rcases hres with ⟨rfl,hok⟩ | ⟨hc,hh0,hno⟩
  ·have hd4:=hd3.out;rw [hok] at hd4;have HD4:Hid (xA u (un a)=match kp t1 with
    | none=>none
    | some p=>some { V with host:=h,port:=if p=zS V.scheme then V.port else p }):=KZ9 hd4
   clear hd4 hok hd3;go_wp2_with (first
    | refine wpList_store_row rfl 98 (.tmp 11) (.tmp 64) rfl w3.heap.size (zj h).toArray rfl rfl 98 _ HN3.out HI.out HSZ.out (zh (vy h)) ?_)
   all_goals try omega
   rw [HW4.out];clear HW4 HN3;refine (HTP.out _).mono ?_;rintro e w5 ⟨rfl,rfl⟩;go_wp2_with fail
   all_goals try omega
   refine (HNUM.out _).mono ?_;rintro e w5 ⟨rfl,rfl⟩;cases pok
   ·have hfin:xA u (un a)=none:=by rw [HD4.out,HPORT.out];rfl
    have HFIN:=KZ9 hfin;clear hfin HD4 HPORT HTP HNUM;go_wp2_with (first
     | refine wpList_store_row rfl 100 (.tmp 4) (.tmp 78) rfl (w.heap.size+1) (zb zJ).toArray rfl rfl 100 _ HR4.out yp rfl (zh (yZ zJ)) ?_)
    all_goals try omega
    refine bodyPost_ret (zf rfl _ _ (w.heap.size+1) 100 _ _ rfl (HR4.out.setRow (zb zJ)) Tryz.underlying100 rfl yp) rfl ?_;exact ⟨⟨zJ,16,rfl,.inr ⟨by decide,rfl,HFIN.out⟩⟩,below_setRow HA4.out (by omega) _⟩
   have hfin:xA u (un a)=some { V with host:=h,port:=if p=zS V.scheme then V.port else p }:=by rw [HD4.out,HPORT.out];rfl
   have HFIN:=KZ9 hfin;have hdp:=fun W=>sT (mk V.scheme) W;simp only [zk] at hdp;obtain ⟨D,hD⟩:=KZ6 (zS V.scheme);simp only [←hD] at hdp;have HDP:=KZ9 hdp;have HD:=KZ9 hD;have h11:(zj h).length=11:=wd hwh.1;have HTH:=KZ9 (HB4.out.there 2 (zj h).toArray.size (by rw [List.size_toArray,h11,xN hVw.1];omega));have hB5:=BlkL.putCells (zj h) 2 W4 _ HB4.out (by rw [h11,xN hVw.1];omega);have e5:(zb V).take 2++(zj h++(zb V).drop (2+(zj h).length))=zb { V with host:=h }:=by
    rw [h11];have:(zb V).drop (2+11)=[.int .i64 V.port,.string (mk V.rest)]:=by
     have e6:zb V=([.string (mk V.scheme),.string (mk V.user)]++zj V.host)++[.int .i64 V.port,.string (mk V.rest)]:=by simp [zb]
     rw [e6,List.drop_left' (by simp [wd hVw.1])]
    rw [this];rfl
   rw [e5] at hB5;have hR5:=BlkL.putCells_other (k:=w.heap.size) (by omega) (zj h) 2 W4 HR4.out;have HA5:=KZ9 (sN (Nat.le_refl w.heap.size) (zj h) 2 W4 HA4.out);have c5:=hB5.c 0 _ rfl;obtain ⟨W5,hW5⟩:=KZ6 (W4.setCells w.heap.size 2 (zj h));have HW5:=KZ9 hW5.symm;rw [←hW5] at hB5 hR5 HA5;have HIU:=KZ9 (yg (u:={ V with host:=h }) hwh.1);have HSU:=KZ9 (show (zb zJ).toArray.size=(zb { V with host:=h }).toArray.size by rw [List.size_toArray,List.size_toArray,xN (u:={ V with host:=h }) hwh.1];rfl);have HIU2:=KZ9 (yg (u:={ V with host:=h,port:=p }) hwh.1);have HSU2:=KZ9 (show (zb zJ).toArray.size=(zb { V with host:=h,port:=p }).toArray.size by rw [List.size_toArray,List.size_toArray,xN (u:={ V with host:=h,port:=p }) hwh.1];rfl);clear hW5;have HB5:=KZ9 hB5;have HR5:=KZ9 hR5;clear hfin HD4 HPORT HTP HNUM hB5 hR5 e5 hdp hD
   go_wp2_with (first
    | refine wpList_load_row rfl 98 (.tmp 11) rfl w3.heap.size rfl 98 _ _ _ HY4.out Tryz.underlying98 rfl HI.out ?_
    | refine wpList_store_mid rfl 98 (.tmp 80) (.tmp 79) rfl w.heap.size 2 (zj h).toArray rfl rfl HTH.out HI.out (zh (vy h)) ?_)
   all_goals try omega
   rw [HW5.out];refine (HDP.out _).mono ?_;rintro e w6 ⟨rfl,rfl⟩;by_cases hpp:p=D
   ·have g5:(p != D)=false:=by simpa using hpp
    have hf2:=HFIN.out;rw [if_pos (hpp.trans HD.out)] at hf2;have HF2:Hid (xA u (un a)=some { V with host:=h }):=KZ9 hf2;clear hf2 HFIN hpp HW5;go_wp2_with (first
     | refine wpList_load_row rfl 100 (.tmp 2) rfl w.heap.size rfl 100 _ _ _ HB5.out Tryz.underlying100 rfl HIU.out ?_
     | refine wpList_store_row rfl 100 (.tmp 4) (.tmp 88) rfl (w.heap.size+1) (zb { V with host:=h }).toArray rfl rfl 100 _ HR5.out HIU.out HSU.out (zh (yZ _)) ?_)
    all_goals try omega
    refine bodyPost_ret (zf rfl _ _ (w.heap.size+1) 100 _ _ rfl (HR5.out.setRow (zb { V with host:=h })) Tryz.underlying100 rfl HIU.out) rfl ?_;exact ⟨⟨_,0,rfl,.inl ⟨rfl,HF2.out⟩⟩,below_setRow HA5.out (by omega) _⟩
   have g5:(p != D)=true:=by simpa using hpp
   have hf2:=HFIN.out;rw [if_neg (fun e=>hpp (e.trans HD.out.symm))] at hf2;have HF2:Hid (xA u (un a)=some { V with host:=h,port:=p }):=KZ9 hf2;have f5:=HB5.out.f 13;have d5:W5.cell? ⟨w.heap.size,13,none⟩=some (.int .i64 V.port):=HB5.out.c 13 _ (by
    have e6:zb { V with host:=h }=([.string (mk V.scheme),.string (mk V.user)]++zj h)++[.int .i64 V.port,.string (mk V.rest)]:=by simp [zb]
    rw [e6,List.getElem?_append_right (by simp [h11])];simp [h11])
   have hB6:=HB5.out.set 13 (by rw [xN (u:={ V with host:=h }) hwh.1];omega) (.int .i64 p);have e7:(zb { V with host:=h }).set 13 (.int .i64 p)=zb { V with host:=h,port:=p }:=by
    have e6:zb { V with host:=h }=([.string (mk V.scheme),.string (mk V.user)]++zj h)++[.int .i64 V.port,.string (mk V.rest)]:=by simp [zb]
    rw [e6,List.set_append_right _ _ (by simp [h11])];simp [h11,zb]
   rw [e7] at hB6;have HB6:=KZ9 hB6;have HR6:=KZ9 (HR5.out.other (p:=w.heap.size) (by omega) 13 (.int .i64 p));have HA6:=KZ9 (HA5.out.trans (ze W5 w.heap.size 13 (.int .i64 p) (Nat.le_refl _)));clear hf2 HFIN hpp HW5 hB6 e7;go_wp2_with (first
    | refine wpList_load_row rfl 100 (.tmp 2) rfl w.heap.size rfl 100 _ _ _ HB6.out Tryz.underlying100 rfl HIU2.out ?_
    | refine wpList_store_row rfl 100 (.tmp 4) (.tmp 88) rfl (w.heap.size+1) (zb { V with host:=h,port:=p }).toArray rfl rfl 100 _ HR6.out HIU2.out HSU2.out (zh (yZ _)) ?_)
   all_goals try omega
   refine bodyPost_ret (zf rfl _ _ (w.heap.size+1) 100 _ _ rfl (HR6.out.setRow (zb { V with host:=h,port:=p })) Tryz.underlying100 rfl HIU2.out) rfl ?_;exact ⟨⟨_,0,rfl,.inl ⟨rfl,HF2.out⟩⟩,below_setRow HA6.out (by omega) _⟩
  have hd4:=hd3.out;rw [hno] at hd4;have HFIN:Hid (xA u (un a)=none):=KZ9 hd4;have g4:(c != 0)=true:=by simpa using hc
  have HC:=KZ9 hc;clear hd4 hno hd3 hc HTP HNUM HPORT hh0;go_upto_if 67 with (first
   | refine wpList_store_row rfl 98 (.tmp 11) (.tmp 64) rfl w3.heap.size (zj h).toArray rfl rfl 98 _ HN3.out HI.out HSZ.out (zh (vy h)) ?_)
  all_goals try omega
  rw [HW4.out];clear HW4 HN3;go_wp2_with (first
   | refine wpList_store_row rfl 100 (.tmp 4) (.tmp 68) rfl (w.heap.size+1) (zb zJ).toArray rfl rfl 100 _ HR4.out yp rfl (zh (yZ zJ)) ?_)
  all_goals try omega
  refine bodyPost_ret (zf rfl _ _ (w.heap.size+1) 100 _ _ rfl (HR4.out.setRow (zb zJ)) Tryz.underlying100 rfl yp) rfl ?_;exact ⟨⟨zJ,c,rfl,.inr ⟨HC.out,rfl,HFIN.out⟩⟩,below_setRow HA4.out (by omega) _⟩
end Go.Proofs.YtbnnlkdhpifpeaaGreatDoor
