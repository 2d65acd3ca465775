/- What the proof of TopClock uses, part Clk07. -/
import Derived.Test.YtbnnlkdhpifpeaaGreatDoorClk06
set_option linter.unusedSimpArgs false
set_option linter.unusedVariables false
namespace Go.Proofs.YtbnnlkdhpifpeaaGreatDoor
open Go.RowKit Hs
theorem RH (w:World):Calls Tryz.prog 104 #[.int .i64 1000] w fun e w'=>e= .returned (.tuple #[.pointer (some ⟨w.heap.size,0,none⟩),.int .i64 0])∧w'=w.alloc (.cells #[.slice none 0 0,.int .i64 1000] 201):=by
 go_enter Tryz.func104,Tryz.ntmps104
 go_wp2
 all_goals try omega
 go_ret2;exact ⟨rfl,rfl⟩
theorem RM (l:List PinP):∀ v∈pcs l,v.oneCell'=true:=by
 intro v hv;unfold pcs at hv;obtain ⟨p,_,hp⟩:=List.mem_flatMap.1 hv;exact px p v hp
theorem Up {w:World} {base:Nat} {e:TypeId} {size n:Nat} {v:Value} {xs:List Value} (h:w.ownsRow base e size v n xs):∃ a cap,v= .slice a n cap:=by
 rcases h.2 with ⟨rfl,rfl⟩ | ⟨g,cap,cur,rfl,_⟩
 ·exact ⟨none,0,rfl⟩
 exact ⟨_,cap,rfl⟩
set_option maxRecDepth 20000
set_option maxHeartbeats 4000000
theorem ko (v:Value) (T:List PinP) (w:World) (hT:Pins w v T) (hl:T.length≤1000):Calls Tryz.prog 25 #[v] w fun e w'=>∃ a cap,e= .returned (.slice a T.length cap)∧w'.ownsRow w.heap.size 64 3 (.slice a T.length cap) T.length (pcs T)∧Below w.heap.size w w':=by
 obtain ⟨iP0,iP⟩:=info_parts Ya;have q45:∀ (w:World) (a:Option Addr) (n c n' c':Nat),(binOp .eql 47 (.slice a n c) (.slice none n' c')).run Tryz.prog w= .ok (.bool a.isNone) w:=fun w a n c n' c'=>Lib.run_eql_slice_nil w _ _ a n c n' c' Tryz.underlying47;obtain ⟨hlen,a,cap,rfl,h1,h2,hc⟩:=hT;unfold maxLen at h2;have hlen2:=hlen;obtain ⟨n,hn⟩:=KZ6 T.length;have HN:=KZ9 hn;rw [←hn] at h1 hl hlen hc ⊢;cases a with
 | none =>
  have hn0:n=0:=by
   rcases hc with h | ⟨b,off,h,_⟩
   ·exact h
   cases h
  subst hn0;have hT0:T=[]:=List.eq_nil_of_length_eq_zero hn.symm;subst hT0;clear hc hlen hlen2 hn HN;go_enter Tryz.func25,Tryz.ntmps25
  go_wp2
  all_goals try omega
  go_ret;exact ⟨none,0,rfl,⟨by simp [pcs],.inl ⟨rfl,rfl⟩⟩,Below.refl _ _⟩
 | some ad =>
  have HL:=KZ9 hlen;have HC:Hid (∀ j u,(pcs T)[j]? =some u→(w.alloc (.cells #[] 64)).cell? (ad.add j)=some u):=KZ9 (fun j u hj=>by
   have hjl:=(List.getElem?_eq_some_iff.1 hj).1;rcases hc with h | ⟨b,off,h,hb,hcell⟩
   ·rw [hlen,h] at hjl;simp at hjl
   injection h with h
   subst h;have hadd:(⟨b,off,none⟩:Addr).add j=⟨b,off+j,none⟩:=by unfold Addr.add;split<;>simp_all
   rw [hadd];exact (((Below.refl _ w).alloc (Nat.le_refl _) (.cells #[] 64)).cell (p:=⟨b,off+j,none⟩) hb).trans (hcell j u hj))
  have HO:=KZ9 (RM T);clear hc hlen hlen2 hn;go_enter Tryz.func25,Tryz.ntmps25
  go_wp2_with (at_builtin;refine wpList_append_own _ rfl _ _ 47 rfl w.heap.size 64 iP0 (.agg #[.string ⟨#[]⟩,.bool false,.int .i64 0]) 3 32 Tryz.underlying47 iP.1 iP.2.1 iP.2.2.1 iP.2.2.2 rfl (by decide) _ _ _ rfl (World.ownsRow_made w #[] 0 (Nat.le_refl _) (Nat.zero_le _) rfl) ad n cap (pcs T) rfl HL.out HC.out HO.out (by unfold maxLen;omega) (by omega) (by simp) ?_)
  intro v' w1 hown hgrow hnil;have hown2:w1.ownsRow w.heap.size 64 3 v' n (pcs T):=by simpa using hown
  obtain ⟨a2,cap2,rfl⟩:=Up hown2;have HOW:=KZ9 hown2;go_wp2;go_ret;exact ⟨a2,cap2,rfl,HOW.out,((Below.refl _ w).alloc (Nat.le_refl _) _).grown hgrow (by simp) (by intro k hk;simp [Value.ownBlock] at hk;omega)⟩
theorem Xc {H:List Bs} (h:∀ j (hj:j+1<H.length),yI H[j] H[j+1]<0):SortH H:=by
 unfold SortH;rw [List.pairwise_iff_getElem];intro i j hi hj hij
 induction j with
 | zero=>omega
 | succ j ih =>
  by_cases e:i=j
  ·subst e;exact h i hj
  exact rN (ih (by omega) (by omega)) (h j hj)
end Go.Proofs.YtbnnlkdhpifpeaaGreatDoor
namespace Hs
open Go
def xq (c:Nat):Nat:=if c % 2=0 then c / 2 else (c / 2) ^^^ 3988292384
def rl (c:Nat) (b:UInt8):Nat:=xq (xq (xq (xq (xq (xq (xq (xq (c ^^^ b.toNat))))))))
def UQ (s:Nat) (l:Bs):Nat:=4294967295 ^^^ l.foldl rl (4294967295 ^^^ s)
def wX (l:Bs):Nat:=UQ 0 l
def zs (n:Nat):Bs:=List.replicate n 0
def le:Nat→Nat→Bs
 | 0,_=>[]
 | n+1,v=>UInt8.ofNat (v % 256)::le n (v / 256)
def rd:Bs→Nat
 | []=>0
 | b::r=>b.toNat+256*rd r
def uv (v:Nat):Bs:=if v<128 then [UInt8.ofNat v] else UInt8.ofNat (v % 128+128)::uv (v / 128)
termination_by v
decreasing_by omega
def gG (epoch seq:Nat) (p:Bs):Bs:=le 2 p.length++(le 4 epoch++(le 4 seq++p))
def sd (epoch seq:Nat) (p:Bs):Bs:=gG epoch seq p++le 4 (wX (gG epoch seq p))
def uh (b:Bs) (epoch seq:Nat):Option (Bs × Nat) :=
 if b.length<14 then none
 else if 1024<rd (b.take 2) then none
 else if b.length<14+rd (b.take 2) then none
 else if rd ((b.drop (10+rd (b.take 2))).take 4)≠wX (b.take (10+rd (b.take 2))) then none
 else if rd ((b.drop 2).take 4)≠epoch∨rd ((b.drop 6).take 4)≠seq then none
 else some ((b.drop 10).take (rd (b.take 2)),14+rd (b.take 2))
structure SupP where
 gen:Nat
 act:Nat
 epoch:Nat
 len:Nat
 sum:Nat
deriving DecidableEq
def t7 (s:SupP):Bs:=[72,83,84,83,1,UInt8.ofNat s.act]++(le 8 s.gen++(le 4 s.epoch++(le 4 s.len++(le 4 s.sum++zs 34))))
def tk (s:SupP):Bs:=t7 s++le 4 (wX (t7 s))
def wU:SupP:=⟨1,0,1,2,wX [0,0]⟩
theorem yV (n:Nat):(zs n).length=n:=by simp [zs]
theorem yW:∀ n v,(le n v).length=n
 | 0,_=>rfl
 | n+1,v=>by simp [le,yW n]
theorem pV (e s:Nat) (p:Bs):(gG e s p).length=10+p.length:=by simp [gG,yW];omega
theorem pW (e s:Nat) (p:Bs):(sd e s p).length=14+p.length:=by simp [sd,pV,yW];omega
theorem vt (s:SupP):(t7 s).length=60:=by simp [t7,yW,yV]
theorem yf (s:SupP):(tk s).length=64:=by simp [tk,vt,yW]
theorem xH {c:Nat} (h:c<4294967296):xq c<4294967296:=by
 unfold xq;split
 ·omega
 exact Nat.xor_lt_two_pow (n:=32) (by omega) (by decide)
theorem Wc {c:Nat} (h:c<4294967296) (b:UInt8):rl c b<4294967296:=by
 have hb:=b.toNat_lt;have h0:c ^^^ b.toNat<4294967296:=Nat.xor_lt_two_pow (n:=32) h (by omega);unfold rl;exact xH (xH (xH (xH (xH (xH (xH (xH h0)))))))
theorem Vt:∀ (l:Bs) {c:Nat},c<4294967296→l.foldl rl c<4294967296
 | [],_,h=>h
 | b::r,_,h=>Vt r (Wc h b)
theorem Qs {s:Nat} (hs:s<4294967296) (l:Bs):UQ s l<4294967296:=Nat.xor_lt_two_pow (n:=32) (by decide) (Vt l (Nat.xor_lt_two_pow (n:=32) (by decide) hs))
theorem qT (l:Bs):wX l<4294967296:=Qs (by decide) l
theorem WH:∀ l:Bs,rd l<256 ^ l.length
 | []=>by simp [rd]
 | b::r=>by
  have:=WH r;have hb:=b.toNat_lt;simp only [rd,List.length_cons,Nat.pow_succ];omega
set_option maxRecDepth 100000
theorem Sc:uh (zs 640) 1 0=none:=by decide +kernel
theorem Zo:rd ((zs 64).drop 60)≠wX ((zs 64).take 60):=by decide +kernel
end Hs
namespace Go.Proofs.YtbnnlkdhpifpeaaGreatDoor
open Go.RowKit Hs
def Byts (w:World) (v:Value) (l:Bs):Prop:=Row w v 1 l.length (zc l)
theorem Byts.below {w w':World} {v:Value} {l:Bs} (h:Byts w v l) (hb:Below w.heap.size w w'):Byts w' v l:=Row.below h hb
theorem Byts.owned {w:World} {base:Nat} {v:Value} {l:Bs} (h:w.ownsRow base 5 1 v l.length (zc l)):Byts w v l:=Row.owned h
theorem Byts.conv {w:World} {v:Value} {l:Bs} (h:Byts w v l):(convert 34 9 v).run Tryz.prog w= .ok (.string (mk l)) w :=
 yP (P:=Tryz.prog) h Tryz.underlying34 Tryz.underlying5 Tryz.underlying9
theorem Byts.open {w:World} {v:Value} {l:Bs} (h:Byts w v l):∃ a cap,v= .slice a l.length cap∧l.length≤cap∧cap≤maxLen∧(0<l.length→∃ b off,a=some ⟨b,off,none⟩∧b<w.heap.size∧∀ j (hj:j<l.length),w.cell? ⟨b,off+j,none⟩=some (.int .u8 (l[j].toNat:Int))):=by
 obtain ⟨hl,a,cap,rfl,hn,hm,h⟩:=h;refine ⟨a,cap,rfl,hn,hm,fun h0=> ?_⟩;rcases h with h | ⟨b,off,ha,hlt,hc⟩
 ·omega
 exact ⟨b,off,ha,hlt,fun j hj=>hc j _ (by simp [zc,List.getElem?_eq_getElem hj])⟩
theorem pJ (b off j:Nat):(⟨b,off,none⟩:Addr).add j=⟨b,off+j,none⟩:=by
 unfold Addr.add;split
 ·rename_i h;rw [h];rfl
 rfl
theorem jp (a b:Nat) (ha:a<4294967296) (hb:b<4294967296):bits .xor .u32 (a:Int) (b:Int)=((a ^^^ b:Nat):Int):=by
 have h:a ^^^ b<4294967296:=Nat.xor_lt_two_pow (n:=32) ha hb;have e1:(BitVec.ofInt 32 (a:Int)).toNat=a:=by rw [BitVec.toNat_ofInt];omega
 have e2:(BitVec.ofInt 32 (b:Int)).toNat=b:=by rw [BitVec.toNat_ofInt];omega
 show IntKind.u32.wrap ((BitVec.ofInt 32 (a:Int) ^^^ BitVec.ofInt 32 (b:Int)).toNat:Int)=_;rw [BitVec.toNat_xor,e1,e2,IntKind.wrap_u32];omega
theorem SO (c:Nat) (w:World) (h:c<4294967296):Calls Tryz.prog 198 #[.int .u32 (c:Int)] w fun e w'=>e= .returned (.int .u32 (xq c:Int))∧w=w':=by
 have ha:bits .and .u32 (c:Int) 1=((c % 2:Nat):Int):=by
  have h1:=u32_and_nat c 1 h (by omega);have e:c &&& 1=c % 2:=Nat.and_two_pow_sub_one_eq_mod c 1;rw [e] at h1;exact h1
 have hx:bits .xor .u32 ((c:Int) / 2) 3988292384=(((c / 2) ^^^ 3988292384:Nat):Int):=by
  have:=jp (c / 2) 3988292384 (by omega) (by omega)
  simpa using this
 rcases Nat.mod_two_eq_zero_or_one c with h2 | h2
 ·have ha2:bits .and .u32 (c:Int) 1=0:=by rw [ha,h2];rfl
  have hq:xq c=c / 2:=by unfold xq;rw [if_pos h2]
  rw [hq];clear ha hx hq;go_enter Tryz.func198,Tryz.ntmps198
  go_wp2;go_ret;exact ⟨xz (by simp),rfl⟩
 have ha2:bits .and .u32 (c:Int) 1=1:=by rw [ha,h2];rfl
 have hq:xq c=(c / 2) ^^^ 3988292384:=by unfold xq;rw [if_neg (by omega)]
 rw [hq];clear ha hq;go_enter Tryz.func198,Tryz.ntmps198
 go_wp2;go_ret;exact ⟨xz rfl,rfl⟩
def UR:Nat→Nat→Nat
 | 0,c=>c
 | n+1,c=>xq (UR n c)
theorem bL:∀ (n:Nat) {c:Nat},c<4294967296→UR n c<4294967296
 | 0,_,h=>h
 | n+1,_,h=>xH (bL n h)
theorem X9 (s:Nat) (v:Value) (l:Bs) (w:World) (hs:s<4294967296) (hv:Byts w v l) (hl:l.length≤1000000):Calls Tryz.prog 130 #[.int .u32 (s:Int),v] w fun e w'=>e= .returned (.int .u32 (UQ s l:Int))∧w=w':=by
 obtain ⟨a,cap,rfl,hn,hm,hc⟩:=hv.open;obtain ⟨n,hn2⟩:=KZ6 l.length;have HN:=KZ9 hn2;have HC:=KZ9 hc;rw [←hn2] at hl ⊢;clear hv hc hn2 hn hm;obtain ⟨c0,hc0⟩:=KZ6 (4294967295 ^^^ s);have hx0:bits .xor .u32 IntKind.u32.max (s:Int)=(c0:Int):=by rw [hc0];exact jp 4294967295 s (by decide) hs
 have hlt0:c0<4294967296:=by rw [hc0];exact Nat.xor_lt_two_pow (n:=32) (by decide) hs
 have HC0:=KZ9 hc0;clear hc0;go_enter Tryz.func130,Tryz.ntmps130
 go_wp2;go_loopw [5,12] (fun cv iv wr=>∃ k c:Nat,iv= .int .i64 k∧k≤n∧cv= .int .u32 c∧c<4294967296∧Hid (c=(l.take k).foldl rl c0)∧wr=w) (fun cv iv _=>n - (intOf iv).toNat)
 case atStart=>exact ⟨0,c0,rfl,by omega,rfl,hlt0,KZ9 rfl,rfl⟩
 case round =>
  obtain ⟨k,c,rfl,hk,rfl,hcl,hI,rfl⟩:=hrel;by_cases hlt:k<n
  ·have hkl:k<l.length:=by rw [←HN.out];exact hlt
   obtain ⟨b,off,rfl,hb,hcell⟩:=HC.out (by omega);have ck:=hcell k hkl;obtain ⟨x,hx⟩:=KZ6 (l[k]);rw [←hx] at ck;have hxl:=x.toNat_lt;have hxo:=jp c x.toNat hcl (by omega);have hd0:c ^^^ x.toNat<4294967296:=Nat.xor_lt_two_pow (n:=32) hcl (by omega);obtain ⟨d0,hd⟩:=KZ6 (c ^^^ x.toNat);rw [←hd] at hxo hd0;have HI2:Hid (UR 8 d0=(l.take (k+1)).foldl rl c0):=by
    rw [List.take_succ_eq_append_getElem hkl,List.foldl_append,←hI.out,←hx,hd];rfl
   have HK:=KZ9 hcell;clear hcell hd hx hI;go_wp2;go_loopw [5,20] (fun cv jv w2=>∃ j:Nat,jv= .int .i64 j∧j≤8∧cv= .int .u32 (UR j d0:Int)∧w2=wr) (fun cv jv _=>8 - (intOf jv).toNat)
   case atStart=>exact ⟨0,rfl,by omega,rfl,rfl⟩
   case round =>
    obtain ⟨j,rfl,hj,rfl,hw2⟩:=hrel;subst hw2;by_cases hlt8:j<8
    ·have hjl:=bL j hd0;have hst:=fun W=>SO (UR j d0) W hjl;have HST:=KZ9 hst;clear hst;go_wp2_with (first | (go_at_call 198;refine (HST.out _).mono ?_;rintro e w' ⟨rfl,rfl⟩))
     all_goals try omega
     go_roundw
     case rel=>exact ⟨j+1,by go_num,by omega,rfl,by first | rfl | trivial⟩
     case measure=>simp [intOf];omega
    obtain rfl:j=8:=by omega
    have HL8:=KZ9 (bL 8 hd0);obtain ⟨d8,hd8⟩:=KZ6 (UR 8 d0);rw [←hd8] at HL8 HI2 ⊢;clear hd8;go_wp2
    all_goals try omega
    go_roundw
    case rel=>exact ⟨k+1,d8,by go_num,by omega,rfl,HL8.out,HI2,by first | rfl | trivial⟩
    case measure=>simp [intOf];omega
  obtain rfl:k=n:=by omega
  have hx1:bits .xor .u32 IntKind.u32.max (c:Int)=(UQ s l:Int):=by
   rw [show UQ s l=4294967295 ^^^ c by unfold UQ;rw [hI.out,HC0.out,HN.out,List.take_length]];exact jp 4294967295 c (by decide) hcl
  clear hI;go_wp2
  all_goals try omega
  go_ret;exact ⟨rfl,rfl⟩
theorem tX (v:Value) (l:Bs) (w:World) (hv:Byts w v l) (hl:l.length≤1000000):Calls Tryz.prog 67 #[v] w fun e w'=>e= .returned (.int .u32 (wX l:Int))∧w=w':=by
 have H:=KZ9 (X9 0 v l w (by decide) hv hl);clear hv;go_enter Tryz.func67,Tryz.ntmps67
 go_wp2_with fail
 refine H.out.mono ?_;rintro e w' ⟨rfl,rfl⟩;go_wp2;go_ret;exact ⟨rfl,rfl⟩
end Go.Proofs.YtbnnlkdhpifpeaaGreatDoor
namespace Hs
open Go Go.RowKit
structure But (S:Nat→Prop) (w w':World):Prop where
 os:w'.os=w.os
 tape:w'.tape=w.tape
 output:w'.output=w.output
 size:w.heap.size≤w'.heap.size
 block:∀ k,k<w.heap.size→¬ S k→w'.heap[k]? =w.heap[k]?
variable {S : Nat → Prop} {a w w' w'' : World}
theorem But.refl (S:Nat→Prop) (w:World):But S w w:=⟨rfl,rfl,rfl,Nat.le_refl _,fun _ _ _=>rfl⟩
theorem But.trans (h:But S w w') (k:But S w' w''):But S w w'' :=
 ⟨k.os.trans h.os,k.tape.trans h.tape,k.output.trans h.output,Nat.le_trans h.size k.size,fun i hi hs=>(k.block i (Nat.lt_of_lt_of_le hi h.size) hs).trans (h.block i hi hs)⟩
theorem But.of_below (S:Nat→Prop) (h:Below w.heap.size w w'):But S w w':=⟨h.os,h.tape,h.output,h.size,fun k hk _=>h.block k hk⟩
theorem But.below (h:But S a w) (hb:Below w.heap.size w w'):But S a w':=h.trans (.of_below S hb)
theorem But.of_grown {row:Option Nat} (h:w.grownBy w' row) (hr:∀ k,row=some k→S k):But S w w' :=
 ⟨h.os,h.tape,h.output,h.size,fun k hk hs=>h.block k hk (fun e=>hs (hr k e.symm))⟩
theorem But.step {T:Nat→Prop} (h:But S a w) (k:But T w w') (hT:∀ i,T i→S i∨a.heap.size≤i):But S a w' :=
 ⟨k.os.trans h.os,k.tape.trans h.tape,k.output.trans h.output,Nat.le_trans h.size k.size,fun i hi hs=>(k.block i (Nat.lt_of_lt_of_le hi h.size) (fun e=>by
  rcases hT i e with h1 | h1
  ·exact hs h1
  omega)).trans (h.block i hi hs)⟩
theorem But.alloc (h:But S a w) (o:Obj):But S a (w.alloc o):=h.below ((Below.refl _ w).alloc (Nat.le_refl _) o)
theorem But.drew (h:But S a w):But S a w.drew:=⟨h.os,h.tape,h.output,h.size,h.block⟩
theorem But.drewN (h:But S a w) (n:Nat):But S a (w.drewN n):=⟨h.os,h.tape,h.output,h.size,h.block⟩
theorem But.set (h:But S a w) {b:Nat} (hb:S b∨a.heap.size≤b) (j:Nat) (v:Value):But S a (w.setCell ⟨b,j,none⟩ v) :=
 h.step (T:=fun i=>i=b) ⟨rfl,rfl,rfl,by simp,fun k _ hk=>Below.heap_setCell w ⟨b,j,none⟩ v k hk⟩ (fun i e=>e▸hb)
theorem But.setRow (h:But S a w) {b:Nat} (hb:S b∨a.heap.size≤b) (cs:Array Value):But S a (w.setRow b cs) :=
 h.step (T:=fun i=>i=b) ⟨rfl,rfl,rfl,by simp [World.setRow],fun k _ hk=>setRow_other w b k cs hk⟩ (fun i e=>e▸hb)
theorem But.grown {row:Option Nat} (h:But S a w) (hg:w.grownBy w' row) (hr:∀ k,row=some k→S k∨a.heap.size≤k):But S a w' :=
 h.step (T:=fun i=>row=some i) (.of_grown hg (fun _ e=>e)) hr
theorem But.to_below {B:Nat} (h:But S w w') (hS:∀ k,S k→B≤k) (hB:B≤w.heap.size):Below B w w' :=
 ⟨h.os,h.tape,h.output,h.size,fun k hk=>h.block k (by omega) (fun e=>by have:=hS k e;omega)⟩
theorem But.cell (h:But S w w') {b o:Nat} (hb:b<w.heap.size) (hs:¬ S b):w'.cell? ⟨b,o,none⟩=w.cell? ⟨b,o,none⟩:=World.cell?_of_block (h.block b hb hs)
theorem BlkL.but {g:Nat} {T:TypeId} {l:List Value} (h:BlkL w g T l) (hb:But S w w') (hs:¬ S g):BlkL w' g T l:=(hb.block g h.lt hs).trans h
theorem qC {base:Nat} {e:TypeId} {size n:Nat} {v:Value} {xs:List Value} (h:w.ownsRow base e size v n xs) (hb:But S w w') (hs:∀ k,v.ownBlock=some k→¬ S k):w'.ownsRow base e size v n xs:=by
 refine ⟨h.1,?_⟩;rcases h.2 with h0 | ⟨g,cap,cur,rfl,hbg,hgg,rest⟩
 ·exact .inl h0
 exact .inr ⟨g,cap,cur,rfl,hbg,(hb.block g (Array.getElem?_eq_some_iff.1 hgg).1 (hs g rfl)).trans hgg,rest⟩
theorem Row.but {v:Value} {size n:Nat} {xs:List Value} (h:Row w v size n xs) (hb:But S w w') (hs:∀ k,v.ownBlock=some k→¬ S k):Row w' v size n xs:=by
 obtain ⟨hl,a,cap,rfl,hn,hm,h⟩:=h;refine ⟨hl,a,cap,rfl,hn,hm,h.imp id ?_⟩;rintro ⟨b,off,rfl,hlt,hc⟩;exact ⟨b,off,rfl,by have:=hb.size;omega,fun j u hj=>(hb.cell hlt (hs b rfl)).trans (hc j u hj)⟩
theorem Row.lt {v:Value} {size n:Nat} {xs:List Value} (h:Row w v size n xs) (hn:0<n):∀ k,v.ownBlock=some k→k<w.heap.size:=by
 obtain ⟨hl,a,cap,rfl,_,_,h⟩:=h;intro k hk;rcases h with h | ⟨b,off,rfl,hlt,hc⟩
 ·omega
 have:b=k:=by simpa [Value.ownBlock] using hk
 omega
end Hs
namespace Go.Proofs.YtbnnlkdhpifpeaaGreatDoor
open Go.RowKit Hs
attribute [local go_sem] Oper.semAt_some
def vD (l:Bs):Nat→List (Nat × UInt8)
 | 0=>[]
 | i+1=>(i,l.getD i 0)::vD l i
theorem Byts.keeps {G:Nat→Prop} {A B:World} {v:Value} {l:Bs} (h:Byts A v l) (hk:Keeps G A B) (hg:0<l.length→∀ k,v.ownBlock=some k→G k):Byts B v l:=by
 obtain ⟨hl,a,cap,rfl,hn,hm,h⟩:=h;refine ⟨hl,a,cap,rfl,hn,hm,?_⟩;rcases Nat.eq_zero_or_pos l.length with h0 | h0
 ·exact .inl h0
 refine h.imp id ?_;rintro ⟨b,off,rfl,hlt,hc⟩;exact ⟨b,off,rfl,by have:=hk.size;omega,fun j u hj=>(hk.cell hlt (hg h0 b rfl)).trans (hc j u hj)⟩
theorem X2 (a:Option Addr) (n c:Nat) (w:World):Calls Tryz.prog 317 #[.slice a n c] w fun e w'=>e= .returned (.func (.func 331) #[] #[.pointer (some ⟨w.heap.size,0,none⟩)])∧w'=w.alloc (.cells #[.slice a n c] 34):=by
 go_enter Tryz.func317,Tryz.ntmps317
 go_wp2;go_ret;exact ⟨rfl,rfl⟩
set_option maxRecDepth 100000
set_option maxHeartbeats 2000000
theorem Qu (n c n₀:Nat) (v:Value) (l:Bs) (w:World) (hn:1≤n) (hb:Boxed w c 34 v) (hv:Byts w v l) (hl:l.length≤1000) (hr:0<l.length→∀ k,v.ownBlock=some k→k<n₀) :
  Seq Fence.wide n Tryz.prog 331 #[.pointer (some ⟨c,0,none⟩)] (fun x:Nat × UInt8=>#[.int .i64 (x.1:Int),.int .u8 (x.2.toNat:Int)]) (fun k=>k=c) n₀ (fun xs=>xs=vD l l.length) (fun pre=>pre <+: vD l l.length) w:=fun lb J Jx W hW hJ hJx hY h0=>by
 have Bs0:Boxed W c 34 v:=(hW.block c hb.lt).trans hb;have hvW:=hv.below hW;obtain ⟨a,cap,rfl,k1,k2,_⟩:=hvW.open;have es0:=Bs0.cell;have HV:=KZ9 hvW;have HR:Hid (0<l.length→∀ k,(Value.slice a l.length cap).ownBlock=some k→k<n₀):=KZ9 hr;clear hr;obtain ⟨m,hm⟩:=KZ6 l.length;have HM:=KZ9 hm;rw [←hm] at es0 Bs0 hl HV;clear hv hvW hb k1 k2;rw [←hm] at hY ⊢;clear hm;refine callsIn_of_wp Tryz.func331 rfl trivial ?_ rfl;simp only [Tryz.ntmps331,List.size_toArray,List.length_cons,List.length_nil,Nat.reduceAdd,Nat.reduceSub,Array.replicate_succ,Array.replicate_zero,List.push_toArray,List.append_toArray,List.nil_append,List.cons_append]
 gi_wp2
 gi_loopw [3] (fun iv wr=>∃ (i:Nat) (z:Int) (pre:List (Nat × UInt8)) (G:Nat→Prop),iv= .int .i64 z∧Hid (z=(i:Int) - 1)∧i≤m∧Hid (pre++vD l i=vD l m)∧Boxed wr c 34 (.slice a m cap)∧Hid (Byts wr (.slice a m cap) l)∧J pre G wr∧G c) (fun iv _=>(intOf iv+1).toNat)
 case atStart=>exact ⟨m,_,[],_,rfl,KZ9 (by first | rfl | omega),Nat.le_refl _,KZ9 rfl,Bs0,HV,h0,rfl⟩
 case round =>
  obtain ⟨i,z,pre,G,rfl,hz,hi,hpre,hbx,hby,hJs,hGc⟩:=hrel;have ec:=hbx.cell;cases i with
  | zero =>
   obtain rfl:z= -1:=by have:=hz.out;omega
   have hfin:Hid (pre=vD l m):=by have:=hpre.out;simpa [vD,Hid] using this
   clear hz hpre
   gi_wp2
   go_end0
   exact ⟨⟨_,rfl⟩,.inl ⟨_,G,hfin.out,hJs⟩⟩
  | succ i =>
   obtain rfl:z=(i:Int):=by have:=hz.out;omega
   obtain ⟨a',cap',he,_,_,hcc⟩:=hby.out.open;injection he with e1 e2 e3
   subst e1 e3;clear e2;obtain ⟨b,off,rfl,hblt,hcell⟩:=hcc (by rw [←HM.out];omega);have hil:i<l.length:=by rw [←HM.out];omega
   have ck:=hcell i hil;obtain ⟨x,hx⟩:=KZ6 (l[i]);rw [←hx] at ck;have hxd:l.getD i 0=x:=by rw [List.getD_eq_getElem?_getD,List.getElem?_eq_getElem hil];exact hx.symm
   have hnext:Hid ((pre++[(i,x)])++vD l i=vD l m):=KZ9 (by
    rw [←hpre.out];simp only [vD,hxd,List.append_assoc,List.singleton_append])
   obtain ⟨fn,tmps,assign,body,hy,hR⟩:=hY pre (i,x) G wr hJs ⟨_,hnext.out⟩
   dsimp only at hy
   clear hz hpre hcell hcc hx hxd
   gi_wp2
   refine hR.mono ?_;rintro e W3 (⟨rfl,hJ3,hk3⟩ | ⟨rfl,hJx3,hk3⟩)
   ·have b3:Boxed W3 c 34 (.slice (some ⟨b,off,none⟩) m cap):=(hk3.block c hbx.lt (.inl hGc)).trans hbx;have hby3:=KZ9 (hby.out.keeps hk3 (fun h0 k hk=> .inr (HR.out h0 k hk)))
    gi_wp2
    go_roundw
    case rel=>exact ⟨i,_,_,G,rfl,KZ9 (by first | rfl | omega),by omega,hnext,b3,hby3,hJ3,hGc⟩
    case measure=>simp [intOf]
   gi_wp2
   refine bodyPost_ret (results_none rfl _ _ _) rfl ?_;exact ⟨⟨_,rfl⟩,.inr ⟨_,G,⟨_,hnext.out⟩,hJx3⟩⟩
theorem RE (l:Bs) (i:Nat) (h:i<l.length):rd (l.drop i)=rd (l.drop (i+1))*256+(l.getD i 0).toNat:=by
 rw [List.drop_eq_getElem_cons h];show l[i].toNat+256*rd (l.drop (i+1))=_;rw [List.getD_eq_getElem?_getD,List.getElem?_eq_getElem h];show l[i].toNat+256*_=_*256+l[i].toNat;omega
def rdB (pre:List (Nat × UInt8)):Nat:=pre.foldl (fun v x=>v*256+x.2.toNat) 0
theorem RF (l:Bs):∀ (i:Nat) (pre:List (Nat × UInt8)),i≤l.length→pre++vD l i=vD l l.length→rdB pre=rd (l.drop i)
 | i,pre,hi,h=>by
  induction hk:l.length - i generalizing i pre with
  | zero =>
   obtain rfl:i=l.length:=by omega
   have:pre=[]:=by
    have:=congrArg List.length h;simp at this;exact this
   subst this;simp [rdB,rd]
  | succ k ih =>
   have hlen:∀ j,(vD l j).length=j:=fun j=>by induction j with | zero=>rfl | succ j ih=>simp [vD,ih]
   have hpl:pre.length=l.length - i:=by
    have:=congrArg List.length h;rw [List.length_append,hlen,hlen] at this;omega
   obtain ⟨pre',x,rfl⟩:∃ pre' x,pre=pre'++[x]:=⟨pre.dropLast,pre.getLast (by intro e;subst e;simp at hpl;omega),(List.dropLast_concat_getLast _).symm⟩;have hx:x::vD l i=vD l (i+1):=by
    have h1:pre'++(x::vD l i)=vD l l.length:=by simpa using h
    have hd:∀ j k,k+j≤l.length→(vD l (k+j)).drop j=vD l k:=fun j=>by
     induction j with
     | zero=>intro k _;rfl
     | succ j ih=>intro k hk;exact ih k (by omega)
    have h2:=congrArg (List.drop pre'.length) h1;rw [List.drop_left] at h2;have hpl':pre'.length=l.length - (i+1):=by simp at hpl;omega
    have h3:=hd pre'.length (i+1) (by omega);rw [show i+1+pre'.length=l.length by omega] at h3;rw [h2,h3]
   have h1:=ih (i+1) pre' (by omega) (by rw [←hx];simpa using h) (by omega);have hx1:x=(i,l.getD i 0):=(List.cons.inj hx).1;rw [RE l i (by omega),←h1,hx1];simp [rdB,List.foldl_append]
end Go.Proofs.YtbnnlkdhpifpeaaGreatDoor
namespace Hs
open Go Go.RowKit
def RU (ds:List Nat):List Deferred:=ds.map fun r=>{ target:= .collected r,args:=#[] }
theorem ZY {F:Fence} {n:Nat} {P:Program} {fn:Func} {tmps:Array Value} {R:Ending→World→Prop}:∀ (ds:List Nat) (W:World),(∀ r,r∈ds→W.heap[r]? =some (.deferred (some [])))→ds.Nodup →
  (∀ W',Keeps (fun k=>k∉ds) W W'→LeavesIn F n P fn tmps R [] .returning W')→LeavesInM F n P fn tmps R (RU ds) .returning W
 | [],W,_,_,h=>h W (Keeps.refl _ _)
 | r::ds,W,hd,hn,h=>by
  rw [List.nodup_cons] at hn;refine ⟨by simp,.inl ⟨r,_,rfl,run_takeDeferred (hd r (by simp)),?_⟩⟩;refine ZY ds _ (fun k hk=> ?_) hn.2 (fun W' hW'=>h W' ?_)
  ·exact (World.putObj_heap_other (fun e=>hn.1 (by first | exact e▸hk | exact e.symm▸hk))).trans (hd k (by simp [hk]))
  refine (Keeps.of_grown (grownBy_putObj' W r (.deferred none)) (fun k e=>by cases e;simp)).trans (hW'.mono fun k hk=> ?_);simp only [List.mem_cons,not_or] at hk;exact hk.2
end Hs
namespace Go.Proofs.YtbnnlkdhpifpeaaGreatDoor
open Go.RowKit Go.Shelf Hs
attribute [local go_sem] Oper.semAt_some
def RInv (w:World) (z:Nat) (pre:List (Nat × UInt8)) (G:Nat→Prop) (W:World):Prop :=
 Boxed W z 94 (.int .u32 (rdB pre:Int))∧W.heap[z+2]? =some (.deferred (some []))∧Below z w W∧(∀ k,G k→z<k∧k≠z+2)
theorem RInv.turn {w:World} {z:Nat} {pre:List (Nat × UInt8)} {G:Nat→Prop} {A B:World} {row:Option Nat} (h:RInv w z pre G A) (hg:A.grownBy B row) (hr:∀ r,row=some r→G r∨r=z+3):RInv w z pre G B:=by
 obtain ⟨h1,h2,h3,h4⟩:=h;have hlow:∀ r,row=some r→z<r∧r≠z+2:=fun r e=>(hr r e).elim (h4 r) (fun h=>by omega);exact ⟨h1.kept hg (fun e=>by have:=hlow _ e.symm;omega),(hg.block _ (Array.getElem?_eq_some_iff.1 h2).1 (fun e=>(hlow _ e.symm).2 rfl)).trans h2,h3.grown hg (by have:=h1.lt;omega) (fun j hj=>by have:=hlow j hj;omega),h4⟩
theorem RInv.lay {w:World} {z:Nat} {pre:List (Nat × UInt8)} {G:Nat→Prop} {A B:World} (h:RInv w z pre G A) (hg:A.grownBy B none):RInv w z pre (fun k=>G k∨(A.heap.size≤k∧k<B.heap.size)) B:=by
 obtain ⟨h1,h2,h3,h4⟩:=h;have hlt:=(Array.getElem?_eq_some_iff.1 h2).1;exact ⟨h1.kept hg (by simp),(hg.block _ hlt (by simp)).trans h2,h3.grown hg (by have:=h1.lt;omega) (fun j hj=>by cases hj),fun k hk=>hk.elim (h4 k) (fun h=>⟨by omega,by omega⟩)⟩
theorem vd (w:World) {b:Nat} (g k:Nat) (v:Value) (hb:b≤g):Below b w (w.setCell ⟨g,k,none⟩ v):=⟨rfl,rfl,rfl,by simp,fun j hj=>Below.heap_setCell w ⟨g,k,none⟩ v j (fun e=>by have:j=g:=e;omega)⟩
theorem TK:∀ (n:Nat) (pre:List (Nat × UInt8)),pre.length=n→rdB pre<256 ^ n
 | 0,pre,h=>by
  obtain rfl:=List.eq_nil_of_length_eq_zero h;simp [rdB]
 | n+1,pre,h=>by
  obtain ⟨pre',x,rfl⟩:∃ pre' x,pre=pre'++[x]:=⟨pre.dropLast,pre.getLast (by intro e;subst e;simp at h),(List.dropLast_concat_getLast _).symm⟩;have h1:=TK n pre' (by simpa using h);have h2:=x.2.toNat_lt;simp only [rdB,List.foldl_append,List.foldl_cons,List.foldl_nil] at h1 ⊢;rw [Nat.pow_succ];omega
theorem TJ (pre:List (Nat × UInt8)) (x:Nat × UInt8):rdB (pre++[x])=rdB pre*256+x.2.toNat:=by simp [rdB,List.foldl_append]
theorem RO (v n:Nat) (hv:v<16777216) (hn:n≤255):bits .or .u32 ((v:Int)*256) (n:Int)=((v*256+n:Nat):Int):=by
 have e:(v <<< 8:Nat)=v*256:=by rw [Nat.shiftLeft_eq]
 have h2:v*256 ||| n=v*256+n:=by
  rw [←e];exact (Nat.shiftLeft_add_eq_or_of_lt (by omega) v).symm
 have h3:=u32_or_nat (v*256) n (by omega) (by omega);rw [h2] at h3
 simpa using h3
set_option maxRecDepth 100000
set_option maxHeartbeats 4000000
theorem jy (v:Value) (l:Bs) (w:World) (hv:Byts w v l) (hl:l.length≤4):Calls Tryz.prog 295 #[v] w fun e w'=>e= .returned (.int .u32 (rd l:Int))∧Below w.heap.size w w':=by
 obtain ⟨a,cap,rfl,_,_,_⟩:=hv.open;have HV:=KZ9 hv;have HR:=KZ9 (fun h0=>hv.lt h0);obtain ⟨m,hm⟩:=KZ6 l.length;have HM:=KZ9 hm;rw [←hm] at HV hl ⊢;clear hv hm;refine (callsIn_wide (n:=5)).1 ?_;refine callsIn_of_wp_marks Tryz.func295 rfl trivial ?_ rfl;simp only [Tryz.ntmps295,List.size_toArray,List.length_cons,List.length_nil,Nat.reduceAdd,Nat.reduceSub,Array.replicate_succ,Array.replicate_zero,List.push_toArray,List.append_toArray,List.nil_append,List.cons_append]
 gi_wp2
 refine ⟨trivial,?_⟩;refine (callsIn_wide.2 (X2 a m cap _)).mono ?_;rintro e w1 ⟨rfl,rfl⟩
 gi_wp2
 obtain ⟨W2,hW2⟩:=KZ6 ((w.alloc (.cells #[.int .u32 0] 94)).alloc (.cells #[.slice a m cap] 34));obtain ⟨z,hz⟩:=KZ6 w.heap.size;have hS2:W2.heap.size=z+2:=by rw [hW2,hz];simp
 have hB2:Below z w W2:=by rw [hW2,hz];exact ((Below.refl _ w).alloc (Nat.le_refl _) _).alloc (by simp) _
 have bz:Boxed W2 z 94 (.int .u32 0):=by rw [hW2,hz];exact (Boxed.new w _ _).alloc _
 have bs:Boxed W2 (z+1) 34 (.slice a m cap):=by
  rw [hW2,hz];have:=Boxed.new (w.alloc (.cells #[.int .u32 0] 94)) 34 (.slice a m cap)
  rwa [World.size_alloc] at this
 have hv2:Byts W2 (.slice a m cap) l:=HV.out.below (by rw [←hz];exact hB2);rw [←hW2,←hz];have HZ:=KZ9 hz;have hent:=fun (a:Act) ps asg bd=>enter_outer (F:=Fence.wide) (P:=Tryz.prog) rfl W2 a ps asg bd;rw [hS2] at hent;have hbs:=Qu 4 (z+1) z (.slice a m cap) l W2 (by omega) bs hv2 (by rw [←HM.out];omega) (fun h0 k hk=>by rw [hz];exact HR.out h0 k (by rw [←HM.out];exact hk));rw [←HM.out] at hbs;clear hW2 hz hv2;have hTurn:=fun (pre:List (Nat × UInt8)) (G:Nat→Prop) (A B:World) (row:Option Nat) (h:RInv w z pre G A) hg hr=>RInv.turn (row:=row) (B:=B) h hg hr;refine range_law (w₁:=W2.alloc (.deferred (some []))) (L:=z+3) (by omega) (by simp;omega) (hent _ _ _ _) (gf:=331) (lb:=#[.pointer (some ⟨z+1,0,none⟩)]) rfl trivial (enters_of Tryz.func331 (by kernel_rfl) rfl)
  hbs ((Below.refl _ W2).alloc (Nat.le_refl _) _) (fun _=>rfl) (by omega) (by omega)
  (RInv w z) (fun _ _ _ _=>False) (fun _ _ _ _ _ h hg hr=>h.turn hg hr) (fun _ _ _ _ h hg=>h.lay hg) (fun _ _ _ _ _ _ h _ _=>h) (fun _ _ _ _ _ h _=>h) ?start
  (fun x a' W'=>a'={ tmps:=#[.slice a m cap,undef,.int .u32 0,.pointer (some ⟨z,0,none⟩),undef,.int .u8 (x.2.toNat:Int),.slice a m cap,.func (.func 331) #[] #[.pointer (some ⟨z+1,0,none⟩)],.int .i64 (x.1:Int),.int .u8 (x.2.toNat:Int),undef,undef,undef,undef,undef,undef],defers:=[] }) (fun _ _ _ _ _ h _ _=>h) ?assign ?body ?done ?stop
 case start =>
  intro o;have hd:=World.alloc_heap_new W2 (.deferred (some []));rw [hS2] at hd;refine ⟨(bz.alloc _).alloc _,(Below.heap_alloc _ o _ (by simp;omega)).trans hd,(hB2.alloc (by omega) _).alloc (by simp;omega) _,?_⟩;rintro k rfl;omega
 case assign =>
  intro pre x G W' K hI hsp hK
  gi_wp2
  exact hK _ _ rfl (Keeps.refl _ _) hI rfl
 case body =>
  rintro pre x G a' Wb ⟨r0,hr0⟩ hI rfl ⟨post,hpost⟩;obtain ⟨i1,i2,i3,i4⟩:=id hI;have hpl:pre.length≤3:=by
   have hlen:∀ j,(vD l j).length=j:=fun j=>by induction j with | zero=>rfl | succ j ih=>simp [vD,ih]
   have:=congrArg List.length hpost;rw [hlen] at this;simp at this;omega
  have hrl:rdB pre<16777216:=Nat.lt_of_lt_of_le (TK _ pre rfl) (Nat.le_trans (Nat.pow_le_pow_right (by decide) hpl) (by decide));have hx:=x.2.toNat_lt;have c0:=i1.cell;have f0:=i1.frozen;have ho:=RO (rdB pre) x.2.toNat hrl (by omega);rw [←TJ] at ho;obtain ⟨q,hq⟩:=KZ6 (rdB pre);obtain ⟨q2,hq2⟩:=KZ6 (rdB (pre++[x]));rw [←hq] at c0 ho hrl;rw [←hq2] at ho;have HQ2:=KZ9 hq2;have HB:=KZ9 i1;clear hpost hq hq2 i1
  gi_wp2
  exact (show _∧_∧_ from ⟨Below.heap_setCell _ _ _ _ (by simp),Keeps.setCell _ _ _ (by rintro (h | h);have:=(i4 _ h).1;omega;omega) _,by rw [←HQ2.out];exact HB.out.set _,(Below.heap_setCell _ _ _ _ (by simp)).trans i2,i3.trans (vd _ _ _ _ (Nat.le_refl _)),i4⟩)
 case done =>
  rintro xs G W' rfl ⟨i1,i2,i3,i4⟩;have hrd:rdB (vD l m)=rd l:=by
   have:=RF l 0 (vD l m) (Nat.zero_le _) (by rw [←HM.out];simp [vD])
   simpa using this
  rw [hrd] at i1;have c0:=i1.cell;clear hrd i1
  gi_wp2
  refine ZY [z+2] _ (fun r hr=> ?_) (by simp) (fun W3 hW3=> ?_)
  ·rw [List.mem_singleton.1 hr];exact i2
  refine ⟨_,results_tmp rfl _ _ _,rfl,?_⟩;rw [←HZ.out];exact i3.trans (Keeps.below (hW3.mono fun k hk=>by simp;omega) (by have:=i3.size;have:=HZ.out;omega))
 case stop =>
  rintro c pre G W' _ h;exact h.elim
end Go.Proofs.YtbnnlkdhpifpeaaGreatDoor
namespace Go.Proofs.YtbnnlkdhpifpeaaGreatDoor
open Go.RowKit Hs
theorem bw:∀ (k v:Nat),le (k+1) v=le k v++[UInt8.ofNat (v / 256 ^ k % 256)]
 | 0,v=>by simp [le]
 | k+1,v=>by
  show UInt8.ofNat (v % 256)::le (k+1) (v / 256)=(UInt8.ofNat (v % 256)::le k (v / 256))++_;rw [bw k (v / 256),Nat.div_div_eq_div_mul,Nat.pow_succ,Nat.mul_comm (256 ^ k) 256];rfl
theorem wL {w:World} {base:Nat} {e:TypeId} {size n:Nat} {v:Value} {xs:List Value} (h:w.ownsRow base e size v n xs):∃ a cap,v= .slice a n cap:=by
 rcases h.2 with ⟨rfl,rfl⟩ | ⟨g,cap,cur,rfl,_⟩
 ·exact ⟨none,0,rfl⟩
 exact ⟨_,cap,rfl⟩
set_option maxRecDepth 20000
theorem rg (base:Nat) (b:Value) (n:Nat) (xs:List Value) (v k:Nat) (w:World) (hown:w.ownsRow base 5 1 b n xs) (hb:base≤w.heap.size) (hn:n≤100000) (hk:k≤4) (hv:v<4294967296) :
  Calls Tryz.prog 220 #[b,.int .u32 (v:Int),.int .i64 (k:Int)] w fun e w'=>∃ b',e= .returned b'∧w'.ownsRow base 5 1 b' (n+k) (xs++zc (le k v))∧Below base w w':=by
 obtain ⟨iB0,iB⟩:=info_parts yD;have HO:=KZ9 hown;clear hown;go_enter Tryz.func220,Tryz.ntmps220
 go_wp2;go_loopw [0,1,8] (fun bv vv iv wr=>∃ j:Nat,iv= .int .i64 j∧j≤k∧vv= .int .u32 ((v / 256 ^ j:Nat):Int)∧Hid (wr.ownsRow base 5 1 bv (n+j) (xs++zc (le j v)))∧Hid (Below base w wr)) (fun _ _ iv _=>k - (intOf iv).toNat)
 case atStart=>exact ⟨0,rfl,by omega,by simp,KZ9 (by simpa [le,zc] using HO.out),KZ9 (Below.refl _ _)⟩
 case round =>
  obtain ⟨j,rfl,hj,rfl,hO,hB⟩:=hrel;have hbs:=hB.out.size;by_cases hlt:j<k
  ·obtain ⟨q,hq⟩:=KZ6 (v / 256 ^ j);have hq2:q / 256=v / 256 ^ (j+1):=by rw [hq,Nat.div_div_eq_div_mul,Nat.pow_succ]
   have hql:q<4294967296:=by rw [hq];exact Nat.lt_of_le_of_lt (Nat.div_le_self _ _) hv
   rw [←hq];have hle:le (j+1) v=le j v++[UInt8.ofNat (q % 256)]:=by rw [bw,hq]
   have HL:=KZ9 hle;have HQ2:=KZ9 hq2;clear hq hq2 hle;go_wp2_with (at_builtin;refine wpList_append_own _ rfl (.tmp 10) (.tmp 13) 34 rfl (base) 5 iB0 (.int .u8 0) 1 1 Tryz.underlying34 iB.1 iB.2.1 iB.2.2.1 iB.2.2.2 rfl (by decide) _ _ _ rfl (hO.out.alloc _) ⟨wr.heap.size,0,none⟩ 1 1 [_] rfl rfl (cell_one_new _ _ _) (by intro u hu;simp at hu;subst hu;rfl) (by unfold maxLen;omega) (by omega) (by simp;omega) ?_;intro v1 w1 hown1 hgrow1 hnil1)
   all_goals try omega
   go_roundw
   case rel =>
    refine ⟨j+1,by go_num,by omega,by rw [←HQ2.out];simp,KZ9 ?_,KZ9 ?_⟩
    ·have hqm:=Nat.mod_lt q (show 0<256 by decide);rw [HL.out,zz,←List.append_assoc];have e:zc [UInt8.ofNat (q % 256)]=[.int .u8 ((q:Int) % 256)]:=by
      simp only [zc,List.map_cons,List.map_nil];rw [UInt8.toNat_ofNat_of_lt' (by omega)];simp
     rw [e];have h2:=hown1;first | exact h2 | (rw [Nat.add_assoc] at h2;exact h2)
    exact (hB.out.alloc (by omega) _).grown hgrow1 (by simp;omega) (fun k e=>(hO.out.lt k e).1)
   case measure=>simp [intOf];omega
  obtain rfl:j=k:=by omega
  obtain ⟨a,cap,hbv⟩:=wL hO.out;subst hbv;go_wp2
  all_goals try omega
  go_ret;exact ⟨_,rfl,hO.out,hB.out⟩
theorem Vj (n:Nat) (w:World) (h:n≤1024):Calls Tryz.prog 219 #[.int .i64 (n:Int)] w fun e w'=>e= .returned (.int .i64 ((14+n:Nat):Int))∧w=w':=by
 go_enter Tryz.func219,Tryz.ntmps219
 go_wp2
 all_goals try omega
 go_ret;exact ⟨xz (by simp),rfl⟩
theorem Sw (n:Nat) (w:World) (h:1024<n) (h2:n<4294967296):Calls Tryz.prog 219 #[.int .i64 (n:Int)] w fun e w'=>e= .returned (.int .i64 0)∧w=w':=by
 go_enter Tryz.func219,Tryz.ntmps219
 go_wp2
 all_goals try omega
 go_ret;exact ⟨rfl,rfl⟩
end Go.Proofs.YtbnnlkdhpifpeaaGreatDoor
namespace Hs
open Go
theorem getElem?_splice {α:Type} (L:List α) (o:Nat) (d:List α) (h:o+d.length≤L.length) (k:Nat):(splice L o d)[k]? =if k<o then L[k]? else if k<o+d.length then d[k - o]? else L[k]? :=by
 unfold splice;rw [List.getElem?_append,List.getElem?_append,List.getElem?_take,List.getElem?_drop,List.length_take];rw [show min o L.length=o by omega];split
 ·rfl
 split
 ·rw [if_pos (by omega)]
 rw [if_neg (by omega)]
 congr 1
 omega
theorem length_splice' {α:Type} (L:List α) (o:Nat) (d:List α) (h:o+d.length≤L.length):(splice L o d).length=L.length:=length_splice L o d h
def sec (C:Bs) (i:Nat):Bs:=(C.drop (64*i)).take 64
theorem getElem?_sec (C:Bs) (i k:Nat):(sec C i)[k]? =if k<64 then C[64*i+k]? else none:=by
 unfold sec;rw [List.getElem?_take,List.getElem?_drop]
theorem xE {C:Bs} {n i:Nat} (h:C.length=64*n) (hi:i<n):(sec C i).length=64:=by
 unfold sec;rw [List.length_take,List.length_drop];omega
theorem Zp {C d:Bs} {n i:Nat} (h:C.length=64*n) (hi:i<n) (hd:d.length=64):sec (splice C (64*i) d) i=d:=by
 apply List.ext_getElem?;intro k;rw [getElem?_sec,getElem?_splice _ _ _ (by omega)];split
 ·rw [if_neg (by omega),if_pos (by omega)]
  congr 1
  omega
 rw [List.getElem?_eq_none (by omega)]
theorem sX {C d:Bs} {n i j:Nat} (h:C.length=64*n) (hi:i<n) (hd:d.length=64) (hij:j≠i):sec (splice C (64*i) d) j=sec C j:=by
 apply List.ext_getElem?;intro k;rw [getElem?_sec,getElem?_sec,getElem?_splice _ _ _ (by omega)];split
 ·split
  ·rfl
  rw [if_neg (by omega)]
 rfl
theorem Ru {A B:Bs} {n:Nat} (ha:A.length=64*n) (hb:B.length=64*n) (h:∀ i,i<n→sec A i=sec B i):A=B:=by
 apply List.ext_getElem?;intro k;by_cases hk:k<64*n
 ·have:=congrArg (·[k % 64]?) (h (k / 64) (by omega));simp only [getElem?_sec] at this;rw [if_pos (by omega),if_pos (by omega),show 64*(k / 64)+k % 64=k by omega] at this;exact this
 rw [List.getElem?_eq_none (by omega),List.getElem?_eq_none (by omega)]
theorem Zi {C b:Bs} {n i f:Nat} (h:C.length=64*n) (hi:i<n) (hf:f+b.length≤64):splice C (64*i) (splice (sec C i) f b)=splice C (64*i+f) b:=by
 have hs:=xE h hi;have hl:(splice (sec C i) f b).length=64:=by rw [length_splice _ _ _ (by omega),hs]
 apply List.ext_getElem?;intro k;rw [getElem?_splice _ _ _ (by omega),getElem?_splice _ _ _ (by omega),getElem?_splice _ _ _ (by omega),getElem?_sec,hl];by_cases h1:k<64*i
 ·rw [if_pos h1,if_pos (by omega)]
 rw [if_neg h1];by_cases h2:k<64*i+64
 ·rw [if_pos h2,if_pos (show k - 64*i<64 by omega),show 64*i+(k - 64*i)=k by omega];by_cases h3:k<64*i+f
  ·rw [if_pos (by omega),if_pos h3]
  rw [if_neg (by omega),if_neg h3];by_cases h4:k<64*i+f+b.length
  ·rw [if_pos (by omega),if_pos h4]
   congr 1
   omega
  rw [if_neg (by omega),if_neg h4]
 rw [if_neg h2,if_neg (by omega),if_neg (by omega)]
theorem Zj {α:Type} {C d e:List α} {o:Nat} (h:o+d.length+e.length≤C.length):splice (splice C o d) (o+d.length) e=splice C o (d++e):=by
 have hl:(splice C o d).length=C.length:=length_splice _ _ _ (by omega);apply List.ext_getElem?;intro k;rw [getElem?_splice _ _ _ (by omega),getElem?_splice _ _ _ (by omega),getElem?_splice _ _ _ (by rw [List.length_append];omega),List.getElem?_append,List.length_append]
 repeat' split
 all_goals first | (exfalso;omega) | rfl | (congr 1;omega)
theorem jS {α:Type} (C:List α) (o:Nat):splice C o []=C:=by simp [splice]
theorem Rt (C:Bs) (i f k:Nat) (h:f+k≤64):((sec C i).drop f).take k=(C.drop (64*i+f)).take k:=by
 apply List.ext_getElem?;intro j;rw [List.getElem?_take,List.getElem?_take,List.getElem?_drop,List.getElem?_drop,getElem?_sec];split
 ·rw [if_pos (by omega)]
  congr 1
  omega
 rfl
theorem V7 {α:Type} (C:List α) (o a k:Nat):(C.drop o).take a++(C.drop (o+a)).take k=(C.drop o).take (a+k):=by
 rw [←List.drop_drop,List.take_add]
end Hs
namespace Go.Proofs.YtbnnlkdhpifpeaaGreatDoor
open Go.RowKit Go.Maps Hs
def slD (b n c:Nat):DataW Unit:= .agg [.lit (.int .i64 (b:Int)),.lit (.int .i64 (n:Int)),.lit (.int .i64 (c:Int))]
def xk (v:Value):Option (DataW Unit × List MemPlace):=match v with
 | .slice none _ _=>some (.agg [],[])
 | .slice (some ⟨b,0,none⟩) n c=>some (slD b n c,[])
 | _=>none
theorem jT {v:Value} {b n c:Nat} {ps:List MemPlace} (h:xk v=some (slD b n c,ps)):v= .slice (some ⟨b,0,none⟩) n c:=by
 unfold xk slD at h;split at h
 ·simp at h
 ·simp only [Option.some.injEq,Prod.mk.injEq,slD,DataW.agg.injEq,List.cons.injEq,DataW.lit.injEq,Lit.int.injEq,Int.natCast_inj,true_and,and_true] at h;obtain ⟨⟨h1,h2,h3⟩,_⟩:=h;rw [h1,h2,h3]
 cases h
theorem Zm {v:Value} {y:DataW Unit × List MemPlace} (h:xk v=some y):∃ a n c,v= .slice a n c:=by
 unfold xk at h;split at h
 ·exact ⟨_,_,_,rfl⟩
 ·exact ⟨_,_,_,rfl⟩
 cases h
def KL (i:Nat):Lit:= .int .i64 (i:Int)
theorem bP {i j:Nat} (h:KL i=KL j):i=j:=by
 unfold KL at h;injection h with _ h
 omega
theorem Wp (i:Nat):WideAt.IsKeyLit (KL i):=by trivial
theorem Vy (i j:Nat):(KL i).sameKey (KL j)=decide (i=j):=by
 by_cases h:i=j
 ·subst h;rw [WideAt.sameKey_self (Wp i)];simp
 rw [Maps.sameKey_ne (fun e=>h (bP e))];simp [h]
theorem kC:∀ (n:Nat) (l:List Nat),l.Nodup→(∀ x∈l,x<n)→l.length≤n
 | 0,l,_,h=>by
  cases l with
  | nil=>simp
  | cons x r=>exact absurd (h x (by simp)) (by omega)
 | n+1,l,hn,h=>by
  by_cases hm:n∈l
  ·have h1:=kC n (l.erase n) (hn.erase n) (fun x hx=>by
    have h2:=(hn.mem_erase_iff).1 hx;have:=h x h2.2;have:=h2.1;omega)
   rw [List.length_erase_of_mem hm] at h1;omega
  have:=kC n l hn (fun x hx=>by
   have:=h x hx;have:x≠n:=fun e=>hm (e▸hx);omega)
  omega
theorem UB {n:Nat} {D:DataW Unit} (ht:Tidy D) (h:∀ kl,has D kl=true→WideAt.IsKeyLit kl→∃ i,i<n∧kl=KL i) (hk:∀ es,D= .map es→∀ p∈es,WideAt.IsKeyLit p.1):Maps.size D≤n:=by
 obtain ⟨es,rfl,hp⟩:=ht;have hk:=hk es rfl;have hx:∀ p∈es,∃ i,i<n∧p.1=KL i:=fun p hp=>h p.1 (List.any_eq_true.2 ⟨p,hp,WideAt.sameKey_self (hk p hp)⟩) (hk p hp);have hl:=kC n (es.map fun p=>match p.1 with | .int _ z=>z.toNat | _=>0) (by
  unfold List.Nodup;rw [List.pairwise_map];refine hp.imp_of_mem (fun {p q} hp hq hne e=>hne ?_);obtain ⟨i,hi,ep⟩:=hx p hp;obtain ⟨j,hj,eq⟩:=hx q hq;rw [ep,eq] at e ⊢;have:i=j:=by simpa [KL] using e
  rw [this]) (fun x hx'=>by
  obtain ⟨p,hp,rfl⟩:=List.mem_map.1 hx';obtain ⟨i,hi,ep⟩:=hx p hp;rw [ep]
  simpa [KL] using hi)
 simpa [Maps.size] using hl
structure DK where
 dd:Nat
 sb:Nat
 mb:Nat
def DK.S (I:DK) (k:Nat):Prop:=k=I.dd∨k=I.sb∨k=I.mb
structure Cach (I:DK) (w:World) (K:Nat→Prop) (n:Nat) (S C:Bs) (D:DataW Unit):Prop where
 keys:∀ kl,has D kl=true→∃ i,i<n∧kl=KL i
 same:∀ i,i<n→has D (KL i)=false→sec S i=sec C i
 held:∀ i,i<n→has D (KL i)=true→∃ b c,(∀ zd,D.atKey (KL i) zd=slD b 64 c)∧w.ownsRow 0 5 1 (.slice (some ⟨b,0,none⟩) 64 c) 64 (zc (sec C i))∧K b∧¬ I.S b
def wk (I:DK) (n:Nat) (cnt:Int):List Value:=[.slice (some ⟨I.sb,0,none⟩) (64*n) (64*n),.map (some I.mb),.slice none 0 0,.int .i64 cnt,.bool false]
structure Disk (I:DK) (w:World) (K:Nat→Prop) (n:Nat) (S C:Bs):Prop where
 ex:∃ cnt D,BlkL w I.dd 86 (wk I n cnt)∧w.ownsMap Tryz.prog 3 xk I.mb n D∧Cach I w K n S C D
 row:BlkL w I.sb 5 (zc S)
 ls:S.length=64*n
 lc:C.length=64*n
 n1:1≤n
 n2:n≤100
theorem Cach.kept {I:DK} {w w':World} {K:Nat→Prop} {n:Nat} {S C:Bs} {D:DataW Unit} (h:Cach I w K n S C D) (hk:∀ b cur,K b→¬ I.S b→w.heap[b]? =some (.cells cur 5 (0,0))→w'.heap[b]? =w.heap[b]?):Cach I w' K n S C D :=
 ⟨h.keys,h.same,fun i hi hh=>by
  obtain ⟨b,c,h1,⟨hl,h2⟩,h3,h4⟩:=h.held i hi hh;refine ⟨b,c,h1,⟨hl,?_⟩,h3,h4⟩;rcases h2 with ⟨h,_⟩ | ⟨g,cap,cur,e,hb,hg,rest⟩
  ·cases h
  injection e with e1 _ e2
  injection e1 with e1
  injection e1 with e1
  subst e1 e2;exact .inr ⟨_,_,cur,rfl,hb,(hk _ cur h3 h4 hg).trans hg,rest⟩⟩
theorem Disk.kept {I:DK} {w w':World} {K:Nat→Prop} {n:Nat} {S C:Bs} (h:Disk I w K n S C) {T:Nat→Prop} (hb:But T w w') (h1:∀ k,I.S k→¬ T k) (h2:∀ b cur,K b→¬ I.S b→w.heap[b]? =some (.cells cur 5 (0,0))→¬ T b):Disk I w' K n S C:=by
 obtain ⟨⟨cnt,D,e1,e2,e3⟩,e4,e5,e6,e7,e8⟩:=h;have hm:=e2.lt;refine ⟨⟨cnt,D,e1.but hb (h1 _ (.inl rfl)),?_,e3.kept fun b cur hbl hs hc=>hb.block b (Array.getElem?_eq_some_iff.1 hc).1 (h2 b cur hbl hs hc)⟩,e4.but hb (h1 _ (.inr (.inl rfl))),e5,e6,e7,e8⟩;obtain ⟨es,clock,hbk,rest⟩:=e2;exact ⟨es,clock,(hb.block _ hm (h1 _ (.inr (.inr rfl)))).trans hbk,rest⟩
theorem Disk.lt {I:DK} {w:World} {K:Nat→Prop} {n:Nat} {S C:Bs} (h:Disk I w K n S C):∀ k,I.S k→k<w.heap.size:=by
 obtain ⟨⟨cnt,D,e1,e2,e3⟩,e4,_⟩:=h;rintro k (rfl | rfl | rfl)
 ·exact e1.lt
 ·exact e4.lt
 exact e2.lt
theorem Disk.below {I:DK} {w w':World} {K:Nat→Prop} {n:Nat} {S C:Bs} (h:Disk I w K n S C) (hb:Below w.heap.size w w'):Disk I w' K n S C :=
 h.kept (T:=fun _=>False) ⟨hb.os,hb.tape,hb.output,hb.size,fun k hk _=>hb.block k hk⟩ (fun _ _ h=>h) (fun _ _ _ _ _ h=>h)
theorem Disk.mono {I:DK} {w:World} {K K':Nat→Prop} {n:Nat} {S C:Bs} (h:Disk I w K n S C) (h1:∀ k,K k→K' k):Disk I w K' n S C:=by
 obtain ⟨⟨cnt,D,e1,e2,e3⟩,e4,e5,e6,e7,e8⟩:=h;exact ⟨⟨cnt,D,e1,e2,e3.keys,e3.same,fun i hi hh=>by obtain ⟨b,c,a1,a2,a3,a4⟩:=e3.held i hi hh;exact ⟨b,c,a1,a2,h1 _ a3,a4⟩⟩,e4,e5,e6,e7,e8⟩
theorem Disk.grown {I:DK} {w w':World} {K:Nat→Prop} {n:Nat} {S C:Bs} {row:Option Nat} (h:Disk I w K n S C) (hg:w.grownBy w' row) (hr:∀ r,row=some r→¬ I.S r∧¬ K r):Disk I w' K n S C :=
 h.kept (T:=fun k=>row=some k) (.of_grown hg (fun _ e=>e)) (fun k hk e=>(hr k e).1 hk) (fun b cur hb _ _ e=>(hr b e).2 hb)
theorem Disk.typed {I:DK} {w w':World} {K:Nat→Prop} {n g:Nat} {S C:Bs} (h:Disk I w K n S C) {cs:Array Value} {T:TypeId} {fz:Nat × Nat} (hg:w.heap[g]? =some (.cells cs T fz)) (hT:T≠5) (hD:T≠86) (hb:But (fun k=>k=g) w w'):Disk I w' K n S C:=by
 refine h.kept hb ?_ (fun b cur _ _ hc e=> ?_)
 ·obtain ⟨⟨cnt,D,e1,e2,e3⟩,e4,_⟩:=h;rintro k (rfl | rfl | rfl) rfl
  ·unfold BlkL at e1;rw [hg] at e1;simp at e1;exact hD e1.2.1
  ·unfold BlkL at e4;rw [hg] at e4;simp at e4;exact hT e4.2.1
  obtain ⟨es,clock,hbk,_⟩:=e2;rw [hg] at hbk;cases hbk
 subst e;rw [hg] at hc;simp at hc;exact hT hc.2.1
theorem Disk.ne {I:DK} {w:World} {K:Nat→Prop} {n:Nat} {S C:Bs} (h:Disk I w K n S C):I.dd≠I.sb∧I.dd≠I.mb∧I.sb≠I.mb:=by
 obtain ⟨⟨cnt,D,e1,e2,e3⟩,e4,_⟩:=h;obtain ⟨es,clock,hbk,_⟩:=e2;unfold BlkL at e1 e4;refine ⟨fun e=> ?_,fun e=> ?_,fun e=> ?_⟩
 ·rw [e,e4] at e1;simp at e1
 ·rw [e,hbk] at e1;cases e1
 rw [e,hbk] at e4;cases e4
theorem Cach.put {I:DK} {w w':World} {K K':Nat→Prop} {n:Nat} {S C:Bs} {D:DataW Unit} (h:Cach I w K n S C D) (ht:Tidy D) {i b c:Nat} (hi:i<n) {d:Bs} (hC:C.length=64*n) (hd:d.length=64) (hk:∀ b cur,K b→¬ I.S b→w.heap[b]? =some (.cells cur 5 (0,0))→w'.heap[b]? =w.heap[b]?)
  (ho:w'.ownsRow 0 5 1 (.slice (some ⟨b,0,none⟩) 64 c) 64 (zc d)) (hb:K' b) (hS:¬ I.S b) (hB:∀ k,K k→K' k):Cach I w' K' n S (splice C (64*i) d) (D.put (KL i) (slD b 64 c)):=by
 have h':=h.kept hk;refine ⟨fun kl hkl=> ?_,fun j hj hh=> ?_,fun j hj hh=> ?_⟩
 ·by_cases e:kl=KL i
  ·exact ⟨i,hi,e⟩
  rw [has_put_other e] at hkl;exact h.keys kl hkl
 ·by_cases e:j=i
  ·subst e;rw [has_put_same ht.isMap (Wp _)] at hh;cases hh
  rw [has_put_other (fun e2=>e (bP e2))] at hh;rw [sX hC hi hd e];exact h.same j hj hh
 by_cases e:j=i
 ·subst e;exact ⟨b,c,fun zd=>atKey_put_same ht.isMap (Wp _) ..,by rw [Zp hC hi hd];exact ho,hb,hS⟩
 rw [has_put_other (fun e2=>e (bP e2))] at hh;obtain ⟨b',c',a1,a2,a3,a4⟩:=h'.held j hj hh;refine ⟨b',c',fun zd=> ?_,?_,hB _ a3,a4⟩
 ·rw [atKey_put_other (fun e2=>e (bP e2))];exact a1 zd
 rw [sX hC hi hd e];exact a2
theorem Cach.tight {I:DK} {w:World} {K:Nat→Prop} {n m:Nat} {S C:Bs} {D:DataW Unit} (h:Cach I w K n S C D) (KY:Keyed Tryz.prog 3) (ho:w.ownsMap Tryz.prog 3 xk I.mb m D):w.ownsMap Tryz.prog 3 xk I.mb n D:=by
 have hs:=UB (ho.tidy KY) (fun kl hk _=>h.keys kl hk) (fun es e p hp=>by
  obtain ⟨es',e',_,h3⟩:=ho.entries KY;rw [e] at e';injection e' with e'
  subst e';exact h3 p hp)
 obtain ⟨es,clock,h1,h2,h3,rfl⟩:=ho;refine ⟨es,clock,h1,h2,?_,rfl⟩
 simpa [Maps.size,length_sorted] using hs
theorem Cach.empty (I:DK) (w:World) (K:Nat→Prop) (n:Nat) (S:Bs):Cach I w K n S S (.map []):=⟨fun kl h=>by simp [has] at h,fun _ _ _=>rfl,fun i _ h=>by simp [has] at h⟩
theorem ci (v:Value) (l:Bs) (w:World) (hv:Byts w v l) (hl:l.length≤1000000):Calls Tryz.prog 136 #[v] w fun e w'=>∃ a c,e= .returned (.slice a l.length c)∧w'.ownsRow w.heap.size 5 1 (.slice a l.length c) l.length (zc l)∧Below w.heap.size w w':=by
 obtain ⟨iB0,iB⟩:=info_parts yD;have q45:∀ (w:World) (a:Option Addr) (n c n' c':Nat),(binOp .eql 34 (.slice a n c) (.slice none n' c')).run Tryz.prog w= .ok (.bool a.isNone) w:=fun w a n c n' c'=>Lib.run_eql_slice_nil w _ _ a n c n' c' Tryz.underlying34;obtain ⟨a,cap,rfl,hn,hm,hc⟩:=hv.open;clear hv;have hown:(w.alloc (.cells #[] 5)).ownsRow w.heap.size 5 1 (.slice (some ⟨w.heap.size,0,none⟩) 0 0) 0 []:=World.ownsRow_made w #[] 0 (Nat.le_refl _) (by simp [maxLen]) (by simp);rcases Nat.eq_zero_or_pos l.length with h0 | hpos
 ·obtain rfl:l=[]:=List.eq_nil_of_length_eq_zero h0;clear hc;cases a with
  | none =>
   go_enter Tryz.func136,Tryz.ntmps136
   go_wp2
   all_goals try omega
   go_ret;exact ⟨none,0,rfl,World.ownsRow_nil _ _ _ _,Below.refl _ _⟩
  | some a =>
   go_enter Tryz.func136,Tryz.ntmps136
   go_wp2
   all_goals try omega
   go_ret;exact ⟨_,_,rfl,hown,(Below.refl _ w).alloc (Nat.le_refl _) _⟩
 obtain ⟨b,off,rfl,hb,hcell⟩:=hc hpos;have hnews:∀ j u,(zc l)[j]? =some u→(w.alloc (.cells #[] 5)).cell? ((⟨b,off,none⟩:Addr).add j)=some u:=by
  intro j u hj;obtain ⟨h,e⟩:=List.getElem?_eq_some_iff.1 hj;have hjl:j<l.length:=by simpa using h
  rw [pJ,World.cell?_alloc_past _ _ _ hb,hcell j hjl,←e];simp [zc]
 have h1:∀ u∈zc l,u.oneCell'=true:=by
  intro u hu;unfold zc at hu;obtain ⟨x,_,rfl⟩:=List.mem_map.1 hu;rfl
 clear hc hcell;go_enter Tryz.func136,Tryz.ntmps136
 go_wp2_with (at_builtin;refine wpList_append_own _ rfl (.tmp 5) (.tmp 6) 34 rfl w.heap.size 5 iB0 (.int .u8 0) 1 1 Tryz.underlying34 iB.1 iB.2.1 iB.2.2.1 iB.2.2.2 rfl (by decide) _ _ _ rfl hown ⟨b,off,none⟩ l.length cap (zc l) rfl (by simp) hnews h1 (by unfold maxLen;omega) (by omega) (by simp) ?_;intro v1 w1 hown1 hgrow1 hnil1)
 all_goals try omega
 rw [Nat.zero_add,List.nil_append] at hown1;obtain ⟨a2,c2,rfl⟩:∃ a2 c2,v1= .slice a2 l.length c2:=by
  rcases hown1.2 with ⟨rfl,h⟩ | ⟨g,cap,cur,rfl,_⟩
  ·omega
  exact ⟨_,_,rfl⟩
 go_ret;exact ⟨a2,c2,rfl,hown1,((Below.refl _ w).alloc (Nat.le_refl _) _).grown hgrow1 (by simp) (fun k e=>by have e2:some w.heap.size=some k:=e;cases e2;exact Nat.le_refl _)⟩
theorem Disk.count {I:DK} {w:World} {K:Nat→Prop} {n:Nat} {S C:Bs} (h:Disk I w K n S C) (c:Int):Disk I (w.setCell ⟨I.dd,3,none⟩ (.int .i64 c)) K n S C∧But I.S w (w.setCell ⟨I.dd,3,none⟩ (.int .i64 c)):=by
 have hne:=h.ne;have hb:But (fun k=>k=I.dd) w (w.setCell ⟨I.dd,3,none⟩ (.int .i64 c)):=But.set (S:=fun k=>k=I.dd) (b:=I.dd) (But.refl _ w) (.inl rfl) 3 _;refine ⟨?_,(But.refl I.S w).step hb (fun i e=> .inl (.inl e))⟩;obtain ⟨⟨cnt,D,e1,e2,e3⟩,e4,e5,e6,e7,e8⟩:=h;refine ⟨⟨c,D,e1.set 3 (by simp [wk]) _,e2.setCell (fun e=>hne.2.1 e.symm) _,e3.kept (fun b cur hb hs hc=>Below.heap_setCell w ⟨I.dd,3,none⟩ _ b (fun e=>hs (.inl e)))⟩,e4.but hb (fun e=>hne.1 e.symm),e5,e6,e7,e8⟩
theorem tq (I:DK) (w:World) (K:Nat→Prop) (n:Nat) (S C:Bs) (h:Disk I w K n S C):Calls Tryz.prog 64 #[.pointer (some ⟨I.dd,0,none⟩)] w fun e w'=>e= .returned (.int .i64 (n:Int))∧w=w':=by
 obtain ⟨⟨cnt,D,e1,e2,e3⟩,e4,e5,e6,e7,e8⟩:=h;have c0:=e1.c 0 _ rfl;clear e1 e2 e3 e4 e5 e6;go_enter Tryz.func64,Tryz.ntmps64
 go_wp2
 all_goals try omega
 go_ret;refine ⟨xz ?_,rfl⟩;omega
theorem Rs (I:DK) (w:World) (K:Nat→Prop) (n i:Nat) (S C:Bs) (h:Disk I w K n S C) (hi:i<n):Calls Tryz.prog 30 #[.pointer (some ⟨I.dd,0,none⟩),.int .i64 (i:Int)] w fun e w'=>e= .returned (.slice (some ⟨I.sb,64*i,none⟩) 64 (64*n - 64*i))∧w=w':=by
 obtain ⟨⟨cnt,D,e1,e2,e3⟩,e4,e5,e6,e7,e8⟩:=h;have c0:=e1.c 0 _ rfl;clear e1 e2 e3 e4 e5 e6;go_enter Tryz.func30,Tryz.ntmps30
 go_wp2
 all_goals try omega
 go_ret;refine ⟨?_,rfl⟩;have e1:(i+1)*64 - i*64=64:=by omega
 show Ending.returned (.slice (some ⟨I.sb,i*64,none⟩) ((i+1)*64 - i*64) (64*n - i*64))=_;rw [e1,Nat.mul_comm i 64]
theorem Tx (I:DK) (w:World) (K:Nat→Prop) (n:Nat) (S C:Bs) (h:Disk I w K n S C):Calls Tryz.prog 201 #[.pointer (some ⟨I.dd,0,none⟩)] w fun e w'=>e= .returned (.int .i64 0)∧∃ c,w'=w.setCell ⟨I.dd,3,none⟩ (.int .i64 c):=by
 obtain ⟨⟨cnt,D,e1,e2,e3⟩,e4,e5,e6,e7,e8⟩:=h;have c3:=e1.c 3 _ rfl;have f3:=e1.f 3;have c2:∀ c,(w.setCell ⟨I.dd,3,none⟩ (.int .i64 c)).cell? ⟨I.dd,2,none⟩=some (.slice none 0 0):=fun c=>(e1.set 3 (by simp [wk]) (.int .i64 c)).c 2 _ rfl;clear e1 e2 e3 e4 e5 e6;go_enter Tryz.func201,Tryz.ntmps201
 go_wp2;go_loopw [22] (fun iv wr=>iv= .int .i64 0∧∃ c,wr=w.setCell ⟨I.dd,3,none⟩ (.int .i64 c)) (fun _ _=>0)
 case atStart=>exact ⟨rfl,_,rfl⟩
 case round =>
  obtain ⟨rfl,c,rfl⟩:=hrel;go_wp2
  all_goals try omega
  go_ret;exact ⟨rfl,_,rfl⟩
theorem jV (I:DK) (w:World) (K:Nat→Prop) (n:Nat) (S C:Bs) (h:Disk I w K n S C):Calls Tryz.prog 135 #[.pointer (some ⟨I.dd,0,none⟩),.bool true] w fun e w'=>e= .returned (.tuple #[.bool false,.int .i64 0])∧Disk I w' K n S C∧But I.S w w'∧w'.heap.size=w.heap.size:=by
 have HF:=KZ9 (Tx I w K n S C h);have HC:=KZ9 (h.count);obtain ⟨⟨cnt,D,e1,e2,e3⟩,e4,e5,e6,e7,e8⟩:=h;have c4:=e1.c 4 _ rfl;clear e1 e2 e3 e4 e5 e6;go_enter Tryz.func135,Tryz.ntmps135
 go_wp2_with fail
 all_goals try omega
 refine HF.out.mono ?_;rintro e w1 ⟨rfl,c,rfl⟩;go_wp2
 all_goals try omega
 go_ret2;exact ⟨rfl,(HC.out c).1,(HC.out c).2,by simp⟩
end Go.Proofs.YtbnnlkdhpifpeaaGreatDoor
namespace Go.Proofs.YtbnnlkdhpifpeaaGreatDoor
open Go.RowKit Hs
theorem Byts.cut {w:World} {b off n cap:Nat} {l:Bs} (h:Byts w (.slice (some ⟨b,off,none⟩) n cap) l) (i m c:Nat) (h1:i+m≤n) (h2:m≤c) (h3:c≤cap):Byts w (.slice (some ⟨b,off+i,none⟩) m c) ((l.drop i).take m):=by
 obtain ⟨hl,a,cap',hv,hn,hm,h⟩:=h;injection hv with e1 e2 e3
 have hll:((l.drop i).take m).length=m:=by rw [List.length_take,List.length_drop];omega
 refine ⟨by simp,_,_,by rw [hll],by omega,by omega,?_⟩;rw [hll];rcases Nat.eq_zero_or_pos m with h0 | h0
 ·exact .inl h0
 rcases h with h | ⟨b',off',he,hlt,hc⟩
 ·omega
 rw [←e1] at he;injection he with he
 injection he with h5 h6
 subst h5 h6;refine .inr ⟨b,off+i,rfl,hlt,fun j u hj=> ?_⟩;have hjm:j<m:=by have:=(List.getElem?_eq_some_iff.1 hj).1;rw [zX,hll] at this;exact this
 rw [Nat.add_assoc];refine hc (i+j) u ?_;rw [←hj];unfold zc;rw [List.getElem?_map,List.getElem?_map,List.getElem?_take,List.getElem?_drop,if_pos hjm]
theorem SU {a b:Nat} (h:((a:Int) != (b:Int))=true):a≠b:=fun e=>by rw [e] at h;simp at h
theorem SV {a b:Nat} (h:((a:Int) != (b:Int))=false):¬ a≠b:=fun e=>by simp at h;omega
def ve (b:Bs) (epoch seq:Nat) (w:World) (e:Ending) (w':World):Prop :=
 (match uh b epoch seq with
 | none=>∃ c:Int,c≠0∧e= .returned (.tuple #[.slice none 0 0,.int .i64 0,.int .i64 c])
 | some (p,k)=>∃ a cap,e= .returned (.tuple #[.slice a p.length cap,.int .i64 (k:Int),.int .i64 0])∧w'.ownsRow w.heap.size 5 1 (.slice a p.length cap) p.length (zc p))∧Below w.heap.size w w'
theorem QX (l:Bs) (h:l.length≤2):rd l<65536:=Nat.lt_of_lt_of_le (WH l) (Nat.le_trans (Nat.pow_le_pow_right (by decide) h) (by decide))
set_option maxRecDepth 20000
set_option maxHeartbeats 4000000
theorem pA (v:Value) (l:Bs) (epoch seq:Nat) (w:World) (hv:Byts w v l) (hl:l.length≤100000) (he:epoch<4294967296) (hs:seq<4294967296):Calls Tryz.prog 260 #[v,.int .u32 (epoch:Int),.int .u32 (seq:Int)] w (ve l epoch seq w):=by
 obtain ⟨a,cap,rfl,k1,k2,hc⟩:=hv.open;unfold maxLen at k2;have HV:=KZ9 hv;obtain ⟨n,hn⟩:=KZ6 l.length;have HN:=KZ9 hn;have HDEF:Hid (ve l epoch seq w=ve l epoch seq w):=KZ9 rfl;rw [←hn] at hl HV k1 ⊢;by_cases h14:n<14
 ·have hfin:Hid (uh l epoch seq=none):=KZ9 (by unfold uh;rw [if_pos (by omega)]);clear hv hn hc;go_enter Tryz.func260,Tryz.ntmps260
  go_wp2
  all_goals try omega
  go_ret3
  unfold ve;rw [hfin.out];exact ⟨⟨5,by decide,rfl⟩,Below.refl _ _⟩
 obtain ⟨b,off,rfl,hb,_⟩:=hc (by omega);have hF:uh l epoch seq=(if 1024<rd (l.take 2) then none
  else if l.length<14+rd (l.take 2) then none
  else if rd ((l.drop (10+rd (l.take 2))).take 4)≠wX (l.take (10+rd (l.take 2))) then none
  else if rd ((l.drop 2).take 4)≠epoch∨rd ((l.drop 6).take 4)≠seq then none
  else some ((l.drop 10).take (rd (l.take 2)),14+rd (l.take 2))):=by
  conv=>lhs;unfold uh
  rw [if_neg (by omega)]
 have c2:Byts w (.slice (some ⟨b,off,none⟩) 2 cap) (l.take 2):=by
  have:=HV.out.cut 0 2 cap (by omega) (by omega) (Nat.le_refl _)
  simpa using this
 have hr2:rd (l.take 2)<65536:=QX _ (by simp;omega);have HR2:=KZ9 (jy _ _ w c2 (by simp;omega));obtain ⟨m,hm⟩:=KZ6 (rd (l.take 2));rw [←hm] at hF hr2 HR2;have HF:=KZ9 hF;have HM:=KZ9 hm;clear hF c2 hv hn hc hm;go_enter Tryz.func260,Tryz.ntmps260
 go_wp2_with fail
 all_goals try omega
 refine HR2.out.mono ?_;rintro e w1 ⟨rfl,hb1⟩;have HB1:=KZ9 hb1;have HV1:=KZ9 (HV.out.below hb1);clear hb1 HR2;by_cases h24:1024<m
 ·have hfin:Hid (uh l epoch seq=none):=KZ9 (by rw [HF.out,if_pos h24]);have HSZ:=KZ9 (Sw m w1 h24 (by omega));go_wp2_with (go_at_call 219;refine HSZ.out.mono ?_;rintro e w' ⟨rfl,rfl⟩)
  all_goals try omega
  go_ret3
  unfold ve;rw [hfin.out];exact ⟨⟨3,by decide,rfl⟩,HB1.out⟩
 have HSZ:=KZ9 (Vj m w1 (by omega));have hF2:=HF.out;rw [if_neg h24,←HN.out] at hF2;have HF2:=KZ9 hF2;clear hF2 HF;by_cases hnl:n<14+m
 ·have hfin:Hid (uh l epoch seq=none):=KZ9 (by rw [HF2.out,if_pos hnl]);go_wp2_with (go_at_call 219;refine HSZ.out.mono ?_;rintro e w' ⟨rfl,rfl⟩)
  all_goals try omega
  go_ret3
  unfold ve;rw [hfin.out];exact ⟨⟨5,by decide,rfl⟩,HB1.out⟩
 have hF3:=HF2.out;rw [if_neg hnl] at hF3;have HF3:=KZ9 hF3;clear hF3 HF2;have d1:Byts w1 (.slice (some ⟨b,off+(14+m - 4),none⟩) (14+m - (14+m - 4)) (cap - (14+m - 4))) ((l.drop (10+m)).take 4):=by
  have:=HV1.out.cut (14+m - 4) (14+m - (14+m - 4)) (cap - (14+m - 4)) (by omega) (by omega) (by omega);rw [show 14+m - 4=10+m by omega,show 14+m - (10+m)=4 by omega] at this ⊢;exact this
 have d2:Byts w1 (.slice (some ⟨b,off,none⟩) (14+m - 4) cap) (l.take (10+m)):=by
  have:=HV1.out.cut 0 (14+m - 4) cap (by omega) (by omega) (Nat.le_refl _);rw [show 14+m - 4=10+m by omega] at this ⊢
  simpa using this
 have hCA:=fun x:xi w1=>jy _ _ x.1 (d1.below x.2) (by simp;omega);have hCB:=fun x:xi w1=>tX _ _ x.1 (d2.below x.2) (by simp;omega);obtain ⟨q1,hq1⟩:=KZ6 (rd ((l.drop (10+m)).take 4));obtain ⟨q2,hq2⟩:=KZ6 (wX (l.take (10+m)));rw [←hq1] at hCA;rw [←hq2] at hCB;have hF4:=HF3.out;rw [←hq1,←hq2] at hF4;have HF4:=KZ9 hF4;have HCA:=KZ9 hCA;have HCB:=KZ9 hCB;clear hF4 hCA hCB hq1 hq2 d1 d2 HF3;obtain ⟨t,ht⟩:=KZ6 (((q1:Int) != (q2:Int)));have hbt:((q1:Int) != (q2:Int))=t:=ht.symm;have HT:=KZ9 ht;clear ht;go_upto_region 9 with (go_at_call 219;refine HSZ.out.mono ?_;rintro e w' ⟨rfl,rfl⟩)
 all_goals try omega
 refine xI w1 (by kernel_rfl) (by kernel_rfl) (Below.refl _ _) ?_;repeat (go_big_quiet_step (first | (go_at_call 295;exact Calls.later (HCA.out _)) | (go_at_call 67;exact Calls.later_same ((HCB.out _).mono fun e w' h=>⟨h.1,h.2⟩))))
 refine wpQuiet_nil ?_;intro w2 hw';obtain ⟨⟨w3,hb3⟩,hw3⟩:=hw';have hb2:Below w1.heap.size w1 w2:=hw3▸hb3;have HB2:=KZ9 (HB1.out.trans (hb2.mono HB1.out.size));have HV2:=KZ9 (HV1.out.below hb2);clear hw3 hb3 hb2 HB1 HV1 HCA HCB HSZ;cases t with
 | true =>
  have hfin:Hid (uh l epoch seq=none):=KZ9 (by rw [HF4.out,if_pos (SU HT.out.symm)]);go_wp2
  all_goals try omega
  go_ret3
  unfold ve;rw [hfin.out];exact ⟨⟨7,by decide,rfl⟩,HB2.out⟩
 | false =>
  have hF5:=HF4.out;rw [if_neg (SV HT.out.symm)] at hF5;have HF5:=KZ9 hF5;clear hF5 HF4;have d3:Byts w2 (.slice (some ⟨b,off+2,none⟩) 4 (cap - 2)) ((l.drop 2).take 4):=HV2.out.cut 2 4 (cap - 2) (by omega) (by omega) (by omega);have hC3:=jy _ _ w2 d3 (by simp;omega);have hC4:=fun W (hb:Below w2.heap.size w2 W)=>jy (.slice (some ⟨b,off+6,none⟩) 4 (cap - 6)) ((l.drop 6).take 4) W (Byts.below (HV2.out.cut 6 4 (cap - 6) (by omega) (by omega) (by omega)) hb) (by simp;omega);obtain ⟨r3,hr3⟩:=KZ6 (rd ((l.drop 2).take 4));obtain ⟨r4,hr4⟩:=KZ6 (rd ((l.drop 6).take 4));rw [←hr3] at hC3;rw [←hr4] at hC4;have hF6:=HF5.out;rw [←hr3,←hr4] at hF6;have HF6:=KZ9 hF6;have HC3:=KZ9 hC3;have HC4:=KZ9 hC4;clear hF6 hC3 hC4 hr3 hr4 d3 HF5;obtain ⟨t3,ht3⟩:∃ t,t=((r3:Int) != (epoch:Int)):=⟨_,rfl⟩;have hb3:((r3:Int) != (epoch:Int))=t3:=ht3.symm;have HT3:=KZ9 ht3
  obtain ⟨t4,ht4⟩:∃ t,t=((r4:Int) != (seq:Int)):=⟨_,rfl⟩;have hb4:((r4:Int) != (seq:Int))=t4:=ht4.symm;have HT4:=KZ9 ht4;clear ht3 ht4;cases t3 with
  | true =>
   have hfin:Hid (uh l epoch seq=none):=KZ9 (by rw [HF6.out,if_pos (.inl (SU HT3.out.symm))]);go_wp2_with (first | (go_at_call 295;refine HC3.out.mono ?_;rintro e w3 ⟨rfl,hb3⟩))
   all_goals try omega
   go_ret3
   unfold ve;rw [hfin.out];exact ⟨⟨8,by decide,rfl⟩,HB2.out.trans (hb3.mono HB2.out.size)⟩
  | false =>
   go_wp2_with fail
   all_goals try omega
   refine HC3.out.mono ?_;rintro e w3 ⟨rfl,hb3'⟩;have HC5:=KZ9 (HC4.out w3 hb3');have HB3:=KZ9 (HB2.out.trans (hb3'.mono HB2.out.size));have HV3:=KZ9 (HV2.out.below hb3');clear hb3' HC3 HC4 HB2 HV2;cases t4 with
   | true =>
    have hfin:Hid (uh l epoch seq=none):=KZ9 (by rw [HF6.out,if_pos (.inr (SU HT4.out.symm))]);go_wp2_with (first | (go_at_call 295;refine HC5.out.mono ?_;rintro e w4 ⟨rfl,hb4'⟩))
    all_goals try omega
    go_ret3
    unfold ve;rw [hfin.out];exact ⟨⟨8,by decide,rfl⟩,HB3.out.trans (hb4'.mono HB3.out.size)⟩
   | false =>
    have hfin:Hid (uh l epoch seq=some ((l.drop 10).take m,14+m)):=KZ9 (by
     rw [HF6.out,if_neg];rintro (h | h)
     ·exact SV HT3.out.symm h
     exact SV HT4.out.symm h)
    go_wp2_with fail
    all_goals try omega
    refine HC5.out.mono ?_;rintro e w4 ⟨rfl,hb4'⟩;have HB4:=KZ9 (HB3.out.trans (hb4'.mono HB3.out.size));have hpl:((l.drop 10).take m).length=m:=by rw [List.length_take,List.length_drop,←HN.out];omega
    have hcl:=ci (.slice (some ⟨b,off+10,none⟩) m (cap - 10)) ((l.drop 10).take m) w4 (by
     have:=(HV3.out.below hb4').cut 10 m (cap - 10) (by omega) (by omega) (by omega);exact this) (by rw [hpl];omega)
    rw [hpl] at hcl;have HCL:=KZ9 hcl;have HPL:=KZ9 hpl;clear hb4' hcl hpl HC5 HB3 HV3;go_wp2_with fail
    all_goals try omega
    refine HCL.out.mono ?_;rintro e w5 ⟨a5,c5,rfl,hown5,hb5⟩;go_wp2
    all_goals try omega
    go_ret3
    unfold ve;rw [hfin.out];refine ⟨⟨a5,c5,by simp only [HPL.out];simp,?_⟩,HB4.out.trans (hb5.mono HB4.out.size)⟩;simp only [HPL.out];exact vr hown5 HB4.out.size
theorem UZ (w:World) (X:ByteArray) (l:Bs) (hX:un X=l) (hm:X.size≤maxLen) :
  Byts (w.drew.alloc (.cells (bytesRow X (grownCap w X.size 0 5)) 5 ((bytesRow X (grownCap w X.size 0 5)).size,(bytesRow X (grownCap w X.size 0 5)).size+1)))
   (.slice (some ⟨w.heap.size,0,none⟩) X.size (grownCap w X.size 0 5)) l:=by
 subst hX;have hl:X.size=(un X).length:=(za X).symm;have hg:=grownCap_ge w X.size 0 5;have hg2:=grownCap_le_maxLen w X.size 0 5 hm;refine ⟨by simp,_,_,?_,hl▸hg,hg2,.inr ⟨w.heap.size,0,rfl,by simp,fun j u hj=> ?_⟩⟩
 ·rw [hl]
 have hjl:j<X.data.size:=by
  have:=(List.getElem?_eq_some_iff.1 hj).1;rw [zX,←hl] at this;exact this
 rw [Nat.zero_add];have h2:=World.cell?_alloc_mark w.drew (bytesRow X (grownCap w X.size 0 5)) 5 ((bytesRow X (grownCap w X.size 0 5)).size,(bytesRow X (grownCap w X.size 0 5)).size+1) j;refine h2.trans ?_;rw [bytesRow_at X _ j hjl,←hj];simp [zc,un];rw [Array.getElem?_eq_getElem hjl];rfl
theorem Wi (w:World) (X:ByteArray):Below w.heap.size w (w.drew.alloc (.cells (bytesRow X (grownCap w X.size 0 5)) 5 ((bytesRow X (grownCap w X.size 0 5)).size,(bytesRow X (grownCap w X.size 0 5)).size+1))) :=
 (Below.refl _ w).drew.alloc (Nat.le_refl _) _
theorem xe (r:Bs):∀ u∈zc r,u.oneCell'=true:=by
 intro u hu;unfold zc at hu;obtain ⟨x,_,rfl⟩:=List.mem_map.1 hu;rfl
theorem ji (w:World) (ty:TypeId) (base:Nat) (v:Value) (n:Nat) (xs:List Value) (hown:w.ownsRow base 5 1 v n xs) (xv:Value) (r:Bs) (hr:Byts w xv r) (h1:n+r.length≤1000000) (hb:base≤w.heap.size) :
  ∃ v' w',(Builtin.append_ #[34,34] ty #[v,xv]).run Tryz.prog w= .ok v' w'∧w'.ownsRow base 5 1 v' (n+r.length) (xs++zc r)∧w.grownBy w' v.ownBlock:=by
 obtain ⟨iB0,iB⟩:=info_parts yD;obtain ⟨ar,c,rfl,hn,hm,hc⟩:=hr.open;rcases Nat.eq_zero_or_pos r.length with h0 | hpos
 ·obtain rfl:r=[]:=List.eq_nil_of_length_eq_zero h0;refine ⟨v,w,?_,by simpa [zc] using hown,⟨rfl,rfl,rfl,Nat.le_refl _,fun _ _ _=>rfl⟩⟩;rcases hown.2 with ⟨rfl,rfl⟩ | ⟨g,cap,cur,rfl,_,_,hnc,_⟩<;>cases ar <;>
   simp [Builtin.append_,run_underlying Tryz.underlying34,sizeOf,typeInfo,iB.1,Builtin.lenOf,Builtin.firstCells,loadCells,loadCellsFrom,storeCells, *]
 obtain ⟨b,off,rfl,hlt,hcell⟩:=hc hpos;have hnews:∀ j u,(zc r)[j]? =some u→w.cell? ((⟨b,off,none⟩:Addr).add j)=some u:=by
  intro j u hj;obtain ⟨h,e⟩:=List.getElem?_eq_some_iff.1 hj;have hjl:j<r.length:=by simpa using h
  rw [pJ,hcell j hjl,←e];simp [zc]
 obtain ⟨v',w',h2,h3,h4,_⟩:=run_append_own (P:=Tryz.prog) w base 34 ty 5 iB0 (.int .u8 0) 1 1 Tryz.underlying34 iB.1 iB.2.1 iB.2.2.1 iB.2.2.2 rfl (by decide) v n xs hown ⟨b,off,none⟩ r.length c (zc r) (by simp) hnews (xe r) (by unfold maxLen;omega) (by omega) hb;exact ⟨v',w',h2,h3,h4⟩
theorem vU (w:World) {ops:Array Oper} {rest:List Oper} {o:Oper} {a:Act} {Q:Exit→Act→World→Prop} (hgd:o.guard=none) (s x:Operand)
  (ho:o.op= .call { callee:= .builtin .append,args:=#[s,x],argTypes:=#[34,34] })
  (base:Nat) (v:Value) (n:Nat) (xs:List Value) (hs:a.eval s=v) (hown:w.ownsRow base 5 1 v n xs) (xv:Value) (hx:a.eval x=xv) (r:Bs) (hr:Byts w xv r) (h1:n+r.length≤1000000) (hb:base≤w.heap.size)
  (h:∀ v' w',w'.ownsRow base 5 1 v' (n+r.length) (xs++zc r)→w.grownBy w' v.ownBlock→wpList Tryz.prog ops Q rest (a.put o.dst v') w'):wpList Tryz.prog ops Q (o::rest) a w:=by
 refine wpList_plain hgd fun K hK=> ?_;obtain ⟨v',w',hrun,h2,h3⟩:=ji w o.type base v n xs hown xv r hr h1 hb;unfold Oper.wp execOp;simp only [ho,resolve,invoke,builtin,Sem.run_bind,Sem.run_pure,Result.andThen_ok,List.map_toArray,List.map_cons,List.map_nil,hs,hx,hrun];exact hK _ _ (h v' w' h2 h3)
theorem sg (v:Nat) (h:v<128):uv v=[UInt8.ofNat v]:=by
 unfold uv;rw [if_pos h]
theorem Tg (v:Nat) (h:¬ v<128):uv v=UInt8.ofNat (v % 128+128)::uv (v / 128):=by
 conv=>lhs;unfold uv
 rw [if_neg h]
theorem xY:∀ (k v:Nat),v<128 ^ (k+1)→(uv v).length≤k+1
 | 0,v,h=>by rw [sg v (by simpa using h)];simp
 | k+1,v,h=>by
  by_cases h1:v<128
  ·rw [sg v h1];simp
  rw [Tg v h1];have:=xY k (v / 128) (by rw [Nat.div_lt_iff_lt_mul (by decide)];rw [Nat.pow_succ] at h;exact h);simp only [List.length_cons];omega
theorem Ps (x:Nat) (h:x<256):x ||| 128=x % 128+128:=by
 have:∀ y:Fin 256,(y.val ||| 128)=y.val % 128+128:=by decide +kernel
 exact this ⟨x,h⟩
theorem Pr (x:Nat) (h:x<256):bits .or .u8 (x:Int) 128=((x % 128+128:Nat):Int):=by
 have h1:=(bits_nat .u8 8 (by decide) wraps_u8 x 128 (by omega) (by decide)).2;rw [Ps x h] at h1;exact h1
theorem vH (b:Value) (l:Bs) (v:Nat) (w:World) (hb:Byts w b l) (hl:l.length≤100000) (hv:v<1152921504606846976):Calls Tryz.prog 126 #[b,.int .u64 (v:Int)] w fun e w'=>∃ a c,e= .returned (.slice a (l.length+(uv v).length) c)∧w'.ownsRow w.heap.size 5 1 (.slice a (l.length+(uv v).length) c) (l.length+(uv v).length) (zc (l++uv v))∧Below w.heap.size w w':=by
 obtain ⟨iB0,iB⟩:=info_parts yD;have HCL:=KZ9 (ci b l w hb (by omega));obtain ⟨n,hn⟩:=KZ6 l.length;have HN:=KZ9 hn;have hul:=xY 9 v (by omega);obtain ⟨u,hu⟩:=KZ6 (uv v);have HU:=KZ9 hu;rw [←hu] at hul ⊢;rw [←hn] at hl HCL ⊢;clear hb hn hu;go_enter Tryz.func126,Tryz.ntmps126
 go_wp2_with fail
 refine HCL.out.mono ?_;rintro e w1 ⟨a1,c1,rfl,hown1,hb1⟩;have HO1:=KZ9 hown1;have HB1:=KZ9 hb1;clear hown1 hb1 HCL;go_wp2;go_loopw [1,5] (fun vv ov wr=>∃ (x:Nat) (pre:Bs),vv= .int .u64 (x:Int)∧x<1152921504606846976∧Hid (pre++uv x=u)∧Hid (wr.ownsRow w.heap.size 5 1 ov (n+pre.length) (zc (l++pre)))∧Hid (Below w.heap.size w wr)) (fun vv _ _=>(intOf vv).toNat)
 case atStart=>exact ⟨v,[],rfl,hv,KZ9 HU.out.symm,KZ9 (by simpa using HO1.out),HB1⟩
 case round =>
  obtain ⟨x,pre,rfl,hx,hpre,hO,hB⟩:=hrel;have hbs:=hB.out.size;have hpl:pre.length≤10:=by have:=congrArg List.length hpre.out;rw [List.length_append] at this;omega
  by_cases h128:x<128
  ·have hpe:Hid (pre++[UInt8.ofNat x]=u):=KZ9 (by rw [←sg x h128];exact hpre.out);have HX8:Hid (x<256):=KZ9 (by omega);have hul2:Hid (pre.length+1=u.length):=KZ9 (by rw [←hpe.out];simp);clear hpre;go_wp2_with (at_builtin;refine wpList_append_own _ rfl (.tmp 18) (.tmp 21) 34 rfl (w.heap.size) 5 iB0 (.int .u8 0) 1 1 Tryz.underlying34 iB.1 iB.2.1 iB.2.2.1 iB.2.2.2 rfl (by decide) _ _ _ rfl (hO.out.alloc _) ⟨wr.heap.size,0,none⟩ 1 1 [_] rfl rfl (cell_one_new _ _ _) (by intro u hu;simp at hu;subst hu;rfl) (by unfold maxLen;omega) (by omega) (by simp;omega) ?_;intro v1 w1 hown1 hgrow1 hnil1)
   all_goals try omega
   have hown2:w1.ownsRow w.heap.size 5 1 v1 (n+u.length) (zc (l++u)):=by
    rw [←hul2.out,←hpe.out,←List.append_assoc,zz (l++pre)];have e:zc [UInt8.ofNat x]=[.int .u8 (x:Int)]:=by
     simp only [zc,List.map_cons,List.map_nil];rw [UInt8.toNat_ofNat_of_lt' HX8.out]
    rw [e,←Nat.add_assoc];exact hown1
   obtain ⟨a2,c2,rfl⟩:=wL hown2;go_ret;exact ⟨a2,c2,rfl,hown2,(hB.out.alloc hbs _).grown hgrow1 (by simp;omega) (fun k e=>(hO.out.lt k e).1)⟩
  have hpe:Hid ((pre++[UInt8.ofNat (x % 128+128)])++uv (x / 128)=u):=KZ9 (by rw [←hpre.out,Tg x h128];simp);have hor:=Pr (x % 256) (Nat.mod_lt _ (by decide));rw [show x % 256 % 128+128=x % 128+128 by omega] at hor;clear hpre;obtain ⟨q,hq⟩:=KZ6 (x % 128+128);rw [←hq] at hor hpe;have hql:q<256:=by omega
  have HQ:=KZ9 hq;clear hq;rw [show ((x % 256:Nat):Int)=(x:Int) % 256 by omega] at hor;go_wp2_with (at_builtin;refine wpList_append_own _ rfl (.tmp 12) (.tmp 16) 34 rfl (w.heap.size) 5 iB0 (.int .u8 0) 1 1 Tryz.underlying34 iB.1 iB.2.1 iB.2.2.1 iB.2.2.2 rfl (by decide) _ _ _ rfl (hO.out.alloc _) ⟨wr.heap.size,0,none⟩ 1 1 [_] rfl rfl (cell_one_new _ _ _) (by intro u hu;simp at hu;subst hu;rfl) (by unfold maxLen;omega) (by omega) (by simp;omega) ?_;intro v1 w1 hown1 hgrow1 hnil1)
  all_goals try omega
  refine ⟨⟨x / 128,pre++[UInt8.ofNat q],by simp,by omega,hpe,KZ9 ?_,KZ9 ((hB.out.alloc hbs _).grown hgrow1 (by simp;omega) (fun k e=>(hO.out.lt k e).1))⟩,by simp only [intOf];omega⟩;rw [←List.append_assoc,zz (l++pre),List.length_append];have e:zc [UInt8.ofNat q]=[.int .u8 (q:Int)]:=by
   simp only [zc,List.map_cons,List.map_nil];rw [UInt8.toNat_ofNat_of_lt' hql]
  rw [e];have h2:=hown1;rw [Nat.add_assoc] at h2;exact h2
theorem Zd (s:Bs):Lib.strCells (mk s)=zc s:=by
 unfold Lib.strCells zc mk;simp
theorem dY (b:Value) (l s:Bs) (w:World) (hb:Byts w b l) (hl:l.length≤1000) (hs:s.length≤1000):Calls Tryz.prog 154 #[b,.string (mk s)] w fun e w'=>∃ a c,e= .returned (.slice a (l.length+((uv s.length).length+s.length)) c)∧w'.ownsRow w.heap.size 5 1 (.slice a (l.length+((uv s.length).length+s.length)) c) (l.length+((uv s.length).length+s.length)) (zc (l++(uv s.length++s)))∧Below w.heap.size w w':=by
 obtain ⟨iB0,iB⟩:=info_parts yD;have hsz:(mk s).size=s.length:=zi s;obtain ⟨m,hm⟩:=KZ6 s.length;have HAU:=KZ9 (vH b l m w hb (by omega) (by omega));have hul:=xY 9 m (by omega);rw [←hm] at hsz hs ⊢;obtain ⟨k,hk⟩:=KZ6 (l.length+(uv m).length);have hk2:k≤1010:=by omega
 have HK:=KZ9 hk;rw [←hk] at HAU;clear hb hm hk;go_enter Tryz.func154,Tryz.ntmps154
 go_wp2_with fail
 refine HAU.out.mono ?_;rintro e w1 ⟨a1,c1,rfl,hown1,hb1⟩;have HO1:=KZ9 hown1;have hbs:=hb1.size;have HB1:=KZ9 hb1;clear hown1 hb1 HAU;go_wp2_with (at_builtin;go_loud (refine Lib.wpList_append_own_string _ rfl _ _ 34 9 rfl w.heap.size 5 iB0 Tryz.underlying34 Tryz.underlying9 iB.1 iB.2.1 iB.2.2.1 iB.2.2.2 _ k _ rfl HO1.out (mk s) rfl (by unfold maxLen;omega) (by omega) hbs ?_);intro v2 w2 hown2 hgrow2 hnil2)
 all_goals try omega
 rw [Zd,←zz,hsz,HK.out,Nat.add_assoc,List.append_assoc] at hown2;obtain ⟨a2,c2,rfl⟩:=wL hown2;go_ret;exact ⟨a2,c2,rfl,hown2,HB1.out.grown hgrow2 hbs (fun k e=>(HO1.out.lt k e).1)⟩
def kr (p:PinP):Bs:=(uv p.host.length++p.host)++(uv (if p.sub=true then 1 else 0)++uv p.expiry.toNat)
theorem pU (p:PinP) (h:p.host.length≤1000) (he:p.expiry.toNat<1152921504606846976):(kr p).length≤p.host.length+30:=by
 have h1:=xY 9 p.host.length (by omega);have h2:=xY 9 p.expiry.toNat (by omega);have h3:=xY 9 (if p.sub=true then 1 else 0) (by split<;>decide);simp only [kr,List.length_append];omega
theorem Rh (s L:Bs) (n:Nat) (w:World) (hs:s.length≤1000) (hL:L=uv s.length++s) (hn:n=L.length):Calls Tryz.prog 154 #[.slice none 0 0,.string (mk s)] w fun e w'=>∃ a c,e= .returned (.slice a n c)∧w'.ownsRow w.heap.size 5 1 (.slice a n c) n (zc L)∧Below w.heap.size w w':=by
 have h:=dY (.slice none 0 0) [] s w (Row.nil _ _) (by simp) hs;rw [List.length_nil,Nat.zero_add,List.nil_append,←List.length_append,←hL,←hn] at h;exact h
theorem Ws (a:Option Addr) (c:Nat) (l L:Bs) (n m v:Nat) (w:World) (base:Nat) (hb:w.ownsRow base 5 1 (.slice a n c) n (zc l)) (hn:n=l.length) (hl:l.length≤100000) (hv:v<1152921504606846976) (hL:L=l++uv v) (hm:m=L.length):Calls Tryz.prog 126 #[.slice a n c,.int .u64 (v:Int)] w fun e w'=>∃ a c,e= .returned (.slice a m c)∧w'.ownsRow w.heap.size 5 1 (.slice a m c) m (zc L)∧Below w.heap.size w w':=by
 subst hn;have h:=vH (.slice a l.length c) l v w (Byts.owned hb) hl hv;rw [←List.length_append,←hL,←hm] at h;exact h
theorem Xv (p:PinP) (w:World) (hB:Base w) (hn:p.host.length≤300) (hok:xU p=true) (he0:0≤p.expiry) (he:p.expiry≤1099511627776):Calls Tryz.prog 127 #[.agg (zx p).toArray] w fun e w'=>∃ a c,e= .returned (.tuple #[.slice a (kr p).length c,.int .i64 0])∧w'.ownsRow w.heap.size 5 1 (.slice a (kr p).length c) (kr p).length (zc (kr p))∧Below w.heap.size w w':=by
 obtain ⟨W0,hW0⟩:=KZ6 (w.alloc (.cells (zx p).toArray 64));have hb0:Below w.heap.size w W0:=by rw [hW0];exact (Below.refl _ w).alloc (Nat.le_refl _) _
 have hk0:BlkL W0 w.heap.size 64 (zx p):=by rw [hW0];exact BlkL.new w _ _
 have HV:=KZ9 (sZ p W0 (hB.below hb0) (by omega));rw [hok] at HV;have HW0:=KZ9 hW0.symm;have HB0:=KZ9 hb0;have HK0:=KZ9 hk0;obtain ⟨h,s,x⟩:=p;obtain ⟨xn,hxn⟩:∃ xn:Nat,x=(xn:Int):=⟨x.toNat,by simp only at he0;omega⟩;subst hxn;simp only at hn he0 he;obtain ⟨sn,hsn⟩:∃ sn:Nat,sn=(if s=true then 1 else 0):=⟨_,rfl⟩;have hs1:sn≤1:=by rw [hsn];split<;>omega
 have hpe:kr ⟨h,s,(xn:Int)⟩=((uv h.length++h)++uv sn)++uv xn:=by simp [kr,hsn]
 rw [hpe];have HPE:=KZ9 hpe;have l1:=xY 9 h.length (by omega);have l2:=xY 9 sn (by omega);have l3:=xY 9 xn (by omega);obtain ⟨L1,hL1⟩:=KZ6 (uv h.length++h);obtain ⟨L2,hL2⟩:=KZ6 (L1++uv sn);obtain ⟨L3,hL3⟩:=KZ6 (L2++uv xn);obtain ⟨n1,hn1⟩:=KZ6 L1.length;obtain ⟨n2,hn2⟩:=KZ6 L2.length;obtain ⟨n3,hn3⟩:=KZ6 L3.length;have k1:L1.length≤310:=by rw [hL1,List.length_append];omega
 have k2:L2.length≤320:=by rw [hL2,List.length_append];omega
 rw [←hL1,←hL2,←hL3,←hn3];have HT:=KZ9 (fun W=>Rh h L1 n1 W (by omega) hL1 hn1);have HU1:=KZ9 (fun W a c base hb=>Ws a c L1 L2 n1 n2 sn W base hb hn1 (by omega) (by omega) hL2 hn2);have HU2:=KZ9 (fun W a c base hb=>Ws a c L2 L3 n2 n3 xn W base hb hn2 (by omega) (by omega) hL3 hn3);clear hL1 hL2 hL3 hn1 hn2 hn3 k1 k2;simp only [zx] at HW0 HV HK0 ⊢;have HSN:=KZ9 hsn;clear hB hok hW0 hb0 hk0 hpe;have c0:W0.cell? ⟨w.heap.size,0,none⟩=some (.string (mk h)):=HK0.out.c 0 _ rfl;have c1:W0.cell? ⟨w.heap.size,1,none⟩=some (.bool s):=HK0.out.c 1 _ rfl;have c2:W0.cell? ⟨w.heap.size,2,none⟩=some (.int .i64 (xn:Int)):=HK0.out.c 2 _ rfl;have hW0':=HW0.out;go_enter Tryz.func127,Tryz.ntmps127
 go_wp2_with fail
 all_goals try omega
 refine HV.out.mono ?_;rintro e w1 ⟨rfl,hb1⟩;have hz0:=HK0.out.lt;have M2:=KZ9 (fun W (hW:Below w1.heap.size w1 W)=>(HK0.out.below hz0 hb1).below (by have:=hb1.size;omega) hW);have HB1:=KZ9 (HB0.out.trans (hb1.mono HB0.out.size));have q1:=(M2.out w1 (Below.refl _ _)).c 1 _ rfl;have q2:w1.drew.cell? ⟨w.heap.size,2,none⟩=some (.int .i64 (xn:Int)):=(M2.out w1 (Below.refl _ _)).c 2 _ rfl;have q0:w1.drew.cell? ⟨w.heap.size,0,none⟩=some (.string (mk h)):=(M2.out w1 (Below.refl _ _)).c 0 _ rfl;have hsz1:=HB1.out.size;have wx1:IntKind.u64.wrap (xn:Int)=(xn:Int):=by rw [IntKind.wrap_u64];omega
 have wx2:(xn:Int) % 18446744073709551616=(xn:Int):=by omega
 clear hb1 HV hW0' c0 c1 c2 hs1 he0 he l1 l2 l3 hn hz0;cases s
 ·obtain rfl:=HSN.out;clear HSN;go_wp2_with fail
  all_goals try omega
  go_region_with (first
   | (go_at_call 154;refine (HT.out w1.drew).mono ?_;rintro e w2 ⟨a2,c2,rfl,ho2,hb2⟩;have hb2':=(Below.refl w1.heap.size w1).drew.trans hb2;have r2:=(M2.out w2 hb2').c 2 _ rfl;have K1:=HU1.out w2 a2 c2 _ ho2)
   | (go_at_call_of 126 (Value.slice a2 n1 c2);refine K1.mono ?_;rintro e w3 ⟨a3,c3,rfl,ho3,hb3⟩;have hb3':=hb2'.trans (hb3.mono hb2'.size);have r3:=(M2.out w3 hb3').c 2 _ rfl;have K2:=HU2.out w3 a3 c3 _ ho3)
   | (go_at_call_of 126 (Value.slice a3 n2 c3);refine K2.mono ?_;rintro e w4 ⟨a4,c4,rfl,ho4,hb4⟩;have hb4':=hb3'.trans (hb4.mono hb3'.size)))

  all_goals (
   go_wp2;go_ret2;exact ⟨a4,c4,rfl,vr ho4 (by have:=hb3'.size;omega),HB1.out.trans (hb4'.mono hsz1)⟩)
 obtain rfl:=HSN.out;clear HSN;go_wp2_with fail
 all_goals try omega
 go_region_with (first
  | (go_at_call 154;refine (HT.out w1.drew).mono ?_;rintro e w2 ⟨a2,c2,rfl,ho2,hb2⟩;have hb2':=(Below.refl w1.heap.size w1).drew.trans hb2;have r2:=(M2.out w2 hb2').c 2 _ rfl;have K1:=HU1.out w2 a2 c2 _ ho2)
  | (go_at_call_of 126 (Value.slice a2 n1 c2);refine K1.mono ?_;rintro e w3 ⟨a3,c3,rfl,ho3,hb3⟩;have hb3':=hb2'.trans (hb3.mono hb2'.size);have r3:=(M2.out w3 hb3').c 2 _ rfl;have K2:=HU2.out w3 a3 c3 _ ho3)
  | (go_at_call_of 126 (Value.slice a3 n2 c3);refine K2.mono ?_;rintro e w4 ⟨a4,c4,rfl,ho4,hb4⟩;have hb4':=hb3'.trans (hb4.mono hb3'.size)))

 all_goals (
  go_wp2;go_ret2;exact ⟨a4,c4,rfl,vr ho4 (by have:=hb3'.size;omega),HB1.out.trans (hb4'.mono hsz1)⟩)
def zW (p:PinP):List Value:= .int .i64 1::zx p
def vp (p:PinP):Bs:=1::kr p
theorem jH (p:PinP) (w:World) (hB:Base w) (hn:p.host.length≤300):Calls Tryz.prog 88 #[.agg (zW p).toArray] w fun e w'=>e= .returned (.bool (xU p))∧Below w.heap.size w w':=by
 have hk0:=BlkL.new w 66 (zW p);have hb0:=(Below.refl _ w).alloc (Nat.le_refl _) (.cells (zW p).toArray 66);obtain ⟨c0,c1,c2,c3⟩:=BlkL.cs4 hk0;have HV:=KZ9 (sZ p _ (hB.below hb0) (by omega));have HB0:=KZ9 hb0;have HW:Hid ((.cells #[.int .i64 1,.string (mk p.host),.bool p.sub,.int .i64 p.expiry] 66:Obj)= .cells (zW p).toArray 66):=KZ9 rfl;simp only [zW,zx] at c0 c1 c2 c3 HV HB0 ⊢;clear hk0 hb0 HW;go_enter Tryz.func88,Tryz.ntmps88
 go_wp2_with fail
 all_goals try omega
 refine HV.out.mono ?_;rintro e w1 ⟨rfl,hb1⟩;have HB1:=KZ9 hb1;clear hb1 c0 c1 c2 c3 HV;go_wp2;go_ret;exact ⟨rfl,HB0.out.trans (HB1.out.mono HB0.out.size)⟩
theorem VG (p:PinP) (w:World) (hB:Base w) (hn:p.host.length≤300) (hok:xU p=true) (he0:0≤p.expiry) (he:p.expiry≤1099511627776):Calls Tryz.prog 94 #[.agg (zW p).toArray] w fun e w'=>∃ a c,e= .returned (.tuple #[.slice a (vp p).length c,.int .i64 0])∧w'.ownsRow w.heap.size 5 1 (.slice a (vp p).length c) (vp p).length (zc (vp p))∧Below w.heap.size w w':=by
 have hk0:=BlkL.new w 66 (zW p);have hb0:=(Below.refl _ w).alloc (Nat.le_refl _) (.cells (zW p).toArray 66);have hlen:=pU p (by omega) (by omega);have HV:=KZ9 (jH p _ (hB.below hb0) hn);rw [hok] at HV;have HE:=KZ9 (fun W (hW:Below w.heap.size w W)=>Xv p W (hB.below hW) hn hok he0 he);have HK:=KZ9 hk0;have HB0:=KZ9 hb0;obtain ⟨c0,c1,c2,c3⟩:=BlkL.cs4 hk0;obtain ⟨L,hL⟩:=KZ6 (kr p);have hr:vp p=1::L:=by rw [hL];rfl
 have hrl:(vp p).length=L.length+1:=by rw [hr];rfl
 rw [←hL] at hlen HE;rw [hrl,hr];obtain ⟨n,hn⟩:=KZ6 L.length;have HN:=KZ9 hn;rw [←hn] at hlen HE ⊢;simp only [zW,zx] at c0 c1 c2 c3 HV HB0 HK HE ⊢;clear hk0 hb0 hL hr hrl hn hok he0 he hB;go_enter Tryz.func94,Tryz.ntmps94
 go_wp2_with fail
 all_goals try omega
 refine HV.out.mono ?_;rintro e w1 ⟨rfl,hb1⟩;have hz:=hb1.size;simp only [World.size_alloc] at hz;have hK1:=HK.out.below HK.out.lt hb1;have d0:=hK1.c 0 _ rfl;have hb2:Below w1.heap.size w1 (w1.alloc (.cells #[.int .u8 1] 5)):=(Below.refl _ w1).alloc (Nat.le_refl _) _;have hK2:=hK1.below hK1.lt hb2;obtain ⟨e0,e1,e2,e3⟩:=BlkL.cs4 hK2;have hb3:=HB0.out.trans (hb1.mono HB0.out.size);have hb4:=hb3.trans (hb2.mono hb3.size);have HE2:=KZ9 (HE.out _ hb4);have HB4:=KZ9 hb4;have hown:(w1.alloc (.cells #[.int .u8 1] 5)).ownsRow w1.heap.size 5 1 (.slice (some ⟨w1.heap.size,0,none⟩) 1 1) 1 [.int .u8 1]:=⟨rfl,.inr ⟨w1.heap.size,1,#[.int .u8 1],rfl,Nat.le_refl _,heap_alloc_new w1 _,Nat.le_refl _,by simp [maxLen],rfl,rfl⟩⟩;have HO:=KZ9 hown;clear c0 c1 c2 c3 hb1 hK1 hb2 hK2 hb3 hb4 hown HV HE;go_wp2_with fail
 all_goals try omega
 refine HE2.out.mono ?_;rintro e w3 ⟨a3,c3,rfl,ho3,hb3⟩;have ho4:=HO.out.kept (row:=none) ⟨hb3.os,hb3.tape,hb3.output,hb3.size,fun k hk _=>hb3.block k hk⟩ (.inr (by simp [Value.ownBlock]));have hbx:=HB4.out.trans (hb3.mono HB4.out.size);have hby:Byts w3 (.slice a3 n c3) L:=Byts.owned (by rw [←HN.out];exact ho3);have HO4:=KZ9 ho4;have HBX:=KZ9 hbx;have HBY:=KZ9 hby;have hw1:w.heap.size≤w1.heap.size:=by omega
 have hw3:w1.heap.size≤w3.heap.size:=by have:=hb3.size;simp at this;omega
 clear ho3 hb3 ho4 hbx hby e0 e1 e2 e3 d0 HE2 HO HB4;go_wp2_with (at_builtin;refine vU _ rfl _ _ rfl w1.heap.size _ 1 _ rfl HO4.out _ rfl L HBY.out (by rw [←HN.out];omega) hw3 ?_;intro v5 w5 hown5 hgrow5)
 all_goals try omega
 rw [←HN.out] at hown5;have hown6:w5.ownsRow w1.heap.size 5 1 v5 (n+1) (zc (1::L)):=by
  rw [Nat.add_comm n 1];exact hown5
 obtain ⟨a5,c5,rfl⟩:=wL hown6;go_ret2;exact ⟨a5,c5,rfl,vr hown6 hw1,HBX.out.grown hgrow5 HBX.out.size (fun k e=>by have:=(HO4.out.lt k e).1;omega)⟩
def OkS (clk:Int) (T:List PinP):Prop:=0≤clk∧clk≤1099511627776∧T.length≤1∧∀ p∈T,xU p=true∧p.host.length≤300∧0≤p.expiry∧p.expiry≤1099511627776
theorem xM (clk:Int) (T:List PinP) (v:Value) (w:World) (hB:Base w) (hT:Pins w v T) (hok:OkS clk T):Calls Tryz.prog 34 #[.agg #[.int .i64 clk,v]] w fun e w'=>e= .returned (.bool true)∧Below w.heap.size w w':=by
 obtain ⟨hc0,hc1,hl,hp⟩:=hok;obtain ⟨a,cap,rfl,h1,h2,hc⟩:=hT.open;unfold maxLen at h2;obtain ⟨n,hn⟩:=KZ6 T.length;have hk0:=BlkL.new w 49 [.int .i64 clk,.slice a n cap];have hb0:=(Below.refl _ w).alloc (Nat.le_refl _) (.cells #[.int .i64 clk,.slice a n cap] 49);have c0:=hk0.c 0 _ rfl;have c1:=hk0.c 1 _ rfl;have g0:decide (clk<0)=false:=KZ8 (by omega);have g1:decide (1099511627776<clk)=false:=KZ8 (by omega);have HB:=KZ9 hB;have HC:=KZ9 hc;have HN:=KZ9 hn;have HP:=KZ9 hp;have HB0:=KZ9 hb0;have HK:=KZ9 hk0;rw [←hn] at hl h1 ⊢;clear hc0 hc1 hB hT hc hn hp hk0 hb0;go_enter Tryz.func34,Tryz.ntmps34
 go_wp2
 all_goals try omega
 go_loopw [22] (fun iv wr=>∃ k:Nat,iv= .int .i64 k∧k≤n∧Hid (Below w.heap.size w wr)) (fun iv _=>n - (intOf iv).toNat)
 case atStart=>exact ⟨0,rfl,by omega,HB0⟩
 case round =>
  obtain ⟨k,rfl,hk,hbw⟩:=hrel;have hbs:=hbw.out.size;by_cases hlt:k<n
  ·obtain rfl:k=0:=by omega
   obtain ⟨b,off,rfl,hb,hcc⟩:=HC.out (by rw [←HN.out];omega);obtain ⟨k0,k1,k2⟩:=hcc 0 (by rw [←HN.out];omega);have d0:=(hbw.out.cell (p:=⟨b,off+0*3,none⟩) hb).trans k0;have d1:=(hbw.out.cell (p:=⟨b,off+0*3+1,none⟩) hb).trans k1;have d2:=(hbw.out.cell (p:=⟨b,off+0*3+2,none⟩) hb).trans k2;obtain ⟨p,hp⟩:∃ p,p=T[0]'(by rw [←HN.out];omega):=⟨_,rfl⟩;have hpm:=HP.out p (by rw [hp];exact List.getElem_mem _);rw [←hp] at d0 d1 d2;rw [Nat.zero_mul,Nat.add_zero] at d0 d1 d2;have HPM:=KZ9 hpm;clear k0 k1 k2 hcc hp hpm;go_upto_region 6 with fail
   all_goals try omega
   obtain ⟨W,hW⟩:=KZ6 (wr.alloc (.cells #[.string (mk p.host),.bool p.sub,.int .i64 p.expiry] 64));have hY:BlkL W wr.heap.size 64 (zx p):=by rw [hW];exact BlkL.new wr _ _
   have hbW:Below w.heap.size w W:=by rw [hW];exact hbw.out.alloc hbs _
   rw [←hW];obtain ⟨q0,q1,q2⟩:=BlkL.fs3 (fun x:xi W=>(hY.below hY.lt x.2));have HV:=KZ9 (fun x:xi W=>sZ p x.1 (HB.out.below (hbW.trans (x.2.mono hbW.size))) (by have:=HPM.out.2.1;omega));have HBW:=KZ9 hbW;simp only [HPM.out.1,zx] at HV;clear hW hY hbW d0 d1 d2;refine xI W (by kernel_rfl) (by kernel_rfl) (Below.refl _ _) ?_;repeat (go_big_quiet_step (first | (go_at_call 74;exact Calls.later (HV.out _))))
   refine wpQuiet_nil ?_;intro w5 hw';obtain ⟨⟨w6,hb6⟩,hw6⟩:=hw';have hb5:Below W.heap.size W w5:=hw6▸hb6;have HB5:=KZ9 (HBW.out.trans (hb5.mono HBW.out.size));clear hw6 hb6 hb5 q0 q1 q2 HV HBW;go_wp2
   all_goals try omega
   go_roundw
   case rel=>exact ⟨1,by go_num,by omega,HB5⟩
   case measure=>simp [intOf];omega
  obtain rfl:k=n:=by omega
  go_wp2
  all_goals try omega
  go_ret;exact ⟨rfl,hbw.out⟩
theorem T0 {w:World} {base:Nat} {e:TypeId} {size n:Nat} {v:Value} {xs:List Value} (h:w.ownsRow base e size v n xs):∀ k,v.ownBlock=some k→base≤k:=by
 rcases h.2 with ⟨rfl,_⟩ | ⟨g,cap,cur,rfl,hg,_⟩
 ·intro k hk;cases hk
 intro k hk;cases hk;exact hg
theorem xW:(Tryz.prog.info? 49).map (·.size)=some 2:=by kernel_rfl
theorem bs0 (x:ByteArray) (w:World):Calls Tryz.prog 89 #[.slice none 0 0,.string x,.func (.func 90) #[] #[]] w fun e w'=>e= .returned (.tuple #[.int .i64 0,.bool false])∧w=w':=by
 go_enter Tryz.func89,Tryz.ntmps89
 go_wp2;go_loopw [9,10] (fun iv jv wr=>iv= .int .i64 0∧jv= .int .i64 0∧wr=w) (fun _ _ _=>0)
 case atStart=>exact ⟨rfl,rfl,rfl⟩
 case round =>
  obtain ⟨rfl,rfl,rfl⟩:=hrel;go_wp2;go_ret2;exact ⟨rfl,rfl⟩
theorem Q9 (w:World):Calls Tryz.prog 25 #[.slice none 0 0] w fun e w'=>e= .returned (.slice none 0 0)∧w'=w:=by
 have q45:∀ (w:World) (a:Option Addr) (n c n' c':Nat),(binOp .eql 47 (.slice a n c) (.slice none n' c')).run Tryz.prog w= .ok (.bool a.isNone) w:=fun w a n c n' c'=>Lib.run_eql_slice_nil w _ _ a n c n' c' Tryz.underlying47;go_enter Tryz.func25,Tryz.ntmps25
 go_wp2;go_ret;exact ⟨rfl,rfl⟩
theorem bV (clk:Int) (p:PinP) (cap:Nat) (w:World) (hB:Base w) (hn:p.host.length≤300) (hok:xU p=true) (hc0:0≤clk) (hc1:clk≤1099511627776) (hcap:1≤cap) (hcap2:cap≤1000):Calls Tryz.prog 45 #[.agg #[.int .i64 clk,.slice none 0 0],.agg (zW p).toArray,.int .i64 (cap:Int)] w fun e w'=>∃ a c,e= .returned (.tuple #[.agg #[.int .i64 clk,.slice a 1 c],.int .i64 0])∧Pins w' (.slice a 1 c) [p]∧(∀ k,(Value.slice a 1 c).ownBlock=some k→w.heap.size≤k)∧Below w.heap.size w w':=by
 obtain ⟨W0,hW0⟩:=KZ6 ((((w.alloc (.cells #[.int .i64 clk,.slice none 0 0] 49)).alloc (.cells (zW p).toArray 66)).alloc (.cells #[.int .i64 0,.slice none 0 0] 49)));obtain ⟨z,hz⟩:=KZ6 w.heap.size;have hb0:Below w.heap.size w W0:=by rw [hW0];exact (((Below.refl _ w).alloc (Nat.le_refl _) _).alloc (by simp) _).alloc (by simp;omega) _
 have hs0:W0.heap.size=z+3:=by rw [hW0,hz];simp
 have x0:BlkL W0 z 49 [.int .i64 clk,.slice none 0 0]:=by rw [hW0,hz];exact ((BlkL.new w _ _).alloc _).alloc _
 have x1:BlkL W0 (z+1) 66 (zW p):=by
  rw [hW0,hz];have:=(BlkL.new (w.alloc (.cells #[.int .i64 clk,.slice none 0 0] 49)) 66 (zW p)).alloc (.cells #[.int .i64 0,.slice none 0 0] 49)
  rwa [World.size_alloc] at this
 have x2:BlkL W0 (z+2) 49 [.int .i64 0,.slice none 0 0]:=by
  rw [hW0,hz];have:=BlkL.new ((w.alloc (.cells #[.int .i64 clk,.slice none 0 0] 49)).alloc (.cells (zW p).toArray 66)) 49 [.int .i64 0,.slice none 0 0]
  simpa only [World.size_alloc] using this
 have HVS:=KZ9 (xM clk [] (.slice none 0 0) W0 (hB.below hb0) (Row.nil _ _) ⟨hc0,hc1,by simp,by simp⟩);have HV:=KZ9 (fun W (hW:Below w.heap.size w W)=>jH p W (hB.below hW) hn);rw [hok] at HV;have M0:=KZ9 (fun W (hW:Below W0.heap.size W0 W)=>(show BlkL W z 49 [.int .i64 clk,.slice none 0 0]∧BlkL W (z+1) 66 (zW p)∧BlkL W (z+2) 49 [.int .i64 0,.slice none 0 0] from ⟨x0.below x0.lt hW,x1.below x1.lt hW,x2.below x2.lt hW⟩));have HB0:=KZ9 hb0;have HZ:=KZ9 hz;have c0:=x0.c 0 _ rfl;have c1:=x0.c 1 _ rfl;have b1:=x1;rw [hz] at c0 c1;unfold BlkL at b1;simp only [hz] at b1;have HW0:Hid ((((w.alloc (.cells #[.int .i64 clk,.slice none 0 0] 49)).alloc (.cells #[.int .i64 1,.string (mk p.host),.bool p.sub,.int .i64 p.expiry] 66)).alloc (.cells #[.int .i64 0,.slice none 0 0] 49))=W0):=KZ9 hW0.symm;simp only [zW,zx] at M0 HV ⊢;have hW0':=HW0.out;clear hW0 hb0 hz x0 x1 x2 hB hok
 go_enter Tryz.func45,Tryz.ntmps45
 go_wp2_with fail
 all_goals try omega
 refine HVS.out.mono ?_;rintro e w1 ⟨rfl,hb1⟩;have hs1:=hb1.size;have m1:=M0.out w1 hb1;obtain ⟨d0,d1,d2,d3⟩:=BlkL.cs4 m1.2.1;rw [HZ.out] at d0 d1 d2 d3;have HA1:=KZ9 (HB0.out.trans (hb1.mono (by rw [hs0,HZ.out];omega)));have HC1:=KZ9 (fun W (hW:Below w1.heap.size w1 W)=>(⟨hb1.trans (hW.mono hs1),(HA1.out).trans (hW.mono (by have:=HZ.out;omega))⟩:Below W0.heap.size W0 W∧Below w.heap.size w W));clear hb1 HVS c0 c1 b1 m1;go_wp2_with fail
 refine (HV.out w1 HA1.out).mono ?_;rintro e w2 ⟨rfl,hb2⟩;have hs2:=hb2.size;obtain ⟨hx2,hy2⟩:=HC1.out w2 hb2;have m2:=M0.out w2 hx2;have HX2:=KZ9 hx2;have HY2:=KZ9 hy2;have c0:=m2.1.c 0 _ rfl;have c1:=m2.1.c 1 _ rfl;obtain ⟨d0,d1,d2,d3⟩:=BlkL.cs4 m2.2.1;rw [HZ.out] at c0 c1 d0 d1 d2 d3;have HCL:=KZ9 (fun W=>Q9 W);have e0:=(m2.1.alloc (.cells #[.int .i64 0,.slice none 0 0] 49)).c 0 _ rfl;have e1:=(m2.1.alloc (.cells #[.int .i64 0,.slice none 0 0] 49)).c 1 _ rfl;rw [HZ.out] at e0 e1;have hbig:w.heap.size+3≤w2.heap.size:=by have:=HZ.out;omega
 clear hb2 HC1 HA1 HV hx2 hy2 m2;go_upto_region 3 with fail
 all_goals try omega
 go_cut [8] (fun s8 wx=>s8= .pointer (some ⟨w2.heap.size,0,none⟩)∧BlkL wx w2.heap.size 49 [.int .i64 clk,.slice none 0 0]∧Below w2.heap.size w2 wx∧wx.heap.size=w2.heap.size+1)
 case first =>
  go_region_with (go_at_call 25;refine (HCL.out _).mono ?_;rintro e w5 ⟨rfl,rfl⟩)
  all_goals (go_wp2;go_meet;exact ⟨rfl,(BlkL.new _ _ _).drew,below_drewN ((Below.refl _ w2).alloc (Nat.le_refl _) _) 1,by simp⟩)
 case rest =>
 clear e0 e1;obtain ⟨rfl,hq0,hq1,hq2⟩:=hcut;have q0:=hq0.c 0 _ rfl;have q1:=hq0.c 1 _ rfl;have fq1:=hq0.f 1;have m3:=M0.out wc (HX2.out.trans (hq1.mono (by have:=HX2.out.size;omega)));have HQ1:=KZ9 hq1;obtain ⟨d0,d1,d2,d3⟩:=BlkL.cs4 m3.2.1;have r0:=m3.2.2.c 0 _ rfl;have r1:=m3.2.2.c 1 _ rfl;have fr0:=m3.2.2.f 0;have fr1:=m3.2.2.f 1;rw [HZ.out] at d0 d1 d2 d3 r0 r1 fr0 fr1;have HM3:=KZ9 m3;have HBS:=KZ9 (bs0 (mk p.host) wc);have HQ0:=KZ9 hq0;clear hq0 hq1 m3 c0 c1;go_wp2_with fail
 refine HBS.out.mono ?_;rintro e w4 ⟨rfl,rfl⟩;go_wp2_with fail
 have HN:=BlkL.new wc 64 (zx p);rw [hq2] at HN;refine (Xq p _ _ HN).mono ?_;rintro e w5 ⟨v5,rfl,hown5,hb5⟩;obtain ⟨a5,cap5,rfl⟩:=Uo hown5;have hs5:=hb5.size;have hq5:=(HQ0.out.alloc (.cells (zx p).toArray 64)).below (by simp;omega) hb5;have ho5:=(HM3.out.2.2.alloc (.cells (zx p).toArray 64)).below (by have:=HZ.out;simp;omega) hb5;rw [HZ.out] at ho5;have s0:=hq5.c 0 _ rfl;have s1:=hq5.c 1 _ rfl;have g1:=hq5.f 1;have o0:=ho5.c 0 _ rfl;have o1:=ho5.c 1 _ rfl;have go0:=ho5.f 0;have go1:=ho5.f 1;have HO:=KZ9 hown5;have HB5:=KZ9 hb5;have HQ5:=KZ9 hq5;have HO5:=KZ9 ho5;have hsz:w2.heap.size+2≤w5.heap.size:=by simp at hs5;omega
 clear hown5 hb5 hs5 HN q0 q1 fq1 d0 d1 d2 d3 r0 r1 fr0 fr1 hq5 ho5;go_wp2_with fail
 have hZ:=HZ.out;have hge:=T0 HO.out;simp only [World.size_alloc] at hge;have hR:=((HO5.out.other (g:=w.heap.size+2) (p:=w2.heap.size) (by omega) 1 (.slice a5 1 cap5)).set 0 (by simp) (.int .i64 clk)).set 1 (by simp) (.slice a5 1 cap5);refine bodyPost_ret (zf rfl _ _ (w.heap.size+2) 49 _ _ rfl hR Tryz.underlying49 rfl xW) rfl ?_;refine ⟨a5,cap5,rfl,(Row.owned HO.out).but (S:=fun k=>k=w2.heap.size∨k=w.heap.size+2) (((But.refl _ _).set (.inl (.inl rfl)) _ _).set (.inl (.inr rfl)) _ _ |>.set (.inl (.inr rfl)) _ _) (fun k hk=> ?_),fun k hk=> ?_,?_⟩
 ·have:=hge k hk;omega
 ·have:=hge k hk;omega
 have h2:Below w.heap.size w (wc.alloc (.cells (zx p).toArray 64)):=((HY2.out).trans (HQ1.out.mono (by omega))).alloc (by omega) _;exact ((h2.trans (HB5.out.mono (by simp;omega))).trans (ze w5 w2.heap.size 1 _ (by omega))).trans ((ze _ (w.heap.size+2) 0 _ (by omega)).trans (ze _ (w.heap.size+2) 1 _ (by omega)))
end Go.Proofs.YtbnnlkdhpifpeaaGreatDoor
