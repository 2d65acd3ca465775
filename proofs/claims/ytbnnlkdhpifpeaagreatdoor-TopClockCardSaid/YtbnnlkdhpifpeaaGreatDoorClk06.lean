/- What the proof of TopClock uses, part Clk06. -/
import Derived.Test.YtbnnlkdhpifpeaaGreatDoorClk05
import Derived.RangeFuncBound
import Derived.Maps.OwnIn
set_option linter.unusedSimpArgs false
set_option linter.unusedVariables false
namespace Hs
open Go
theorem RN {a b:Bs} (h:Lib.compareBytes (yh a) (yh b)≠0):yI a b=Lib.compareBytes (yh a) (yh b):=by rw [vR,if_pos h]
theorem TY {a b:Bs} (h:Lib.compareBytes (yh a) (yh b)=0) (h2:zl 46 a<0∨zl 46 b<0):yI a b=Lib.compareInt (min (zl 46 a) 0) (min (zl 46 b) 0):=by
 rw [vR,if_neg (by simp [h]),if_pos h2];rfl
theorem Uh {a b:Bs} (h:Lib.compareBytes (yh a) (yh b)=0) (h2:¬ (zl 46 a<0∨zl 46 b<0)):yI a b=yI (xQ a) (xQ b):=by
 rw [vR,if_neg (by simp [h]),if_neg h2]
end Hs
namespace Go.Proofs.YtbnnlkdhpifpeaaGreatDoor
open Go.RowKit Hs
def Drn (w w':World):Prop:=∃ m,w'=w.drewN m
theorem SD {w w':World} (h:Drn w w') (n:Nat):Drn w (w'.drewN n):=by
 obtain ⟨m,rfl⟩:=h;exact ⟨m+n,by first | exact World.drewN_drewN | exact World.drewN_drewN _ _ _⟩
set_option maxRecDepth 20000
set_option maxHeartbeats 4000000
theorem cL (a b:ByteArray) (w:World) (ha:a.size≤100000) (hb:b.size≤100000):Calls Tryz.prog 61 #[.string a,.string b] w fun e w'=>e= .returned (.int .i64 (yI (un a) (un b)))∧Drn w w':=by
 obtain ⟨R,hR⟩:=KZ6 (yI (un a) (un b));rw [←hR];have HR:=KZ9 hR;clear hR;go_enter Tryz.func61,Tryz.ntmps61
 go_wp2;go_step3;go_wp2;go_step3;go_wp2;go_loopw [0,1] (fun av bv wr=>∃ x y:Bs,av= .string (mk x)∧bv= .string (mk y)∧x.length≤100000∧y.length≤100000∧Hid (R=yI x y)∧Drn w wr) (fun av _ _=>uH av)
 case atStart=>exact ⟨un a,un b,by rw [x8],by rw [x8],by rw [za];exact ha,by rw [za];exact hb,HR,⟨0,rfl⟩⟩
 case round =>
  obtain ⟨x,y,rfl,rfl,hx,hy,hst,hnx⟩:=hrel;have hsx:(mk x).size=x.length:=zi x;have hsy:(mk y).size=y.length:=zi y;have hlx:=fun W=>tM (mk x) 46 W (by omega);have hly:=fun W=>tM (mk y) 46 W (by omega);simp only [zk] at hlx hly;have bx:=zI 46 x;have hby:=zI 46 y;have ex:(mk x).extract (zl 46 x+1).toNat x.length=mk (yh x):=by
   have:=td (mk x) (zl 46 x+1).toNat;rw [hsx,zk] at this;exact this
  have ey:(mk y).extract (zl 46 y+1).toNat y.length=mk (yh y):=by
   have:=td (mk y) (zl 46 y+1).toNat;rw [hsy,zk] at this;exact this
  have fx:(mk x).extract 0 (zl 46 x).toNat=mk (xQ x):=by rw [pB,zk];rfl
  have fy:(mk y).extract 0 (zl 46 y).toNat=mk (xQ y):=by rw [pB,zk];rfl
  have hcm:=fun W=>Se (mk (yh x)) (mk (yh y)) W;simp only [zk] at hcm;have hne:=@RN x y;have hend:=@TY x y;have hnext:=@Uh x y;have hhx:=vS x;have hhy:=vS y;obtain ⟨p,hp⟩:=KZ6 (zl 46 x);obtain ⟨q,hq⟩:=KZ6 (zl 46 y);obtain ⟨c,hc⟩:=KZ6 (Lib.compareBytes (yh x) (yh y));simp only [←hp,←hq,←hc] at *;have HLX:=KZ9 hlx;have HLY:=KZ9 hly;have HCM:=KZ9 hcm;have HNE:=KZ9 hne;have HEND:=KZ9 hend;have HNEXT:=KZ9 hnext;have hI1:(0:Int)≤p+1:=by omega
  have hI2:p+1≤(x.length:Int):=by omega
  have hI3:(0:Int)≤q+1:=by omega
  have hI4:q+1≤(y.length:Int):=by omega
  have hw1:IntKind.i64.wrap (p+1)=p+1:=by rw [IntKind.wrap_i64];omega
  have hw2:IntKind.i64.wrap (q+1)=q+1:=by rw [IntKind.wrap_i64];omega
  clear hlx hly hcm hne hend hnext hp hq hc;go_wp2_with fail
  refine (HLX.out _).mono ?_;rintro e w1 ⟨rfl,rfl⟩;go_wp2_with fail
  refine (HLY.out _).mono ?_;rintro e w1 ⟨rfl,rfl⟩;go_upto_region 3 with fail
  all_goals try omega
  refine wp_region_quiet_lit (by kernel_rfl) (by kernel_rfl) ?_;repeat (go_big_quiet_step (fail))
  go_big_quiet_want
  go_big_quiet_op
  apply Exists.intro;refine ⟨fun _=> ?_,?_⟩
  ·exact Calls.quiet_of_same ((HCM.out _).mono (fun _ _ h=>⟨h.1,h.2.symm⟩))
  go_big_quiet_on
  repeat (go_big_quiet_step (fail))
  refine wpQuiet_nil ?_;intro _ hw';obtain ⟨nq,hw''⟩:=hw';subst hw'';have hnx2:=SD hnx nq;generalize wr.drewN nq=wq at *;by_cases hc0:c=0
  ·have g1:(c != 0)=false:=by simpa using hc0
   by_cases hlt:p<0∨q<0
   ·have hfin:=KZ9 (hst.out.trans (HEND.out hc0 hlt));have hci:=fun W=>Tryz.cmp_Compare_int (min p 0) (min q 0) W;have HCI:=KZ9 hci;have hor:p<0∨(¬ p<0∧q<0):=by omega
    clear HEND HNEXT HNE hc0 hst hnx hci hlt;obtain ⟨mp,hmp⟩:=KZ6 (min p 0);obtain ⟨mq,hmq⟩:=KZ6 (min q 0);rw [←hmp,←hmq] at hfin;simp only [←hmp,←hmq] at HCI;have hmp2:=hmp.symm;have hmq2:=hmq.symm;clear hmp hmq;rcases hor with h | ⟨h,h2⟩
    all_goals
     go_wp2_with fail
     all_goals try omega
     refine (HCI.out _).mono ?_;rintro e w9 ⟨rfl,rfl⟩;go_wp2
     all_goals try omega
     go_goals
     (try rw [Exit.noGoto_ret])
     go_ret;rw [hfin.out];exact ⟨rfl,hnx2⟩
   have hfin:=KZ9 (hst.out.trans (HNEXT.out hc0 hlt));have g2:decide (p<(0:Int))=false:=KZ8 (by omega);have g3:decide (q<(0:Int))=false:=KZ8 (by omega);have hp0:0≤p:=by omega
   have hq0:0≤q:=by omega
   have hp1:p≤(x.length:Int):=by omega
   have hq1:q≤(y.length:Int):=by omega
   have hh1:=hhx hp0;have hh2:=hhy hq0;clear HEND HNEXT HNE hc0 hst hnx hlt hhx hhy;go_upto_region 7 with fail
   all_goals try omega
   refine wp_region_quiet_lit (by kernel_rfl) (by kernel_rfl) ?_;repeat (go_big_quiet_step (fail))
   refine wpQuiet_nil ?_;intro _ hw';obtain ⟨nq2,hw''⟩:=hw';subst hw'';have hnx3:=SD hnx2 nq2;go_wp2
   all_goals try omega
   go_roundw
   case rel=>exact ⟨xQ x,xQ y,by first | rfl | rw [fx],by first | rfl | rw [fy],by omega,by omega,hfin,hnx3⟩
   case measure=>simp [uH];omega
  have g1:(c != 0)=true:=by simpa using hc0
  have hfin:=KZ9 (hst.out.trans (HNE.out hc0));clear HEND HNEXT HNE hc0 hst hnx;go_wp2
  all_goals try omega
  (try rw [Exit.noGoto_ret])
  go_ret;rw [hfin.out];exact ⟨rfl,hnx2⟩
theorem pT (a b:ByteArray) (w:World) (ha:a.size≤100000) (hb:b.size≤100000):Calls Tryz.prog 61 #[.string a,.string b] w fun e w'=>e= .returned (.int .i64 (yI (un a) (un b)))∧Below w.heap.size w w':=by
 refine (cL a b w ha hb).mono ?_;rintro e w' ⟨rfl,m,rfl⟩;exact ⟨rfl,below_drewN (Below.refl _ _) m⟩
end Go.Proofs.YtbnnlkdhpifpeaaGreatDoor
namespace Hs
open Go Go.RowKit
structure Keeps (G:Nat→Prop) (A B:World):Prop where
 os:B.os=A.os
 tape:B.tape=A.tape
 output:B.output=A.output
 size:A.heap.size≤B.heap.size
 block:∀ k,k<A.heap.size→G k→B.heap[k]? =A.heap[k]?
theorem Keeps.refl (G:Nat→Prop) (A:World):Keeps G A A:=⟨rfl,rfl,rfl,Nat.le_refl _,fun _ _ _=>rfl⟩
theorem Keeps.trans {G:Nat→Prop} {A B C:World} (h:Keeps G A B) (k:Keeps G B C):Keeps G A C :=
 ⟨k.os.trans h.os,k.tape.trans h.tape,k.output.trans h.output,Nat.le_trans h.size k.size,fun i hi hg=>(k.block i (Nat.lt_of_lt_of_le hi h.size) hg).trans (h.block i hi hg)⟩
theorem Keeps.mono {G G':Nat→Prop} {A B:World} (h:Keeps G A B) (hg:∀ k,G' k→G k):Keeps G' A B :=
 ⟨h.os,h.tape,h.output,h.size,fun k hk hg'=>h.block k hk (hg k hg')⟩
theorem Keeps.of_below {G:Nat→Prop} {A B:World} (h:Below A.heap.size A B):Keeps G A B:=⟨h.os,h.tape,h.output,h.size,fun k hk _=>h.block k hk⟩
theorem Keeps.of_grown {G:Nat→Prop} {A B:World} {row:Option Nat} (h:A.grownBy B row) (hr:∀ r,row=some r→¬ G r):Keeps G A B :=
 ⟨h.os,h.tape,h.output,h.size,fun k hk hg=>h.block k hk (fun e=>hr k e.symm hg)⟩
theorem Keeps.alloc (G:Nat→Prop) (A:World) (o:Obj):Keeps G A (A.alloc o):= .of_below ((Below.refl _ A).alloc (Nat.le_refl _) o)
theorem Keeps.setCell {G:Nat→Prop} (A:World) (b j:Nat) (hb:¬ G b) (v:Value):Keeps G A (A.setCell ⟨b,j,none⟩ v):=by
 have h:=(Below.refl 0 A).setCell (p:=⟨b,j,none⟩) (Nat.zero_le _) v;exact ⟨h.os,h.tape,h.output,h.size,fun k hk hg=>Below.heap_setCell A ⟨b,j,none⟩ v k (fun e=>hb (by have e2:k=b:=e;rw [←e2];exact hg))⟩
theorem Keeps.cell {G:Nat→Prop} {A B:World} (h:Keeps G A B) {b j:Nat} (hb:b<A.heap.size) (hg:G b):B.cell? ⟨b,j,none⟩=A.cell? ⟨b,j,none⟩:=World.cell?_of_block (h.block b hb hg)
theorem Keeps.frozen {G:Nat→Prop} {A B:World} (h:Keeps G A B) {b j:Nat} (hb:b<A.heap.size) (hg:G b):B.frozen? ⟨b,j,none⟩=A.frozen? ⟨b,j,none⟩:=World.frozen?_of_block (h.block b hb hg)
theorem Keeps.below {n:Nat} {A B:World} (h:Keeps (· <n) A B) (hn:n≤A.heap.size):Below n A B:=⟨h.os,h.tape,h.output,h.size,fun k hk=>h.block k (by omega) hk⟩
theorem grown_of_below {A B:World} (h:Below A.heap.size A B):A.grownBy B none:=⟨h.os,h.tape,h.output,h.size,fun k hk _=>h.block k hk⟩
theorem grown_setCell (A:World) (b j:Nat) (v:Value):A.grownBy (A.setCell ⟨b,j,none⟩ v) (some b):=by
 have h:=(Below.refl 0 A).setCell (p:=⟨b,j,none⟩) (Nat.zero_le _) v;exact ⟨h.os,h.tape,h.output,h.size,fun k hk hr=>Below.heap_setCell A ⟨b,j,none⟩ v k (fun e=>hr (by rw [e]))⟩
structure AbidesG {β:Type} (J:β→(Nat→Prop)→World→Prop):Prop where
 turn:∀ s G A B row,J s G A→A.grownBy B row→(∀ r,row=some r→G r)→J s G B
 lay:∀ s G A B,J s G A→A.grownBy B none→J s (fun k=>G k∨(A.heap.size≤k∧k<B.heap.size)) B
def Seq {α:Type} (F:Fence) (n:Nat) (P:Program) (g:Nat) (lb:Array Value) (encs:α→Array Value) (own:Nat→Prop) (n₀:Nat) (S Sp:List α→Prop) (w:World):Prop :=
 ∀ (l:Nat) (J Jx:List α→(Nat→Prop)→World→Prop) (W:World),Below w.heap.size w W→AbidesG J→AbidesG Jx →
  (∀ pre x G W1,J pre G W1→Sp (pre++[x])→YieldAt F (n - 1) P l (encs x) W1 fun e W' =>
   (e= .returned (.bool true)∧J (pre++[x]) G W'∧Keeps (fun k=>G k∨k<n₀) W1 W')∨(e= .returned (.bool false)∧Jx (pre++[x]) G W'∧Keeps (fun k=>G k∨k<n₀) W1 W')) →
  J [] own W →
  CallsIn F n P g (#[.func (.yield l) #[] #[]]++lb) W fun e W'=>(∃ v,e= .returned v)∧((∃ xs G,S xs∧J xs G W')∨(∃ pre G,Sp pre∧Jx pre G W'))
def postR {α:Type} (L n₀:Nat) (I:List α→(Nat→Prop)→World→Prop) (Ix:Code→List α→(Nat→Prop)→World→Prop) (xs:List α) (G:Nat→Prop) (W:World):Exit→Act→World→Prop
 | .normal,_,W'=>W'.heap[L]? =W.heap[L]? ∧Keeps (fun k=>G k∨k<n₀) W W'∧I xs G W'
 | .ret,_,W'=>W'.heap[L]? =W.heap[L]? ∧Keeps (fun k=>G k∨k<n₀) W W'∧Ix .ret xs G W'
 | .exit id,_,W'=>W'.heap[L]? =W.heap[L]? ∧Keeps (fun k=>G k∨k<n₀) W W'∧Ix (.exit id) xs G W'
 | .goto t,_,W'=>W'.heap[L]? =W.heap[L]? ∧Keeps (fun k=>G k∨k<n₀) W W'∧Ix (.goto t) xs G W'
 | .panic _,_,_=>False
 | .outgrown,_,_=>False
variable {F : Fence} {n : Nat} {P : Program}
theorem range_law {α:Type} {g:Operand} {ps:Array Tmp} {assign body:Code} {Q:Exit→Act→World→Prop} {a:Act} {w w₁:World} {L dfr:Nat} {mark:List Deferred}
  (h1:1≤n) (hL:L=w₁.heap.size)
  (hent:∀ fn,(Instr.enterLoop fn a.tmps ps assign body F.round).run P w= .ok (L,mark) (w₁.alloc (.loop { state:= .ready,pending:=none,fn,tmps:=a.tmps,params:=ps,assign,body,defers:=dfr })))
  {gf:Nat} {lb:Array Value} (hg:a.eval g= .func (.func gf) #[] lb) (hFg:F.fn gf) (eg:∀ args w,(callFunc gf args).run P w= .ok (.enter gf args) w)
  {encs:α→Array Value} {own:Nat→Prop} {n₀:Nat} {S Sp:List α→Prop} {w0:World} (hseq:Seq F (n - 1) P gf lb encs own n₀ S Sp w0)
  (hb0:Below w0.heap.size w0 w₁) (hps:∀ x,(encs x).size=ps.size) (hn₀:n₀≤L) (hown:¬ own L)
  (I:List α→(Nat→Prop)→World→Prop) (Ix:Code→List α→(Nat→Prop)→World→Prop)
  (hIt:∀ s G A B row,I s G A→A.grownBy B row→(∀ r,row=some r→G r∨r=L)→I s G B)
  (hIl:∀ s G A B,I s G A→A.grownBy B none→I s (fun k=>G k∨(A.heap.size≤k∧k<B.heap.size)) B)
  (hXt:∀ c s G A B row,Ix c s G A→A.grownBy B row→(∀ r,row=some r→G r∨r=L)→Ix c s G B)
  (hXl:∀ c s G A B,Ix c s G A→A.grownBy B none→Ix c s (fun k=>G k∨(A.heap.size≤k∧k<B.heap.size)) B)
  (h0:∀ o,I [] own (w₁.alloc o)) (Ax:α→Act→World→Prop)
  (hAx:∀ x a' A B row,Ax x a' A→A.grownBy B row→(∀ r,row=some r→r=L)→Ax x a' B)
  (hassign:∀ (pre:List α) (x:α) (G:Nat→Prop) (W:World) (K:Act→World→Prop),I pre G W→Sp (pre++[x]) →
   (∀ a' W',W'.heap[L]? =W.heap[L]? →Keeps (fun k=>G k∨k<n₀) W W'→I pre G W'→Ax x a' W'→K a' W') →
   assign.wpIn (F.inRound L) (n - 1 - 1) P (Exit.then K (fun _ _ _=>False)) { tmps:=(ps.zip (encs x)).foldl (fun t (p,v)=>t.setIfInBounds p v) a.tmps,defers:=[] } W)
  (hbody:∀ (pre:List α) (x:α) (G:Nat→Prop) (a':Act) (W:World),(∃ r,W.heap[L]? =some (.loop r))→I pre G W→Ax x a' W→Sp (pre++[x]) →
   body.wpIn (F.inRound L) (n - 1 - 1) P (postR L n₀ I Ix (pre++[x]) G W) a' W)
  (hdone:∀ (xs:List α) (G:Nat→Prop) (W:World),S xs→I xs G W→Q .normal { a with defers:=mark++a.defers } W)
  (hstop:∀ (c:Code) (pre:List α) (G:Nat→Prop) (W:World),Sp pre→Ix c pre G W→c.wpIn F n P Q { a with defers:=mark++a.defers } W) :
  (Code.rangeFunc g ps assign body).wpIn F n P Q a w:=by
 subst hL;refine wpIn_rangeFunc fun fn hfn=> ?_;obtain ⟨rec,hrec⟩:∃ rec:LoopState→Option Code→Loop,rec=fun st pe=>{ state:=st,pending:=pe,fn,tmps:=a.tmps,params:=ps,assign,body,defers:=dfr }:=⟨_,rfl⟩;have hent':=hent fn;rw [show Obj.loop { state:= .ready,pending:=none,fn,tmps:=a.tmps,params:=ps,assign,body,defers:=dfr }=Obj.loop (rec .ready none) from by rw [hrec]] at hent';have hL1:=World.alloc_heap_new w₁ (.loop (rec .ready none));have hI1:=h0 (.loop (rec .ready none));have hb1:Below w0.heap.size w0 (w₁.alloc (.loop (rec .ready none))):=hb0.trans (((Below.refl _ w₁).alloc (Nat.le_refl _) _).mono hb0.size);generalize w₁.alloc (.loop (rec .ready none))=W1 at *;generalize w₁.heap.size=L at *;refine ⟨L,mark,W1,{ target:= .fn (.func gf) lb,args:=#[.func (.yield L) #[] #[]] },W1,gf,#[.func (.yield L) #[] #[]]++lb,W1,hent',?_,?_,?_,fun _=>h1,?_⟩
 ·simp only [resolve,hg];simp [go_sem]
 ·intro f' hf';simp [Target.leads] at hf';subst hf';exact hFg
 ·simp [invoke,go_sem,eg]
 have keepL:∀ {G:Nat→Prop} {A B:World} {row:Option Nat} {o:Obj},A.heap[L]? =some o→¬ G L→A.grownBy B row→(∀ r,row=some r→G r)→B.heap[L]? =some o :=
  fun hl hG hg' hr=>(hg'.block L (Array.getElem?_eq_some_iff.1 hl).1 (fun e=>hG (hr L e.symm))).trans hl
 have layL:∀ {G:Nat→Prop} {A B:World} {o:Obj},A.heap[L]? =some o→¬ G L→¬ (G L∨(A.heap.size≤L∧L<B.heap.size)) :=
  fun hl hG h=>h.elim hG fun h=>by have:=(Array.getElem?_eq_some_iff.1 hl).1;omega
 have put:∀ (W:World) (o:Obj),W.grownBy (W.putObj L o) (some L):=fun W o=>grownBy_putObj' W L o;refine (hseq L (fun pre G W=>I pre G W∧¬ G L∧W.heap[L]? =some (.loop (rec .ready none)))
  (fun pre G W=>∃ c,Ix c pre G W∧¬ G L∧W.heap[L]? =some (.loop (rec .done (some c)))) W1 hb1
  ⟨fun s G A B row hs hg' hr=>⟨hIt s G A B row hs.1 hg' (fun r e=> .inl (hr r e)),hs.2.1,keepL hs.2.2 hs.2.1 hg' hr⟩,
   fun s G A B hs hg'=>⟨hIl s G A B hs.1 hg',layL hs.2.2 hs.2.1,keepL (G:=G) hs.2.2 hs.2.1 hg' (fun r e=>by cases e)⟩⟩
  ⟨fun s G A B row ⟨c,hs,hG,hl⟩ hg' hr=>⟨c,hXt c s G A B row hs hg' (fun r e=> .inl (hr r e)),hG,keepL hl hG hg' hr⟩,
   fun s G A B ⟨c,hs,hG,hl⟩ hg'=>⟨c,hXl c s G A B hs hg',layL hl hG,keepL (G:=G) hl hG hg' (fun r e=>by cases e)⟩⟩
  ?_ ⟨hI1,hown,hL1⟩).mono ?_
 ·rintro pre x G W ⟨hi,hG,hl⟩ hlen;have hy:=run_yield (P:=P) (args:=encs x) hl (by rw [hrec];exact hps x);rw [hrec] at hy;refine ⟨fn,_,assign,body,hy,roundIn_of_wpIn hfn (hassign pre x G W _ hi hlen ?_)⟩;clear hy;intro a' Wa hla hka hia hax;have hl0:=hla.trans hl;refine ⟨_,run_beginRound hl0 (by rw [hrec]),?_⟩;have hlt:=(Array.getElem?_eq_some_iff.1 hl0).1;have hbusy:(Wa.putObj L (.loop { rec .ready none with state:= .busy })).heap[L]? =some (.loop { rec .ready none with state:= .busy }):=World.putObj_heap_same hlt;have hkb:Keeps (fun k=>G k∨k<n₀) W (Wa.putObj L (.loop { rec .ready none with state:= .busy })) :=
   hka.trans (.of_grown (put _ _) (fun r e=>by cases e;exact fun h=>h.elim hG (by omega)))
  refine wpIn_mono (hbody pre x G a' _ ⟨_,hbusy⟩ (hIt _ _ _ _ _ hia (put _ _) (fun r e=>by cases e;exact .inr rfl)) (hAx _ _ _ _ _ hax (put _ _) (fun r e=>by cases e;rfl)) hlen) ?_;have fin:∀ (jump:Option Code) (W3:World),W3.heap[L]? =(Wa.putObj L (.loop { rec .ready none with state:= .busy })).heap[L]? →
    (Instr.endRound L jump).run P W3= .ok (.bool jump.isNone) (W3.putObj L (.loop (rec (if jump.isNone then .ready else .done) jump))) ∧
    (W3.putObj L (.loop (rec (if jump.isNone then .ready else .done) jump))).heap[L]? =some (.loop (rec (if jump.isNone then .ready else .done) jump)):=fun jump W3 h3=>by
   have hl3:=h3.trans hbusy;have:=run_endRound (P:=P) jump hl3;rw [hrec] at this ⊢;exact ⟨this,World.putObj_heap_same (Array.getElem?_eq_some_iff.1 hl3).1⟩
  rintro e a3 W3 hp;cases e with
  | normal =>
   obtain ⟨h3,hk3,hi3⟩:=hp;obtain ⟨hr,hl4⟩:=fin none W3 h3;exact ⟨_,_,hr,.inl ⟨rfl,⟨hIt _ _ _ _ _ hi3 (put _ _) (fun r e=>by cases e;exact .inr rfl),hG,hl4⟩,
    (hkb.trans hk3).trans (.of_grown (put _ _) (fun r e=>by cases e;exact fun h=>h.elim hG (by omega)))⟩⟩
  | ret =>
   obtain ⟨hr,hl4⟩:=fin (some .ret) W3 hp.1;exact ⟨_,_,hr,.inr ⟨rfl,⟨.ret,hXt _ _ _ _ _ _ hp.2.2 (put _ _) (fun r e=>by cases e;exact .inr rfl),hG,hl4⟩,(hkb.trans hp.2.1).trans (.of_grown (put _ _) (fun r e=>by cases e;exact fun h=>h.elim hG (by omega)))⟩⟩
  | exit id =>
   obtain ⟨hr,hl4⟩:=fin (some (.exit id)) W3 hp.1;exact ⟨_,_,hr,.inr ⟨rfl,⟨.exit id,hXt _ _ _ _ _ _ hp.2.2 (put _ _) (fun r e=>by cases e;exact .inr rfl),hG,hl4⟩,(hkb.trans hp.2.1).trans (.of_grown (put _ _) (fun r e=>by cases e;exact fun h=>h.elim hG (by omega)))⟩⟩
  | goto t =>
   obtain ⟨hr,hl4⟩:=fin (some (.goto t)) W3 hp.1;exact ⟨_,_,hr,.inr ⟨rfl,⟨.goto t,hXt _ _ _ _ _ _ hp.2.2 (put _ _) (fun r e=>by cases e;exact .inr rfl),hG,hl4⟩,(hkb.trans hp.2.1).trans (.of_grown (put _ _) (fun r e=>by cases e;exact fun h=>h.elim hG (by omega)))⟩⟩
  | panic ch=>exact hp.elim
  | outgrown=>exact hp.elim
 rintro e W2 ⟨⟨v,rfl⟩,(⟨xs,G,hS,hi,hG,hl⟩ | ⟨pre,G,hSp,c,hi,hG,hl⟩)⟩
 ·exact ⟨none,_,by have:=run_endLoop (P:=P) hl (by rw [hrec];simp);rw [hrec] at this;exact this,hdone xs G _ hS (hIt _ _ _ _ _ hi (put _ _) (fun r e=>by cases e;exact .inr rfl))⟩
 exact ⟨some c,_,by have:=run_endLoop (P:=P) hl (by rw [hrec];simp);rw [hrec] at this;exact this,hstop c pre G _ hSp (hXt _ _ _ _ _ _ hi (put _ _) (fun r e=>by cases e;exact .inr rfl))⟩
theorem enter_outer (hro:F.round=none) (w:World) (a:Act) (ps:Array Tmp) (assign body:Code):∀ fn,(Instr.enterLoop fn a.tmps ps assign body F.round).run P w= .ok (w.heap.size+1,[{ target:= .collected w.heap.size,args:=#[] }]) ((w.alloc (.deferred (some []))).alloc (.loop { state:= .ready,pending:=none,fn,tmps:=a.tmps,params:=ps,assign,body,defers:=w.heap.size })):=fun fn=>by
 rw [hro];exact run_enterLoop_outer _ _ _ _ _
theorem Seq.inRound {α:Type} {g:Nat} {lb:Array Value} {encs:α→Array Value} {own:Nat→Prop} {n₀:Nat} {S Sp:List α→Prop} {w:World} (l:Nat) (h:Seq F n P g lb encs own n₀ S Sp w):Seq (F.inRound l) n P g lb encs own n₀ S Sp w:=h
theorem Keeps.grown {G:Nat→Prop} {A B C:World} {row:Option Nat} (h:Keeps G A B) (hg:B.grownBy C row) (hr:∀ r,row=some r→A.heap.size≤r):Keeps G A C :=
 ⟨hg.os.trans h.os,hg.tape.trans h.tape,hg.output.trans h.output,Nat.le_trans h.size hg.size,fun k hk hG=>(hg.block k (Nat.lt_of_lt_of_le hk h.size) (fun e=>by have:=hr k e.symm;omega)).trans (h.block k hk hG)⟩
end Hs
namespace Hs
open Go
theorem SL (l:Bs) (c:UInt8):(∃ a r,l=a++c::r∧c∉a)∨c∉l:=by
 by_cases h:c∈l
 ·exact .inl (by
   induction l with
   | nil=>cases h
   | cons b l ih =>
    by_cases hb:b=c
    ·exact ⟨[],l,by rw [hb];rfl,by simp⟩
    rcases List.mem_cons.1 h with e | h
    ·exact absurd e.symm hb
    obtain ⟨a,r,e,hn⟩:=ih h;exact ⟨b::a,r,by rw [e];rfl,by simp only [List.mem_cons,not_or];exact ⟨fun e=>hb e.symm,hn⟩⟩)
 exact .inr h
theorem gD (a r:Bs) (c:UInt8) (h:c∉a):Lib.indexByte (a++c::r) c=(a.length:Int):=by
 induction a with
 | nil=>simp [Lib.indexByte]
 | cons b a ih =>
  simp only [List.mem_cons,not_or] at h;have hb:(b==c)=false:=beq_eq_false_iff_ne.2 (fun e=>h.1 e.symm);have:=ih h.2;rw [List.cons_append,Lib.indexByte,hb,this];simp
theorem gz (l:Bs) (c:UInt8) (h:c∉l):Lib.indexByte l c= -1:=by
 induction l with
 | nil=>simp [Lib.indexByte]
 | cons b l ih =>
  simp only [List.mem_cons,not_or] at h;have hb:(b==c)=false:=beq_eq_false_iff_ne.2 (fun e=>h.1 e.symm);have:=ih h.2;rw [Lib.indexByte,hb,this];simp
def QH (d:Bs):List Bs:=match Wq d with | []=>[] | w::_=>[zt w]
def Q5 (p:Bs):List Bs:=(zg 59 p).flatMap QH
def PN (acc:List Bs) (n:Bs):List Bs:=if n∈acc then acc else acc++[n]
def Pl (acc ns:List Bs):List Bs:=ns.foldl PN acc
theorem pO (c:UInt8):∀ (a b:Bs),zg c (a++c::b)=zg c a++zg c b
 | [],b=>by simp [zg]
 | x::a,b=>by
  have ih:=pO c a b;by_cases hx:x=c
  ·rw [List.cons_append,zg,if_pos hx,zg,if_pos hx,ih];rfl
  rw [List.cons_append,zg,if_neg hx,zg,if_neg hx,ih];cases h:zg c a with
  | nil=>exact absurd h (ww c a)
  | cons y t=>rfl
end Hs
namespace Go.Proofs.YtbnnlkdhpifpeaaGreatDoor
open Go.RowKit Go.Shelf Hs
attribute [local go_sem] Oper.semAt_some
abbrev tm (w:World) (s:ByteArray) (c:UInt8):World:=((w.alloc (.cells #[.string s] 9)).alloc (.cells #[.string ⟨#[c]⟩] 9)).alloc (.cells #[.int .i64 0] 3)
theorem Yr (s:ByteArray) (c:UInt8) (w:World):Calls Tryz.prog 176 #[.string s,.string ⟨#[c]⟩,.int .i64 0] w fun e w'=>e= .returned (.func (.func 248) #[] #[.pointer (some ⟨w.heap.size+1,0,none⟩),.pointer (some ⟨w.heap.size,0,none⟩),.pointer (some ⟨w.heap.size+2,0,none⟩)])∧w'=tm w s c:=by
 go_enter Tryz.func176,Tryz.ntmps176
 go_wp2;go_ret;exact ⟨rfl,rfl⟩
theorem X1 (s:ByteArray) (c:UInt8) (w:World):Calls Tryz.prog 114 #[.string s,.string ⟨#[c]⟩] w fun e w'=>e= .returned (.func (.func 248) #[] #[.pointer (some ⟨w.heap.size+1,0,none⟩),.pointer (some ⟨w.heap.size,0,none⟩),.pointer (some ⟨w.heap.size+2,0,none⟩)])∧w'=tm w s c:=by
 go_enter Tryz.func114,Tryz.ntmps114
 go_wp2_with fail
 refine (Yr s c _).mono ?_;rintro e w' ⟨rfl,rfl⟩;go_wp2_with fail
 go_ret;exact ⟨rfl,rfl⟩
theorem Zg (w:World) (s:ByteArray) (c:UInt8):(tm w s c).heap.size=w.heap.size+3:=by simp [tm]
theorem cD (w:World) (s:ByteArray) (c:UInt8):Below w.heap.size w (tm w s c):=(((Below.refl _ w).alloc (Nat.le_refl _) _).alloc (by simp) _).alloc (by simp;omega) _
theorem Tu (w:World) (s:ByteArray) (c:UInt8):Boxed (tm w s c) w.heap.size 9 (.string s):=((Boxed.new w _ _).alloc _).alloc _
theorem Tv (w:World) (s:ByteArray) (c:UInt8):Boxed (tm w s c) (w.heap.size+1) 9 (.string ⟨#[c]⟩):=by
 have:=(Boxed.new (w.alloc (.cells #[.string s] 9)) 9 (.string ⟨#[c]⟩)).alloc (.cells #[.int .i64 0] 3)
 rwa [World.size_alloc] at this
theorem Tt (w:World) (s:ByteArray) (c:UInt8):Boxed (tm w s c) (w.heap.size+2) 3 (.int .i64 0):=by
 have:=Boxed.new ((w.alloc (.cells #[.string s] 9)).alloc (.cells #[.string ⟨#[c]⟩] 9)) 3 (.int .i64 0);simp only [World.size_alloc] at this;exact this
def jA (c:Nat) (w:World):Nat:=match w.cell? ⟨c,0,none⟩ with | some v=>uH v | none=>0
theorem tY {c:Nat} {w:World} {t:TypeId} {s:ByteArray} (h:Boxed w c t (.string s)):jA c w=s.size:=by unfold jA;rw [h.cell];rfl
set_option maxRecDepth 100000
set_option maxHeartbeats 2000000
theorem VQ (n cs ct cz n₀:Nat) (c:UInt8) (s:ByteArray) (w:World) (hn:1≤n) (bs:Boxed w cs 9 (.string ⟨#[c]⟩)) (bt:Boxed w ct 9 (.string s)) (bz:Boxed w cz 3 (.int .i64 0)) (hst:cs≠ct) (hzt:cz≠ct) (hs:s.size≤1000000) :
  Seq Fence.wide n Tryz.prog 248 #[.pointer (some ⟨cs,0,none⟩),.pointer (some ⟨ct,0,none⟩),.pointer (some ⟨cz,0,none⟩)] (fun x:Bs=>#[.string (mk x)]) (fun k=>k=cs∨k=ct∨k=cz) n₀ (fun xs=>xs=zg c (un s)) (fun pre=>pre <+: zg c (un s)) w:=fun l J Jx W hW hJ hJx hY h0=>by
 have hsp:=World.size_alloc;have Bs0:Boxed W cs 9 (.string ⟨#[c]⟩):=(hW.block cs bs.lt).trans bs;have Bt0:Boxed W ct 9 (.string s):=(hW.block ct bt.lt).trans bt;have Bz0:Boxed W cz 3 (.int .i64 0):=(hW.block cz bz.lt).trans bz;have es0:=Bs0.cell;have hsz1:(⟨#[c]⟩:ByteArray).size=1:=rfl;refine callsIn_of_wp Tryz.func248 rfl trivial ?_ rfl;simp only [Tryz.ntmps248,List.size_toArray,List.length_cons,List.length_nil,Nat.reduceAdd,Nat.reduceSub,Array.replicate_succ,Array.replicate_zero,List.push_toArray,List.append_toArray,List.nil_append,List.cons_append]
 gi_wp2
 gi_loopw [] (fun wr=>∃ (pre:List Bs) (t:ByteArray) (G:Nat→Prop),Hid (pre++zg c (un t)=zg c (un s))∧t.size≤s.size∧Boxed wr cs 9 (.string ⟨#[c]⟩)∧Boxed wr ct 9 (.string t)∧Boxed wr cz 3 (.int .i64 0)∧J pre G wr∧G cs∧G ct∧G cz) (fun wr=>jA ct wr)
 case atStart =>
  exact ⟨[],s,_,rfl,Nat.le_refl _,Bs0,Bt0,Bz0,h0,.inl rfl,.inr (.inl rfl),.inr (.inr rfl)⟩
 case round =>
  obtain ⟨pre,t,G,hpre,hts,hbs,hbt,hbz,hJs,hGs,hGt,hGz⟩:=hrel;have ec:=hbs.cell;have et:=hbt.cell;have ez:=hbz.cell;have hmeas:=tY hbt;have hix:=fun W=>Tryz.strings_Index_one t c W;rw [show t.data.toList=un t from rfl] at hix;rcases SL (un t) c with ⟨a,r,e,hna⟩ | hno
  ·rw [e,gD a r c hna] at hix;have HIX:=KZ9 hix;have hal:a.length+1+r.length=t.size:=by have:=congrArg List.length e;rw [za] at this;simp at this;omega
   have hex1:t.extract 0 a.length=mk a:=by rw [yQ,e];congr 1;simp [seg]
   have hex2:t.extract (a.length+1) t.size=mk r:=by rw [yQ,←za,jX,e];congr 1;simp
   have hnext:Hid ((pre++[a])++zg c r=zg c (un s)):=by rw [←hpre.out,e,pk c r a (fun x hx e=>hna (e▸hx))];simp [Hid]
   obtain ⟨fn,tmps,assign,body,hy,hR⟩:=hY pre a G wr hJs ⟨_,hnext.out⟩;clear hix hpre e hna
   gi_wp2
   refine ⟨trivial,?_⟩;refine (callsIn_wide.2 (HIX.out _)).mono ?_;rintro e w' ⟨rfl,rfl⟩
   gi_wp2
   refine hR.mono ?_;rintro e W3 (⟨rfl,hJ3,hk3⟩ | ⟨rfl,hJx3,hk3⟩)
   ·have b3s:Boxed W3 cs 9 (.string ⟨#[c]⟩):=(hk3.block cs hbs.lt (.inl hGs)).trans hbs;have b3t:Boxed W3 ct 9 (.string t):=(hk3.block ct hbt.lt (.inl hGt)).trans hbt;have b3z:Boxed W3 cz 3 (.int .i64 0):=(hk3.block cz hbz.lt (.inl hGz)).trans hbz;have e3s:=b3s.cell;have e3t:=b3t.cell;have f3t:=b3t.frozen
    gi_wp2
    go_roundw
    case rel=>exact ⟨_,mk r,G,by rw [zk];exact hnext,by rw [zi];omega,b3s.other hst _,b3t.set _,b3z.other hzt _,hJ.turn _ _ _ _ _ hJ3 (grown_setCell _ ct 0 _) (fun r e=>by cases e;exact hGt),hGs,hGt,hGz⟩
    case measure=>rw [tY (b3t.set _),hmeas,zi];omega
   gi_wp2
   refine bodyPost_ret (results_none rfl _ _ _) rfl ?_;exact ⟨⟨_,rfl⟩,.inr ⟨_,G,⟨_,hnext.out⟩,hJx3⟩⟩
  rw [gz _ _ hno] at hix;have HIX:=KZ9 hix;have hnext:Hid (pre++[un t]=zg c (un s)):=by rw [←hpre.out,uq c _ (fun x hx e=>hno (e▸hx))];rfl
  obtain ⟨fn,tmps,assign,body,hy,hR⟩:=hY pre (un t) G wr hJs ⟨[],by rw [List.append_nil];exact hnext.out⟩;rw [x8] at hy;clear hix hpre hno
  gi_wp2
  refine ⟨trivial,?_⟩;refine (callsIn_wide.2 (HIX.out _)).mono ?_;rintro e w' ⟨rfl,rfl⟩
  gi_wp2
  refine hR.mono ?_;rintro e W3 (⟨rfl,hJ3,hk3⟩ | ⟨rfl,hJx3,hk3⟩)
  ·gi_wp2
   go_end0
   exact ⟨⟨_,rfl⟩,.inl ⟨_,G,hnext.out,hJ3⟩⟩
  gi_wp2
  go_end0
  exact ⟨⟨_,rfl⟩,.inr ⟨_,G,⟨[],by rw [List.append_nil];exact hnext.out⟩,hJx3⟩⟩
end Go.Proofs.YtbnnlkdhpifpeaaGreatDoor
namespace Hs
open Go Go.RowKit
variable {P : Program} (w : World)
theorem gp (base:Nat) (t ty e:TypeId) (i:TypeInfo) (z:Value) (size bytes:Nat) (ht:P.underlying t=some (.slice e)) (hi:P.info? e=some i) (hz:i.zero=some z)
  (hsize:i.size=size) (hby:i.bytes=bytes) (hzs:z.cells.size=size) (hsz:0<size)
  (v:Value) (n:Nat) (xs:List Value) (hown:w.ownsRow base e size v n xs)
  (a:Addr) (m c:Nat) (news:List Value) (hl:news.length=m*size) (hnews:∀ j u,news[j]? =some u→w.cell? (a.add j)=some u) (h1:∀ u∈news,u.oneCell'=true)
  (h63:n+m≤maxLen) (hbytes:(n+m)*bytes≤140737488355328) (hbase:base≤w.heap.size) (hm:0<m) :
  ∃ v' w',(Builtin.append_ #[t,t] ty #[v,.slice (some a) m c]).run P w= .ok v' w'∧w'.ownsRow base e size v' (n+m) (xs++news)∧w.grownBy w' v.ownBlock ∧
   (∃ g cap,v'= .slice (some ⟨g,0,none⟩) (n+m) cap∧(v.ownBlock=some g∨g=w.heap.size)):=by
 obtain ⟨v',w',hr,h2,h3,h4⟩:=run_append_own (P:=P) w base t ty e i z size bytes ht hi hz hsize hby hzs hsz v n xs hown a m c news hl hnews h1 h63 hbytes hbase;refine ⟨v',w',hr,h2,h3,?_⟩;subst hsize;subst hby;simp only [maxLen] at h63;rcases hown.2 with ⟨rfl,rfl⟩ | ⟨g,cap,cur,rfl,hbg,hg,hnc,hcm,hcs,htake⟩
 ·have hr2:=run_append_nil (P:=P) w t ty e i z ht hi hz a m c news hl hnews hm (by omega) (by have hb:=hbytes;simp only [Nat.zero_add] at hb;omega);rw [hr] at hr2;injection hr2 with e1 e2
  subst e1;exact ⟨w.heap.size,_,by simp;rfl,.inr rfl⟩
 by_cases hroom:n+m≤cap
 ·have hfit:n*i.size+news.length≤cur.size:=by rw [hl,hcs,←Nat.add_mul];exact Nat.mul_le_mul_right _ hroom
  have hr2:=run_append_room (P:=P) w t ty e i ht hi g n cap cur hg a m c news hl hnews h1 hroom hfit;rw [hr] at hr2;injection hr2 with e1 e2
  subst e1;exact ⟨g,_,rfl,.inl rfl⟩
 have holds:∀ j u,xs[j]? =some u→w.cell? ((⟨g,0,none⟩:Addr).add j)=some u:=hown.cells (g:=g) rfl;have hr2:=run_append_grow (P:=P) w t ty e i z ht hi hz ⟨g,0,none⟩ n cap xs hown.1 holds a m c news hl hnews (by omega) (by omega) (growslice_fits (by omega) hbytes);rw [hr] at hr2;injection hr2 with e1 e2
 subst e1;exact ⟨w.heap.size,_,by simp;rfl,.inr rfl⟩
variable {F : Fence} {n : Nat} {P : Program} {ops : Array Oper} {Q : Exit → Act → World → Prop} {md : Region.Mode}
def qx (ops:Array Oper):Bool:=ops.toList.all fun o=>match o.op with | .defer _=>false | _=>true
theorem ZC (h:qx ops=true) {i:Nat} {o:Oper} (hi:ops[i]? =some o):∀ c,o.op≠ .defer c:=fun c e=>by
 have hm:o∈ops.toList:=by
  obtain ⟨hlt,rfl⟩:=Array.getElem?_eq_some_iff.1 hi;exact Array.getElem_mem_toList hlt
 have:=List.all_eq_true.1 h o hm;rw [e] at this;cases this
theorem YW {o:Oper} {a:Act} {w:World} {K:Act→World→Prop} {l:Nat} (hro:F.round=none) (hd:∀ c,o.op≠ .defer c) (h:o.wpIn F n P a w K Q):o.wpIn (F.inRound l) n P a w K Q:=by
 unfold Oper.wpIn at h ⊢;refine ⟨h.1,?_⟩;have h2:=h.2;rw [hro,Oper.semAt_none] at h2;rw [Fence.inRound_round,Oper.semAt_some l _ o hd];exact h2
theorem dW {i:Nat} {K:Act→World→Prop} {a:Act} {w:World} {l:Nat} (hro:F.round=none) (hd:qx ops=true) (h:wpOpIn F n P ops Q i K a w):wpOpIn (F.inRound l) n P ops Q i K a w:=by
 unfold wpOpIn at h ⊢;cases hi:ops[i]? with
 | none=>simpa [hi] using h
 | some o =>
  simp only [hi] at h ⊢;split
  ·rename_i hw;rw [if_pos hw] at h;exact YW hro (ZC hd hi) h
  rename_i hw;rw [if_neg hw] at h;exact h
theorem rq (hro:F.round=none) (hd:qx ops=true) (l:Nat):∀ (fuel:Nat) (listed:Array Bool) (a:Act) (w:World),wpAnyIn F n P md ops Q fuel listed a w→wpAnyIn (F.inRound l) n P md ops Q fuel listed a w
 | 0,_,_,_,h=>h
 | fuel+1,listed,a,w,h=>⟨h.1,fun i hi=>dW hro hd (wpOpIn_mono (fun a' w'=>rq hro hd l fuel _ a' w') (h.2 i hi))⟩
theorem up {id:Nat} {a:Act} {w:World} {l:Nat} (hro:F.round=none) (hm:P.follows .mixedOrders=true) (hd:qx ops=true)
  (h:wpAnyIn F n P .any ops Q ops.size (Array.replicate ops.size false) a w.drew):(Code.region id ops true).wpIn (F.inRound l) n P Q a w :=
 wpIn_region_any hm (rq hro hd l _ _ _ _ h)
theorem zU (w:World) {o:Oper} {a:Act} {K:Act→World→Prop} {E:Prop}
  (hgd:o.guard=none) (s x:Operand) (t:TypeId) (hop:o.op=Op.call { callee:=Callee.builtin Builtin.append,args:=#[s,x],argTypes:=#[t,t] })
  (base:Nat) (e:TypeId) (i:TypeInfo) (z:Value) (size bytes:Nat) (h1:P.underlying t=some (.slice e)) (h2:P.info? e=some i) (h3:i.zero=some z) (h4:i.size=size) (h5:i.bytes=bytes) (h6:z.cells.size=size) (h7:0<size)
  (v:Value) (k:Nat) (xs:List Value) (hs:a.eval s=v) (hown:w.ownsRow base e size v k xs) (ad:Addr) (m c:Nat) (news:List Value) (hx:a.eval x= .slice (some ad) m c) (hn:news.length=m*size)
  (hc:∀ j u,news[j]? =some u→w.cell? (ad.add j)=some u) (h1c:∀ u∈news,u.oneCell'=true) (b1:k+m≤maxLen) (b2:(k+m)*bytes≤140737488355328) (b3:base≤w.heap.size) (hm:0<m)
  (hK:∀ g cap w',w'.ownsRow base e size (.slice (some ⟨g,0,none⟩) (k+m) cap) (k+m) (xs++news)→w.grownBy w' v.ownBlock→(v.ownBlock=some g∨g=w.heap.size) →
   K (a.put o.dst (.slice (some ⟨g,0,none⟩) (k+m) cap)) w') :
  if Region.wanted o (yielded ops a.tmps)=true then Oper.wpIn F n P o a w K Q else E:=by
 have hw:Region.wanted o (yielded ops a.tmps)=true:=by simp [Region.wanted,hgd]
 rw [if_pos hw];obtain ⟨v',w',hrun,r1,r2,g,cap,rfl,hp⟩:=gp (P:=P) w base t o.type e i z size bytes h1 h2 h3 h4 h5 h6 h7 v k xs hown ad m c news hn hc h1c b1 b2 b3 hm;unfold Oper.wpIn;refine ⟨?_,?_⟩
 ·simp [Oper.about,hop,resolve,Target.leads,Sem.run_pure]
 rw [Oper.semAt_plain F _ _ (by rw [hop];intro c hc';cases hc')];simp [execOp,hop,resolve,invoke,builtin,hs,hx,hrun,Result.andThen];exact hK g cap w' r1 r2 hp
end Hs
namespace Go.Proofs.YtbnnlkdhpifpeaaGreatDoor
open Go.RowKit Go.Shelf Hs
attribute [local go_sem] Oper.semAt_some
def DInv (J:List Bs→(Nat→Prop)→World→Prop) (z l:Nat) (pre:List Bs) (G:Nat→Prop) (W:World):Prop :=
 ∃ GJ,J (pre.flatMap Q5) GJ W∧(∀ k,G k→GJ k∧z+1≤k∧k≠z+4)∧GJ z∧GJ (z+4)∧GJ (z+5)∧Boxed W z 23 (.func (.yield l) #[] #[])∧W.heap[z+4]? =some (.deferred (some []))
def DOut (Jx:List Bs→(Nat→Prop)→World→Prop) (z:Nat) (NS:List Bs) (c:Code) (pre:List Bs) (G:Nat→Prop) (W:World):Prop :=
 c= .ret∧∃ GJ q,Jx q GJ W∧q <+: NS∧(∀ k,G k→GJ k∧z+1≤k∧k≠z+4)∧GJ (z+4)∧GJ (z+5)∧W.heap[z+4]? =some (.deferred (some []))
theorem DInv.turn {J:List Bs→(Nat→Prop)→World→Prop} {z l:Nat} {pre:List Bs} {G:Nat→Prop} {A B:World} {row:Option Nat} (h:DInv J z l pre G A) (hJ:AbidesG J) (hg:A.grownBy B row) (hr:∀ r,row=some r→G r∨r=z+5):DInv J z l pre G B:=by
 obtain ⟨GJ,h1,h2,h3,h4,h5,h6,h7⟩:=h;have ne:∀ j,j=z∨j=z+4→some j≠row:=fun j hj e=>by
  rcases hr j e.symm with h | h
  ·have:=h2 j h;omega
  omega
 exact ⟨GJ,hJ.turn _ _ _ _ _ h1 hg (fun r e=>(hr r e).elim (fun h=>(h2 r h).1) (fun h=>h▸h5)),h2,h3,h4,h5,h6.kept hg (ne _ (.inl rfl)),(hg.block _ (Array.getElem?_eq_some_iff.1 h7).1 (ne _ (.inr rfl))).trans h7⟩
theorem DInv.lay {J:List Bs→(Nat→Prop)→World→Prop} {z l:Nat} {pre:List Bs} {G:Nat→Prop} {A B:World} (h:DInv J z l pre G A) (hJ:AbidesG J) (hg:A.grownBy B none):DInv J z l pre (fun k=>G k∨(A.heap.size≤k∧k<B.heap.size)) B:=by
 obtain ⟨GJ,h1,h2,h3,h4,h5,h6,h7⟩:=h;have hlt:=(Array.getElem?_eq_some_iff.1 h7).1;exact ⟨_,hJ.lay _ _ _ _ h1 hg,fun k hk=>hk.elim (fun h=>⟨.inl (h2 k h).1,(h2 k h).2⟩) (fun h=>⟨.inr h,by omega,by omega⟩),.inl h3,.inl h4,.inl h5,h6.kept hg (by simp),(hg.block _ hlt (by simp)).trans h7⟩
theorem DOut.turn {Jx:List Bs→(Nat→Prop)→World→Prop} {z:Nat} {NS:List Bs} {c:Code} {pre:List Bs} {G:Nat→Prop} {A B:World} {row:Option Nat} (h:DOut Jx z NS c pre G A) (hJ:AbidesG Jx) (hg:A.grownBy B row) (hr:∀ r,row=some r→G r∨r=z+5):DOut Jx z NS c pre G B:=by
 obtain ⟨hc,GJ,q,h1,hq,h2,h4,h5,h7⟩:=h;have ne:some (z+4)≠row:=fun e=>by
  rcases hr _ e.symm with h | h
  ·have:=h2 _ h;omega
  omega
 exact ⟨hc,GJ,q,hJ.turn _ _ _ _ _ h1 hg (fun r e=>(hr r e).elim (fun h=>(h2 r h).1) (fun h=>h▸h5)),hq,h2,h4,h5,(hg.block _ (Array.getElem?_eq_some_iff.1 h7).1 ne).trans h7⟩
theorem DOut.lay {Jx:List Bs→(Nat→Prop)→World→Prop} {z:Nat} {NS:List Bs} {c:Code} {pre:List Bs} {G:Nat→Prop} {A B:World} (h:DOut Jx z NS c pre G A) (hJ:AbidesG Jx) (hg:A.grownBy B none):DOut Jx z NS c pre (fun k=>G k∨(A.heap.size≤k∧k<B.heap.size)) B:=by
 obtain ⟨hc,GJ,q,h1,hq,h2,h4,h5,h7⟩:=h;have hlt:=(Array.getElem?_eq_some_iff.1 h7).1;exact ⟨hc,_,q,hJ.lay _ _ _ _ h1 hg,hq,fun k hk=>hk.elim (fun h=>⟨.inl (h2 k h).1,(h2 k h).2⟩) (fun h=>⟨.inr h,by omega,by omega⟩),.inl h4,.inl h5,(hg.block _ hlt (by simp)).trans h7⟩
def EInv (J:List Bs→(Nat→Prop)→World→Prop) (n₀:Nat) (Wy:World) (GJ:Nat→Prop) (P0:List Bs) (pre:List Bs) (G:Nat→Prop) (W:World):Prop :=
 ∃ GK,J (P0++pre.flatMap QH) GK W∧(∀ k,GJ k→GK k)∧(∀ k,G k→GK k∧Wy.heap.size≤k)∧GK (Wy.heap.size+3)∧Keeps (fun k=>GJ k∨k<n₀) Wy W
def EOut (Jx:List Bs→(Nat→Prop)→World→Prop) (n₀:Nat) (Wy:World) (GJ:Nat→Prop) (NS:List Bs) (c:Code) (pre:List Bs) (G:Nat→Prop) (W:World):Prop :=
 c= .ret∧∃ GK q,Jx q GK W∧q <+: NS∧(∀ k,GJ k→GK k)∧(∀ k,G k→GK k∧Wy.heap.size≤k)∧GK (Wy.heap.size+3)∧Keeps (fun k=>GJ k∨k<n₀) Wy W
theorem EInv.turn {J:List Bs→(Nat→Prop)→World→Prop} {n₀:Nat} {Wy:World} {GJ:Nat→Prop} {P0 pre:List Bs} {G:Nat→Prop} {A B:World} {row:Option Nat} (h:EInv J n₀ Wy GJ P0 pre G A) (hJ:AbidesG J) (hg:A.grownBy B row) (hr:∀ r,row=some r→G r∨r=Wy.heap.size+3):EInv J n₀ Wy GJ P0 pre G B:=by
 obtain ⟨GK,h1,h2,h3,h4,h5⟩:=h;exact ⟨GK,hJ.turn _ _ _ _ _ h1 hg (fun r e=>(hr r e).elim (fun h=>(h3 r h).1) (fun h=>h▸h4)),h2,h3,h4,h5.grown hg (fun r e=>(hr r e).elim (fun h=>(h3 r h).2) (fun h=>by omega))⟩
theorem EInv.lay {J:List Bs→(Nat→Prop)→World→Prop} {n₀:Nat} {Wy:World} {GJ:Nat→Prop} {P0 pre:List Bs} {G:Nat→Prop} {A B:World} (h:EInv J n₀ Wy GJ P0 pre G A) (hJ:AbidesG J) (hg:A.grownBy B none):EInv J n₀ Wy GJ P0 pre (fun k=>G k∨(A.heap.size≤k∧k<B.heap.size)) B:=by
 obtain ⟨GK,h1,h2,h3,h4,h5⟩:=h;have hs:=h5.size;exact ⟨_,hJ.lay _ _ _ _ h1 hg,fun k h=> .inl (h2 k h),fun k hk=>hk.elim (fun h=>⟨.inl (h3 k h).1,(h3 k h).2⟩) (fun h=>⟨.inr h,by omega⟩),.inl h4,h5.grown hg (fun r e=>by cases e)⟩
theorem EOut.turn {Jx:List Bs→(Nat→Prop)→World→Prop} {n₀:Nat} {Wy:World} {GJ:Nat→Prop} {NS:List Bs} {c:Code} {pre:List Bs} {G:Nat→Prop} {A B:World} {row:Option Nat} (h:EOut Jx n₀ Wy GJ NS c pre G A) (hJ:AbidesG Jx) (hg:A.grownBy B row) (hr:∀ r,row=some r→G r∨r=Wy.heap.size+3):EOut Jx n₀ Wy GJ NS c pre G B:=by
 obtain ⟨hc,GK,q,h1,hq,h2,h3,h4,h5⟩:=h;exact ⟨hc,GK,q,hJ.turn _ _ _ _ _ h1 hg (fun r e=>(hr r e).elim (fun h=>(h3 r h).1) (fun h=>h▸h4)),hq,h2,h3,h4,h5.grown hg (fun r e=>(hr r e).elim (fun h=>(h3 r h).2) (fun h=>by omega))⟩
theorem EOut.lay {Jx:List Bs→(Nat→Prop)→World→Prop} {n₀:Nat} {Wy:World} {GJ:Nat→Prop} {NS:List Bs} {c:Code} {pre:List Bs} {G:Nat→Prop} {A B:World} (h:EOut Jx n₀ Wy GJ NS c pre G A) (hJ:AbidesG Jx) (hg:A.grownBy B none):EOut Jx n₀ Wy GJ NS c pre (fun k=>G k∨(A.heap.size≤k∧k<B.heap.size)) B:=by
 obtain ⟨hc,GK,q,h1,hq,h2,h3,h4,h5⟩:=h;have hs:=h5.size;exact ⟨hc,_,q,hJ.lay _ _ _ _ h1 hg,hq,fun k h=> .inl (h2 k h),fun k hk=>hk.elim (fun h=>⟨.inl (h3 k h).1,(h3 k h).2⟩) (fun h=>⟨.inr h,by omega⟩),.inl h4,h5.grown hg (fun r e=>by cases e)⟩
end Go.Proofs.YtbnnlkdhpifpeaaGreatDoor
namespace Go.Proofs.YtbnnlkdhpifpeaaGreatDoor
open Go.RowKit Go.Maps Hs
def ST (v:Value):Option (DataW Unit × List MemPlace):=match v with
 | .bool b=>some (.lit (.bool b),[])
 | _=>none
def PH:List Bs→DataW Unit:=fun l=>l.foldl (fun D n=>D.put (.string n) (.lit (.bool true))) (.map [])
theorem bD (n:Bs):WideAt.IsKeyLit (.string n):=by trivial
theorem cA:Keyed Tryz.prog 9:=string_keyed Tryz.underlying9
end Go.Proofs.YtbnnlkdhpifpeaaGreatDoor
namespace Go.Proofs.YtbnnlkdhpifpeaaGreatDoor
open Go.RowKit Go.Shelf Hs
theorem Uo {w:World} {base:Nat} {e:TypeId} {size n:Nat} {v:Value} {xs:List Value} (h:w.ownsRow base e size v n xs):∃ a cap,v= .slice a n cap:=by
 rcases h.2 with ⟨rfl,rfl⟩ | ⟨g,cap,cur,rfl,_⟩
 ·exact ⟨none,0,rfl⟩
 exact ⟨_,cap,rfl⟩
theorem Uq {v:Value} {r:Option Nat} (h:∀ k,r=some k→v.ownBlock≠some k):v.ownBlock=none∨v.ownBlock≠r:=by
 cases r with
 | none=>cases hv:v.ownBlock<;>simp
 | some k=>exact .inr (h k rfl)
structure MCore (w:World) (z:Nat) (N:List Bs) (v:Value) (ds:List Nat) (W:World):Prop where
 res:Blk3 W z 192 (.bool false) (.bool false) (.slice none 0 0)
 out:Blk3 W (z+1) 192 (.bool false) (.bool false) v
 row:W.ownsRow z 9 1 v N.length (scells N)
 seen:W.ownsMap Tryz.prog 9 ST (z+2) N.length (PH N)
 box:Boxed W (z+3) 252 (.map (some (z+2)))
 marks:∀ r,r∈ds→z+4≤r∧W.heap[r]? =some (.deferred (some []))
 below:Below z w W
theorem MCore.kept {w:World} {z:Nat} {N:List Bs} {v:Value} {ds:List Nat} {A B:World} {row:Option Nat} (h:MCore w z N v ds A) (hz:z≤w.heap.size) (hg:A.grownBy B row) (hr:∀ r,row=some r→z+4≤r∧r∉ds∧v.ownBlock≠some r):MCore w z N v ds B:=by
 have ne:∀ j,j<z+4→some j≠row:=fun j hj e=>by have:=(hr j e.symm).1;omega
 exact ⟨h.res.grown hg (ne _ (by omega)),h.out.grown hg (ne _ (by omega)),h.row.kept hg (Uq fun k e=>(hr k e).2.2),h.seen.kept hg (ne _ (by omega)),h.box.kept hg (ne _ (by omega)),
  fun r hm=>⟨(h.marks r hm).1,(hg.block r (Array.getElem?_eq_some_iff.1 (h.marks r hm).2).1 (fun e=>(hr r e.symm).2.1 hm)).trans (h.marks r hm).2⟩,h.below.grown hg (Nat.le_trans hz h.below.size) (fun k e=>by have:=(hr k e).1;omega)⟩
theorem MCore.size {w:World} {z:Nat} {N:List Bs} {v:Value} {ds:List Nat} {A:World} (h:MCore w z N v ds A):z+4≤A.heap.size:=h.box.lt
theorem MCore.mark {w:World} {z D:Nat} {N:List Bs} {v:Value} {ds:List Nat} {A:World} (h:MCore w z N v ds A) (hd:A.heap[D]? =some (.deferred (some []))) (hD:z+4≤D):MCore w z N v (D::ds) A :=
 ⟨h.res,h.out,h.row,h.seen,h.box,fun r hr=>(List.mem_cons.1 hr).elim (fun e=>e▸⟨hD,hd⟩) (fun hr=>h.marks r hr),h.below⟩
def MInv (w:World) (z:Nat) (N0:List Bs) (ds:List Nat) (L:Nat) (pre:List Bs) (G:Nat→Prop) (W:World):Prop :=
 ∃ v,MCore w z (Pl N0 pre) v ds W∧∀ k,(G k∨k=L)→k<W.heap.size∧z+4≤k∧k∉ds∧v.ownBlock≠some k
theorem MInv.turn {w:World} {z L:Nat} {N0:List Bs} {ds:List Nat} {pre:List Bs} {G:Nat→Prop} {A B:World} {row:Option Nat} (h:MInv w z N0 ds L pre G A) (hz:z≤w.heap.size) (hg:A.grownBy B row) (hr:∀ r,row=some r→G r∨r=L):MInv w z N0 ds L pre G B:=by
 obtain ⟨v,hc,hk⟩:=h;exact ⟨v,hc.kept hz hg (fun r e=>(hk r (hr r e)).2),fun k h=>⟨by have:=(hk k h).1;have:=hg.size;omega,(hk k h).2⟩⟩
theorem MInv.lay {w:World} {z L:Nat} {N0:List Bs} {ds:List Nat} {pre:List Bs} {G:Nat→Prop} {A B:World} (h:MInv w z N0 ds L pre G A) (hz:z≤w.heap.size) (hg:A.grownBy B none):MInv w z N0 ds L pre (fun k=>G k∨(A.heap.size≤k∧k<B.heap.size)) B:=by
 obtain ⟨v,hc,hk⟩:=h;refine ⟨v,hc.kept hz hg (fun r e=>by cases e),fun k h=> ?_⟩;rcases h with (h | ⟨h3,h4⟩) | h
 ·have:=hg.size;exact ⟨by have:=(hk k (.inl h)).1;omega,(hk k (.inl h)).2⟩
 ·refine ⟨h4,by have:=hc.size;omega,fun hm=> ?_,fun e=> ?_⟩
  ·have:=(Array.getElem?_eq_some_iff.1 (hc.marks k hm).2).1;omega
  have:=(hc.row.lt k e).2;omega
 have:=hg.size;exact ⟨by have:=(hk k (.inr h)).1;omega,(hk k (.inr h)).2⟩
def RT (ds:List Nat):List Deferred:=ds.map fun r=>{ target:= .collected r,args:=#[] }
theorem yC {F:Fence} {n:Nat} {P:Program} {fn:Func} {tmps:Array Value} {R:Ending→World→Prop}:∀ (ds:List Nat) (W:World),(∀ r,r∈ds→W.heap[r]? =some (.deferred (some [])))→ds.Nodup →
  (∀ W',Keeps (fun k=>k∉ds) W W'→LeavesIn F n P fn tmps R [] .returning W')→LeavesInM F n P fn tmps R (RT ds) .returning W
 | [],W,_,_,h=>h W (Keeps.refl _ _)
 | r::ds,W,hd,hn,h=>by
  rw [List.nodup_cons] at hn;refine ⟨by simp,.inl ⟨r,_,rfl,run_takeDeferred (hd r (by simp)),?_⟩⟩;refine yC ds _ (fun k hk=> ?_) hn.2 (fun W' hW'=>h W' ?_)
  ·exact (World.putObj_heap_other (fun e=>hn.1 (by first | exact e▸hk | exact e.symm▸hk))).trans (hd k (by simp [hk]))
  refine (Keeps.of_grown (grownBy_putObj' W r (.deferred none)) (fun k e=>by cases e;simp)).trans (hW'.mono fun k hk=> ?_);simp only [List.mem_cons,not_or] at hk;exact hk.2
theorem gK (v:Value) (l:List Bs) (x:ByteArray) (w:World) (hv:Strs w v l):Calls Tryz.prog 160 #[v,.string x] w fun e w'=>e= .returned (.bool (decide (un x∈l)))∧w=w':=by
 obtain ⟨a,cap,rfl,hn,hm,hc⟩:=hv.open;rcases Nat.eq_zero_or_pos l.length with h0 | hpos
 ·obtain rfl:l=[]:=List.eq_nil_of_length_eq_zero h0;refine (Tryz.slices_Contains_string_empty a cap x w).mono ?_;rintro e w' ⟨rfl,rfl⟩;exact ⟨rfl,rfl⟩
 obtain ⟨b,off,rfl,hb,hcell⟩:=hc hpos;refine (Tryz.slices_Contains_string b off l.length cap (l.map mk) x w (by simp) (by unfold maxLen at hm;omega) (fun j hj=> ?_)).mono ?_
 ·have hj':j<l.length:=by simpa using hj
  rw [hcell j hj'];simp [List.getD,List.getElem?_eq_getElem hj']
 rintro e w' ⟨rfl,rfl⟩;refine ⟨?_,rfl⟩
 congr 2
 rw [List.take_of_length_le (by simp),Bool.eq_iff_iff,Lib.containsS_iff,decide_eq_true_eq,List.mem_map];constructor
 ·rintro ⟨t,ht,e⟩;rw [←e,zk];exact ht
 intro h;exact ⟨_,h,x8 x⟩
attribute [local go_sem] Oper.semAt_some
theorem ye (w:World) {b:Nat} (g k:Nat) (v:Value) (hb:b≤g):Below b w (w.setCell ⟨g,k,none⟩ v):=⟨rfl,rfl,rfl,by simp,fun j hj=>Below.heap_setCell w ⟨g,k,none⟩ v j (fun e=>by have:j=g:=e;omega)⟩
def VInv (w:World) (y:Nat) (pre:List Bs) (G:Nat→Prop) (W:World):Prop :=
 pre.all zY=true∧BlkL W w.heap.size 4 [.bool false]∧W.heap[y+3]? =some (.deferred (some []))∧Below w.heap.size w W∧(∀ k,G k→w.heap.size<k∧k≠y+3)
def VOut (w:World) (y:Nat) (l:Bs) (c:Code) (pre:List Bs) (G:Nat→Prop) (W:World):Prop :=
 c= .ret∧(zg 46 l).all zY=false∧BlkL W w.heap.size 4 [.bool false]∧W.heap[y+3]? =some (.deferred (some []))∧Below w.heap.size w W∧(∀ k,G k→w.heap.size<k∧k≠y+3)
theorem VInv.turn {w:World} {y:Nat} {pre:List Bs} {G:Nat→Prop} {A B:World} {row:Option Nat} (h:VInv w y pre G A) (hy:w.heap.size<y) (hg:A.grownBy B row) (hr:∀ r,row=some r→G r∨r=y+4):VInv w y pre G B:=by
 obtain ⟨h1,h2,h3,h4,h5⟩:=h;have hlow:∀ r,row=some r→w.heap.size<r∧r≠y+3:=fun r e=>(hr r e).elim (h5 r) (fun h=>by omega);exact ⟨h1,h2.grown hg (fun e=>by have:=hlow _ e.symm;omega),(hg.block _ (Array.getElem?_eq_some_iff.1 h3).1 (fun e=>(hlow _ e.symm).2 rfl)).trans h3,h4.grown hg (by have:=h4.size;omega) (fun j hj=>by have:=hlow j hj;omega),h5⟩
theorem VInv.lay {w:World} {y:Nat} {pre:List Bs} {G:Nat→Prop} {A B:World} (h:VInv w y pre G A) (hy:w.heap.size<y) (hg:A.grownBy B none):VInv w y pre (fun k=>G k∨(A.heap.size≤k∧k<B.heap.size)) B:=by
 obtain ⟨h1,h2,h3,h4,h5⟩:=h;have hlt:=(Array.getElem?_eq_some_iff.1 h3).1;exact ⟨h1,h2.grown hg (by simp),(hg.block _ hlt (by simp)).trans h3,h4.grown hg (by have:=h4.size;omega) (fun j hj=>by cases hj),fun k hk=>hk.elim (h5 k) (fun h=>⟨by have:=h2.lt;omega,by omega⟩)⟩
theorem VOut.turn {w:World} {y:Nat} {l:Bs} {c:Code} {pre:List Bs} {G:Nat→Prop} {A B:World} {row:Option Nat} (h:VOut w y l c pre G A) (hy:w.heap.size<y) (hg:A.grownBy B row) (hr:∀ r,row=some r→G r∨r=y+4):VOut w y l c pre G B:=by
 obtain ⟨h0,h1,h2,h3,h4,h5⟩:=h;have hlow:∀ r,row=some r→w.heap.size<r∧r≠y+3:=fun r e=>(hr r e).elim (h5 r) (fun h=>by omega);exact ⟨h0,h1,h2.grown hg (fun e=>by have:=hlow _ e.symm;omega),(hg.block _ (Array.getElem?_eq_some_iff.1 h3).1 (fun e=>(hlow _ e.symm).2 rfl)).trans h3,h4.grown hg (by have:=h4.size;omega) (fun j hj=>by have:=hlow j hj;omega),h5⟩
theorem VOut.lay {w:World} {y:Nat} {l:Bs} {c:Code} {pre:List Bs} {G:Nat→Prop} {A B:World} (h:VOut w y l c pre G A) (hy:w.heap.size<y) (hg:A.grownBy B none):VOut w y l c pre (fun k=>G k∨(A.heap.size≤k∧k<B.heap.size)) B:=by
 obtain ⟨h0,h1,h2,h3,h4,h5⟩:=h;have hlt:=(Array.getElem?_eq_some_iff.1 h3).1;exact ⟨h0,h1,h2.grown hg (by simp),(hg.block _ hlt (by simp)).trans h3,h4.grown hg (by have:=h4.size;omega) (fun j hj=>by cases hj),fun k hk=>hk.elim (h5 k) (fun h=>⟨by have:=h2.lt;omega,by omega⟩)⟩
theorem tt {P:Program} {fn:Func} {p:Tmp} {ty:TypeId} (h:fn.results=#[.cell p ty]) (tmps:Array Value) (w:World) (g:Nat) (v:Value) (d:TypeDesc)
  (hp:tmps.getD p undef= .pointer (some ⟨g,0,none⟩)) (hc:w.cell? ⟨g,0,none⟩=some v) (hu:P.underlying ty=some d) (hd:(match d with | .struct _ | .array _ _=>true | _=>false)=false) :
  (results fn tmps).run P w= .ok v w:=by
 have hp':tmps[p]?.getD undef= .pointer (some ⟨g,0,none⟩):=by simpa using hp
 have hagg:(isAgg ty).run P w= .ok false w:=by
  unfold isAgg;rw [Sem.run_bind,run_underlying hu w];cases d<;>simp_all
 simp [results,h,hp',asAddr,loadVar,Sem.run_bind,hagg,hc,Result.andThen]
set_option maxRecDepth 100000
set_option maxHeartbeats 4000000
theorem wD (s:ByteArray) (w:World) (hB:Base w) (hs:s.size≤100000):Calls Tryz.prog 57 #[.string s] w fun e w'=>e= .returned (.bool (zG (un s)))∧Below w.heap.size w w':=by
 have hlen:(un s).length=s.size:=za s;refine (callsIn_wide (n:=9)).1 ?_;refine callsIn_of_wp_marks Tryz.func57 rfl trivial ?_ rfl;simp only [Tryz.ntmps57,List.size_toArray,List.length_cons,List.length_nil,Nat.reduceAdd,Nat.reduceSub,Array.replicate_succ,Array.replicate_zero,List.push_toArray,List.append_toArray,List.nil_append,List.cons_append];by_cases h253:253<s.size
 ·have hfin:Hid (zG (un s)=false):=KZ9 (by unfold zG;rw [KZ8 (by omega)];rfl);have g1:decide ((253:Int)<(s.size:Int))=true:=KZ7 (by omega);have c0:=(BlkL.new w 4 [.bool false]).c 0 _ rfl;have f0:=(BlkL.new w 4 [.bool false]).f 0
  gi_wp2
  all_goals try omega
  refine ⟨trivial,?_⟩
  gi_wp2
  refine yC [] _ (by simp) List.nodup_nil (fun W' hW'=> ?_);have hr:=BlkL.new w 4 [.bool false];have hr2:BlkL W' w.heap.size 4 [.bool false]:=(hW'.block _ hr.lt (by simp)).trans hr;refine ⟨_,tt rfl _ _ w.heap.size (.bool false) _ rfl (hr2.c 0 _ rfl) Tryz.underlying4 rfl,?_⟩;rw [hfin.out];refine ⟨rfl,?_⟩;exact ((Below.refl _ w).alloc (Nat.le_refl _) _).trans (Keeps.below (hW'.mono fun k _=>by simp) (by simp))
 have g1:decide ((253:Int)<(s.size:Int))=false:=KZ8 (by omega);have hw0:Below w.heap.size w (w.alloc (.cells #[.bool false] 4)):=(Below.refl _ w).alloc (Nat.le_refl _) _;have hr0:BlkL (w.alloc (.cells #[.bool false] 4)) w.heap.size 4 [.bool false]:=BlkL.new w _ _;have hz0:(w.alloc (.cells #[.bool false] 4)).heap.size=w.heap.size+1:=by simp
 obtain ⟨W0,hW0⟩:=KZ6 (w.alloc (.cells #[.bool false] 4));rw [←hW0] at hw0 hr0 hz0;have B0:=hB.below hw0;have hnum:=qd s W0 B0 (by omega);obtain ⟨nm,hnm⟩:=KZ6 (yz (un s));rw [←hnm] at hnum;have HNUM:=KZ9 hnum;have HW0:=KZ9 hW0.symm;have HNM:=KZ9 hnm;clear hnum hW0 hnm
 gi_wp2
 all_goals try omega
 rw [HW0.out];clear HW0;refine ⟨trivial,?_⟩;refine (callsIn_wide.2 HNUM.out).mono ?_;rintro e w1 ⟨rfl,hb1⟩;have hs1:=hb1.size;have HR1:=KZ9 (hr0.below (by omega) hb1);have HALL1:=KZ9 (hw0.trans (hb1.mono (by omega)));clear hb1 hw0 hr0 B0 HNUM;have c1:=HR1.out.c 0 _ rfl;have f1:=HR1.out.f 0;cases nm
 ·have hfin:Hid (zG (un s)=(zg 46 (un s)).all zY):=KZ9 (by unfold zG;rw [←HNM.out,KZ7 (by omega)];simp)
  gi_wp2
  refine ⟨trivial,?_⟩;refine (callsIn_wide.2 (X1 s 46 _)).mono ?_;rintro e w2 ⟨rfl,rfl⟩
  gi_wp2
  have ct:=Tu w1 s 46;have cs:=Tv w1 s 46;have co:=Tt w1 s 46;have hS2:=Zg w1 s 46;have hB2:=cD w1 s 46;obtain ⟨y,hy⟩:=KZ6 w1.heap.size;rw [←hy] at ct cs co hS2 hB2 hs1 ⊢;have hr2:=HR1.out.below (by omega) hB2;have hall2:=HALL1.out.trans (hB2.mono (by omega));generalize tm w1 s 46=W2 at *;have hzy:w.heap.size<y:=by omega
  have HR2:=KZ9 hr2;have HALL2:=KZ9 hall2;clear hr2 hall2 hB2 HR1 HALL1 c1 f1 hs1 hy;have hent:=fun (a:Act) ps asg bd=>enter_outer (F:=Fence.wide) (P:=Tryz.prog) rfl W2 a ps asg bd;rw [hS2] at hent;refine range_law (w₁:=W2.alloc (.deferred (some []))) (L:=y+4) (by omega) (by simp;omega) (hent _ _ _ _) (gf:=248) (lb:=#[.pointer (some ⟨y+1,0,none⟩),.pointer (some ⟨y,0,none⟩),.pointer (some ⟨y+2,0,none⟩)]) rfl trivial (enters_of Tryz.func248 (by kernel_rfl) rfl)
   (VQ 8 (y+1) y (y+2) w.heap.size 46 s W2 (by omega) cs ct co (by omega) (by omega) (by omega)) ((Below.refl _ W2).alloc (Nat.le_refl _) _) (fun _=>rfl) (by omega) (by omega)
   (VInv w y) (VOut w y (un s)) (fun _ _ _ _ _ h hg hr=>h.turn hzy hg hr) (fun _ _ _ _ h hg=>h.lay hzy hg) (fun _ _ _ _ _ _ h hg hr=>h.turn hzy hg hr) (fun _ _ _ _ _ h hg=>h.lay hzy hg) ?start
   (fun x a' W'=>a'={ tmps:=#[.string s,undef,.pointer (some ⟨w.heap.size,0,none⟩),.string (mk x),.string s,.int .i64 (s.size:Int),.bool false,.bool false,.string s,.bool false,.bool false,.string s,(.func (.func 248) #[] #[.pointer (some ⟨y+1,0,none⟩),.pointer (some ⟨y,0,none⟩),.pointer (some ⟨y+2,0,none⟩)]),.string (mk x),undef,undef,undef],defers:=[] }) (fun _ _ _ _ _ h _ _=>h) ?assign ?body ?done ?stop
  case start =>
   intro o;have hd:=World.alloc_heap_new W2 (.deferred (some []));rw [hS2] at hd;have hsz:((W2.alloc (.deferred (some []))).alloc o).heap.size=y+5:=by simp [hS2]
   refine ⟨rfl,(HR2.out.alloc _).alloc _,(Below.heap_alloc _ o _ (by simp;omega)).trans hd,(HALL2.out.alloc (by omega) _).alloc (by simp;omega) _,?_⟩;rintro k (rfl | rfl | rfl)<;>omega
  case assign =>
   intro pre x G W' K hI hsp hK
   gi_wp2
   exact hK _ _ rfl (Keeps.refl _ _) hI rfl
  case body =>
   rintro pre x G a' Wb ⟨r0,hr0⟩ hI rfl ⟨post,hpost⟩;have hxl:x.length≤s.size:=by
    have:=vW 46 (un s) x (by rw [←hpost];simp);rw [za] at this;exact this
   obtain ⟨i1,i2,i3,i4,i5⟩:=id hI;have hval:=kg (mk x) Wb (by rw [zi];omega);rw [zk] at hval;obtain ⟨ok,hok⟩:=KZ6 (zY x);rw [←hok] at hval;have HVAL:=KZ9 hval;have HOK:=KZ9 hok;have HPO:=KZ9 hpost;have HI:=KZ9 hI;have HI2:=KZ9 i2;clear hval hok hpost hI i1 i2 i3 i4 i5
   gi_wp2
   refine ⟨trivial,?_⟩;refine (CallsIn.inRound _ (callsIn_wide.2 HVAL.out)).mono ?_;rintro e w3 ⟨rfl,hb3⟩;have hg3:=grown_of_below hb3;have HI3:=KZ9 (HI.out.turn hzy hg3 (fun r e=>by cases e));have hy4:y+4<Wb.heap.size:=(Array.getElem?_eq_some_iff.1 hr0).1;have hL3:w3.heap[y+4]? =Wb.heap[y+4]? :=hb3.block _ hy4;have hK3:Keeps (fun k=>G k∨k<w.heap.size) Wb w3:=Keeps.of_below hb3;have c3:=HI3.out.2.1.c 0 _ rfl;have f3:=HI3.out.2.1.f 0;cases ok
   ·have hbad:(zg 46 (un s)).all zY=false:=by
     rw [←HPO.out,List.all_append,List.all_append];simp [←HOK.out]
    have HBAD:=KZ9 hbad;clear hbad
    gi_wp2
    obtain ⟨j1,j2,j3,j4,j5⟩:=HI3.out;refine (show _∧_∧_ from ⟨(Below.heap_setCell _ _ _ _ (by simp;omega)).trans hL3,hK3.trans (Keeps.setCell _ _ _ ?_ _),rfl,HBAD.out,j2.set 0 (by simp) (.bool false),(Below.heap_setCell _ _ _ _ (by simp;omega)).trans j3,j4.trans (ye _ _ _ _ (Nat.le_refl _)),j5⟩);rintro (h | h)
    ·have:=(j5 _ h).1;omega
    omega
   clear c3 f3
   gi_wp2
   obtain ⟨j1,j2,j3,j4,j5⟩:=HI3.out;exact (show _∧_∧_ from ⟨hL3,hK3,by rw [List.all_append,j1];simp [←HOK.out],j2,j3,j4,j5⟩)
  case done =>
   rintro xs G W' rfl ⟨i1,i2,i3,i4,i5⟩;have c3:=i2.c 0 _ rfl;have f3:=i2.f 0;have HI1:=KZ9 i1;clear i1
   gi_wp2
   have hr:=i2.set 0 (by simp) (.bool true);refine yC [y+3] _ (fun r hr=> ?_) (by simp) (fun W' hW'=> ?_)
   ·rw [List.mem_singleton.1 hr];exact (Below.heap_setCell _ _ _ _ (by simp;omega)).trans i3
   have hr2:BlkL W' w.heap.size 4 [.bool true]:=(hW'.block _ hr.lt (by simp;omega)).trans hr;refine ⟨_,tt rfl _ _ w.heap.size (.bool true) _ rfl (hr2.c 0 _ rfl) Tryz.underlying4 rfl,?_⟩;rw [hfin.out,HI1.out];exact ⟨rfl,(i4.trans (ye _ _ _ _ (Nat.le_refl _))).trans (Keeps.below (hW'.mono fun k hk=>by simp;omega) (by have:=i4.size;simpa using this))⟩
  case stop =>
   rintro c pre G W' _ ⟨rfl,i1,i2,i3,i4,i5⟩;have HI1:=KZ9 i1;clear i1
   gi_wp2
   refine yC [y+3] _ (fun r hr=> ?_) (by simp) (fun W' hW'=> ?_)
   ·rw [List.mem_singleton.1 hr];exact i3
   have hr2:BlkL W' w.heap.size 4 [.bool false]:=(hW'.block _ i2.lt (by simp;omega)).trans i2;refine ⟨_,tt rfl _ _ w.heap.size (.bool false) _ rfl (hr2.c 0 _ rfl) Tryz.underlying4 rfl,?_⟩;rw [hfin.out,HI1.out];exact ⟨rfl,i4.trans (Keeps.below (hW'.mono fun k hk=>by simp;omega) i4.size)⟩
 have hfin:Hid (zG (un s)=false):=KZ9 (by unfold zG;rw [←HNM.out];simp)
 gi_wp2
 refine yC [] _ (by simp) List.nodup_nil (fun W' hW'=> ?_);have hr:=HR1.out.set 0 (by simp) (.bool false);have hr2:BlkL W' w.heap.size 4 [.bool false]:=(hW'.block _ hr.lt (by simp)).trans hr;refine ⟨_,tt rfl _ _ w.heap.size (.bool false) _ rfl (hr2.c 0 _ rfl) Tryz.underlying4 rfl,?_⟩;rw [hfin.out];exact ⟨rfl,(HALL1.out.trans (ye _ _ _ _ (Nat.le_refl _))).trans (Keeps.below (hW'.mono fun k _=>by simp) (by have:=HALL1.out.size;simpa using this))⟩
end Go.Proofs.YtbnnlkdhpifpeaaGreatDoor
namespace Go.Proofs.YtbnnlkdhpifpeaaGreatDoor
open Go.RowKit Hs
def zx (p:PinP):List Value:=[.string (mk p.host),.bool p.sub,.int .i64 p.expiry]
theorem tO:(Tryz.prog.info? 64).map (·.size)=some 3:=by kernel_rfl
set_option maxRecDepth 20000
set_option maxHeartbeats 4000000
theorem sZ (p:PinP) (w:World) (hB:Base w) (hn:p.host.length≤100000):Calls Tryz.prog 74 #[.agg (zx p).toArray] w fun e w'=>e= .returned (.bool (xU p))∧Below w.heap.size w w':=by
 obtain ⟨W0,hW0⟩:=KZ6 (w.alloc (.cells (zx p).toArray 64));have hbA:Below w.heap.size w W0:=by rw [hW0];exact (Below.refl _ w).alloc (Nat.le_refl _) _
 have hb0:BlkL W0 w.heap.size 64 (zx p):=by rw [hW0];exact BlkL.new w _ _
 have HW0:Hid (w.alloc (.cells (zx p).toArray 64)=W0):=KZ9 hW0.symm;have hsz:W0.heap.size=w.heap.size+1:=by rw [hW0];simp
 have hv:=wD (mk p.host) W0 (hB.below hbA) (by rw [zi];exact hn);rw [zk] at hv;have hdef:xU p=(zG p.host&&(decide (0≤p.expiry)&&decide (p.expiry≤1099511627776))):=by unfold xU;rw [Bool.decide_and]
 obtain ⟨a,ha⟩:=KZ6 (zG p.host);obtain ⟨b,hb⟩:=KZ6 (decide (0≤p.expiry));obtain ⟨c,hc⟩:=KZ6 (decide (p.expiry≤1099511627776));rw [←ha,←hb,←hc] at hdef;rw [←ha] at hv;have hb':=hb.symm;have hc':=hc.symm;have HV:=KZ9 hv;have HD:=KZ9 hdef;have HC:=KZ9 hc';have HBA:=KZ9 hbA;have c0:=hb0.c 0 _ rfl;have HB0:=KZ9 hb0;clear hW0 hbA hv hdef ha hb hc hc' hb0;go_enter Tryz.func74,Tryz.ntmps74
 go_upto_region 1 with fail
 rw [HW0.out];clear HW0;go_wp2_with fail
 refine HV.out.mono ?_;rintro e w1 ⟨rfl,hb1⟩;have HA1:=KZ9 (HBA.out.trans (hb1.mono (by omega)));have c2:=(HB0.out.below (by omega) hb1).c 2 _ rfl;clear hb1 HV c0;cases a
 ·clear HC hb';go_wp2
  all_goals try omega
  go_ret;rw [HD.out];exact ⟨rfl,HA1.out⟩
 cases b
 ·clear HC;go_wp2
  all_goals try omega
  go_ret;rw [HD.out];exact ⟨rfl,HA1.out⟩
 have hc':=HC.out;go_wp2
 all_goals try omega
 go_ret;rw [HD.out];exact ⟨by simp,HA1.out⟩
theorem TT (p:PinP) (x:Bs) (w:World) (hn:p.host.length≤100000) (hx:x.length≤100000):Calls Tryz.prog 310 #[.agg #[.string (mk p.host),.bool p.sub,.int .i64 p.expiry],.string (mk x)] w fun e w'=>e= .returned (.int .i64 (yI p.host x))∧Below w.heap.size w w':=by
 obtain ⟨W0,hW0⟩:=KZ6 (w.alloc (.cells #[.string (mk p.host),.bool p.sub,.int .i64 p.expiry] 64));have hbA:Below w.heap.size w W0:=by rw [hW0];exact (Below.refl _ w).alloc (Nat.le_refl _) _
 have hb0:BlkL W0 w.heap.size 64 (zx p):=by rw [hW0];exact BlkL.new w _ _
 have HW0:Hid (w.alloc (.cells #[.string (mk p.host),.bool p.sub,.int .i64 p.expiry] 64)=W0):=KZ9 hW0.symm;have hsz:W0.heap.size=w.heap.size+1:=by rw [hW0];simp
 have hc:=pT (mk p.host) (mk x) W0 (by rw [zi];exact hn) (by rw [zi];exact hx);rw [zk,zk] at hc;have HC:=KZ9 hc;have HBA:=KZ9 hbA;have c0:=hb0.c 0 _ rfl;clear hW0 hbA hb0 hc;go_enter Tryz.func310,Tryz.ntmps310
 go_upto_region 1 with fail
 rw [HW0.out];clear HW0;go_wp2_with fail
 refine HC.out.mono ?_;rintro e w1 ⟨rfl,hb1⟩;go_wp2;go_ret;exact ⟨rfl,HBA.out.trans (hb1.mono (by omega))⟩
theorem px (p:PinP):∀ v∈zx p,v.oneCell'=true:=by
 intro v hv;simp [zx] at hv;rcases hv with rfl | rfl | rfl<;>rfl
def Tab1 (w:World) (t g:Nat) (p:PinP):Prop:=∃ cap:Nat,1≤cap∧cap≤maxLen∧BlkL w t 201 [.slice (some ⟨g,0,none⟩) 1 cap,.int .i64 1]∧(∀ j v,(zx p)[j]? =some v→w.cell? ⟨g,j,none⟩=some v)∧g<w.heap.size∧t<w.heap.size
theorem ZB (x:Bs) (w:World):Calls Tryz.prog 285 #[.pointer none,.string (mk x)] w fun e w'=>e= .returned (.tuple #[.int .i64 0,.bool false])∧w=w':=by
 go_enter Tryz.func285,Tryz.ntmps285
 go_wp2;go_ret2;exact ⟨rfl,rfl⟩
theorem Ya:(Tryz.prog.info? 64).map (fun i=>(i.zero,i.size,i.bytes))=some (some (.agg #[.string ⟨#[]⟩,.bool false,.int .i64 0]),3,32):=by kernel_rfl
theorem Xq (p:PinP) (g:Nat) (w:World) (hg:BlkL w g 64 (zx p)):Calls Tryz.prog 92 #[.slice none 0 0,.int .i64 0,.slice (some ⟨g,0,none⟩) 1 1] w fun e w'=>∃ v,e= .returned v∧w'.ownsRow w.heap.size 64 3 v 1 (zx p)∧Below w.heap.size w w':=by
 obtain ⟨iP0,iP⟩:=info_parts Ya;have hnil:w.ownsRow w.heap.size 64 3 (.slice none 0 0) 0 []:=World.ownsRow_nil _ _ _ _;have hcell:∀ j v,(zx p)[j]? =some v→w.cell? ((⟨g,0,none⟩:Addr).add j)=some v:=fun j v hj=>by
  have hadd:(⟨g,0,none⟩:Addr).add j=⟨g,j,none⟩:=by unfold Addr.add;split<;>simp_all
  rw [hadd];exact hg.c j v hj
 go_enter Tryz.func92,Tryz.ntmps92
 go_wp2_with (at_builtin;refine wpList_append_own _ rfl (.tmp 23) (.tmp 24) 47 rfl w.heap.size 64 iP0 (.agg #[.string ⟨#[]⟩,.bool false,.int .i64 0]) 3 32 Tryz.underlying47 iP.1 iP.2.1 iP.2.2.1 iP.2.2.2 rfl (by decide) _ _ _ rfl hnil ⟨g,0,none⟩ 1 1 (zx p) rfl rfl hcell (px p) (by unfold maxLen;omega) (by omega) (by omega) ?_;intro v1 w1 hown1 hgrow1 hnil1)
 all_goals try omega
 go_ret;exact ⟨_,rfl,hown1,(Below.refl _ w).grown hgrow1 (Nat.le_refl _) (fun k hk=>by cases hk)⟩
theorem Tab1.below {w w':World} {t g b:Nat} {p:PinP} (h:Tab1 w t g p) (hb:Below b w w') (ht:t<b) (hg:g<b):Tab1 w' t g p:=by
 obtain ⟨cap,h1,h2,h3,h4,h5,h6⟩:=h;have hs:=hb.size;exact ⟨cap,h1,h2,h3.below ht hb,fun j v hj=>(hb.cell (p:=⟨g,j,none⟩) hg).trans (h4 j v hj),by omega,by omega⟩
theorem V1 (a b:Int) (w:World):Calls Tryz.prog 244 #[.int .i64 a,.int .i64 b] w fun e w'=>e= .returned (.bool (decide (a≤b)))∧w=w':=by
 go_enter Tryz.func244,Tryz.ntmps244
 go_wp2;go_ret;exact ⟨rfl,rfl⟩
def zH (e:EntP):List Value:=[.string (mk e.host),.bool e.sub]
def zw (c:CovP):List Value:=[.int .i64 (c.source:Int),.string (mk c.name),.bool c.exact]
theorem vM:(Tryz.prog.info? 134).map (·.size)=some 2:=by kernel_rfl
theorem zQ:(Tryz.prog.info? 204).map (·.size)=some 3:=by kernel_rfl
theorem pD (p:EntP):∀ v∈zH p,v.oneCell'=true:=by
 intro v hv;simp [zH] at hv;rcases hv with rfl | rfl<;>rfl
theorem wT (p:CovP):∀ v∈zw p,v.oneCell'=true:=by
 intro v hv;simp [zw] at hv;rcases hv with rfl | rfl | rfl<;>rfl
theorem Xu (x:Bs) (w:World):Calls Tryz.prog 245 #[.pointer none,.string (mk x)] w fun e w'=>e= .returned (.tuple #[.agg #[.string ⟨#[]⟩,.bool false],.bool false])∧Below w.heap.size w w':=by
 obtain ⟨W0,hW0⟩:=KZ6 (w.alloc (.cells #[.string ⟨#[]⟩,.bool false] 134));have hbA:Below w.heap.size w W0:=by rw [hW0];exact (Below.refl _ w).alloc (Nat.le_refl _) _
 have hb0:BlkL W0 w.heap.size 134 (zH ⟨[],false⟩):=by rw [hW0];exact BlkL.new w _ _
 have HW0:=KZ9 hW0.symm;have HB0:=KZ9 hb0;have HBA:=KZ9 hbA;clear hW0 hbA hb0;go_enter Tryz.func245,Tryz.ntmps245
 go_upto_region 1 with fail
 rw [HW0.out];clear HW0;go_wp2_with (refine wpList_store_row rfl 134 (.tmp 4) (.tmp 10) rfl w.heap.size (zH ⟨[],false⟩).toArray rfl rfl 134 _ HB0.out vM rfl (zh (pD _)) ?_)
 all_goals try omega
 refine bodyPost_ret (zf rfl _ _ w.heap.size 134 _ _ rfl (HB0.out.setRow (zH ⟨[],false⟩)) Tryz.underlying134 rfl vM) rfl ?_;exact ⟨rfl,below_setRow HBA.out (Nat.le_refl _) _⟩
def TabV (w:World) (v:Value) (T:List PinP):Prop:=(v= .pointer none∧T=[])∨(∃ t g p,v= .pointer (some ⟨t,0,none⟩)∧T=[p]∧p.host.length≤100000∧Tab1 w t g p)
theorem TabV.below {w w':World} {v:Value} {T:List PinP} (h:TabV w v T) (hb:Below w.heap.size w w'):TabV w' v T:=by
 rcases h with h | ⟨t,g,p,h1,h2,h3,h4⟩
 ·exact .inl h
 have h5:=h4;obtain ⟨_,_,_,_,_,hg,ht⟩:=h5;exact .inr ⟨t,g,p,h1,h2,h3,h4.below hb ht hg⟩
def kS (T:List PinP) (x:Bs):PinP × Bool:=match T.find? (fun p=>decide (p.host=x)) with
 | some p=>(p,true)
 | none=>(⟨[],false,0⟩,false)
end Go.Proofs.YtbnnlkdhpifpeaaGreatDoor
namespace Hs
open Go
theorem bM (x y:UInt8) (a b:Bs):Lib.compareBytes (x::a) (y::b)=if x.toNat<y.toNat then -1 else if y.toNat<x.toNat then 1 else Lib.compareBytes a b:=by
 simp only [Lib.compareBytes,UInt8.lt_iff_toNat_lt]
theorem Vw:∀ a b:Bs,Lib.compareBytes a b= -(Lib.compareBytes b a)
 | [],[]=>rfl
 | [],_::_=>rfl
 | _::_,[]=>rfl
 | x::a,y::b=>by
  have ih:=Vw a b;rw [bM,bM]
  repeat' split
  all_goals omega
theorem YK:∀ a b c:Bs,Lib.compareBytes a b<0→Lib.compareBytes b c<0→Lib.compareBytes a c<0
 | [],[],_,h,_=>by simp [Lib.compareBytes] at h
 | _::_,[],_,h,_=>by simp [Lib.compareBytes] at h
 | _,_::_,[],_,h=>by simp [Lib.compareBytes] at h
 | [],_::_,_::_,_,_=>by simp [Lib.compareBytes]
 | x::a,y::b,z::c,h1,h2=>by
  have ih:=YK a b c;rw [bM] at h1 h2 ⊢;by_cases c1:x.toNat<y.toNat
  ·by_cases c2:z.toNat<y.toNat
   ·rw [if_neg (by omega),if_pos c2] at h2;omega
   rw [if_pos (by omega)];omega
  rw [if_neg c1] at h1;by_cases c3:y.toNat<x.toNat
  ·rw [if_pos c3] at h1;omega
  rw [if_neg c3] at h1;have e:x.toNat=y.toNat:=by omega
  rw [e];split
  ·omega
  rename_i n1;rw [if_neg n1] at h2;split
  ·rename_i n2;rw [if_pos n2] at h2;omega
  rename_i n2;rw [if_neg n2] at h2;exact ih h1 h2
def UC (a:Bs):List Bs:=(zg 46 a).reverse
def qI:List Bs→List Bs→Int
 | [],[]=>0
 | [],_::_=> -1
 | _::_,[]=>1
 | x::r,y::s=>if Lib.compareBytes x y≠0 then Lib.compareBytes x y else qI r s
theorem dG:∀ a b:List Bs,qI a b= -(qI b a)
 | [],[]=>rfl
 | [],_::_=>rfl
 | _::_,[]=>rfl
 | x::a,y::b=>by
  have ih:=dG a b;have h:=Vw x y;simp only [qI]
  repeat' split
  all_goals omega
theorem kL:∀ a b c:List Bs,qI a b<0→qI b c<0→qI a c<0
 | [],[],_,h,_=>by simp [qI] at h
 | _::_,[],_,h,_=>by simp [qI] at h
 | _,_::_,[],_,h=>by simp [qI] at h
 | [],_::_,_::_,_,_=>by simp [qI]
 | x::a,y::b,z::c,h1,h2=>by
  have ih:=kL a b c;simp only [qI] at h1 h2 ⊢;have hz1:=yr x y;have hz2:=yr y z;have ht:=YK x y z;by_cases e1:Lib.compareBytes x y=0
  ·obtain rfl:=hz1.1 e1;rw [if_neg (by simp [e1])] at h1;by_cases e2:Lib.compareBytes x z=0
   ·rw [if_neg (by simp [e2])] at h2;rw [if_neg (by simp [e2])];exact ih h1 h2
   rw [if_pos e2] at h2 ⊢;exact h2
  rw [if_pos e1] at h1;by_cases e2:Lib.compareBytes y z=0
  ·obtain rfl:=hz2.1 e2;rw [if_pos e1];exact h1
  rw [if_pos e2] at h2;have:=ht h1 h2;rw [if_pos (by omega)];exact this
theorem dH (c:UInt8) (v:Bs):∀ u:Bs,zl c (u++v)=if 0≤zl c v then zl c v+u.length else zl c u
 | []=>by
  have:=zI c v;rw [List.nil_append];split
  ·simp
  show zl c v= -1;omega
 | b::u=>by
  have ih:=dH c v u;have h1:=zI c v;have h2:=zI c u;rw [List.cons_append,zl,ih,zl];simp only [List.length_cons]
  repeat' split
  all_goals omega
theorem Rl (a:Bs):∀ x∈yh a,x≠46:=by
 rw [←pz 46 (yh a)];rcases qD a with ⟨h,e⟩ | ⟨h,e⟩
 ·rw [←e];exact h
 have hl:(xQ a).length=(zl 46 a).toNat:=by
  have:=(zI 46 a).2;unfold xQ;rw [List.length_take];omega
 have h1:=dH 46 (46::yh a) (xQ a);rw [←e] at h1;by_cases h2:zl 46 (yh a)<0
 ·exact h2
 exfalso;have h3:zl 46 (46::yh a)=zl 46 (yh a)+1:=by rw [zl,if_pos (by omega)]
 rw [h3,if_pos (by omega)] at h1;omega
theorem re (a:Bs):UC a=yh a::(if zl 46 a<0 then [] else UC (xQ a)):=by
 have hn:=uq 46 (yh a) (Rl a);rcases qD a with ⟨h,e⟩ | ⟨h,e⟩
 ·rw [if_pos h];unfold UC
  conv=>lhs;rw [e,hn]
  rfl
 rw [if_neg (by omega)];unfold UC
 conv=>lhs;rw [e,pO,hn,List.reverse_append]
 rfl
theorem qz:∀ (n:Nat) (a b:Bs),a.length≤n→yI a b=qI (UC a) (UC b)
 | n,a,b,hn=>by
  rw [vR,re a,re b];simp only [qI];have b1:=zI 46 a;have b2:=zI 46 b;by_cases h0:Lib.compareBytes (yh a) (yh b)=0
  ·have hne:¬ (Lib.compareBytes (yh a) (yh b)≠0):=fun e=>e h0;simp only [if_neg hne];by_cases ha:zl 46 a<0
   ·rw [if_pos (show zl 46 a<0∨zl 46 b<0 from .inl ha),if_pos ha];by_cases hb:zl 46 b<0
    ·rw [if_pos hb,if_neg (show ¬ min (zl 46 a) 0<min (zl 46 b) 0 by omega),if_neg (show ¬ min (zl 46 b) 0<min (zl 46 a) 0 by omega)];rfl
    rw [if_neg hb,if_pos (show min (zl 46 a) 0<min (zl 46 b) 0 by omega),re (xQ b)];rfl
   rw [if_neg ha];by_cases hb:zl 46 b<0
   ·rw [if_pos (show zl 46 a<0∨zl 46 b<0 from .inr hb),if_pos hb,if_neg (show ¬ min (zl 46 a) 0<min (zl 46 b) 0 by omega),if_pos (show min (zl 46 b) 0<min (zl 46 a) 0 by omega),re (xQ a)];rfl
   rw [if_neg (show ¬ (zl 46 a<0∨zl 46 b<0) by omega),if_neg hb];have hl:=vS a (by omega)
   match n,hn with
   | 0,hn=>omega
   | n+1,hn=>exact qz n (xQ a) (xQ b) (by omega)
  simp only [if_pos h0,ne_eq,h0,not_false_eq_true,if_true]
theorem Ui (a b:Bs):yI a b= -(yI b a):=by
 rw [qz _ a b (Nat.le_refl _),qz _ b a (Nat.le_refl _)];exact dG _ _
theorem rN {a b c:Bs} (h1:yI a b<0) (h2:yI b c<0):yI a c<0:=by
 rw [qz _ _ _ (Nat.le_refl _)] at h1 h2 ⊢;exact kL _ _ _ h1 h2
def SortH (H:List Bs):Prop:=H.Pairwise (fun a b=>yI a b<0)
theorem SortH.lt {H:List Bs} (hs:SortH H) {i j:Nat} (hi:i<H.length) (hj:j<H.length) (h:i<j):yI H[i] H[j]<0:=List.pairwise_iff_getElem.1 hs i j hi hj h
theorem gQ {H:List Bs} (hs:SortH H) {x:Bs} {t m:Nat} (h:t≤m) (hm:m<H.length) (ht:t<H.length) (hx:yI H[m] x<0):yI H[t] x<0:=by
 by_cases e:t=m
 ·subst e;exact hx
 exact rN (hs.lt ht hm (by omega)) hx
theorem jO {H:List Bs} (hs:SortH H) {x:Bs} {t m:Nat} (h:m≤t) (hm:m<H.length) (ht:t<H.length) (hx:¬ yI H[m] x<0):¬ yI H[t] x<0:=by
 by_cases e:t=m
 ·subst e;exact hx
 exact fun hc=>hx (rN (hs.lt hm ht (by omega)) hc)
theorem Ze {H:List Bs} (hs:SortH H) {x:Bs} {i:Nat} (hl:∀ t (h:t<H.length),t<i→yI H[t] x<0) (hr:∀ t (h:t<H.length),i≤t→¬ yI H[t] x<0):x∈H↔∃ h:i<H.length,H[i]=x:=by
 constructor
 ·intro hx;obtain ⟨t,ht,rfl⟩:=List.getElem_of_mem hx;have h0:yI H[t] H[t]=0:=(js _ _).2 rfl;have h1:¬ t<i:=fun h=>by have:=hl t ht h;omega
  by_cases e:t=i
  ·subst e;exact ⟨ht,rfl⟩
  exact absurd (hs.lt (by omega) ht (by omega:i<t)) (hr i (by omega) (Nat.le_refl _))
 rintro ⟨h,rfl⟩;exact List.getElem_mem h
theorem SortH.inj {H:List Bs} (hs:SortH H) {i j:Nat} (hi:i<H.length) (hj:j<H.length) (h:H[i]=H[j]):i=j:=by
 have h0:yI H[i] H[j]=0:=(js _ _).2 h;rcases Nat.lt_trichotomy i j with e | e | e
 ·have:=hs.lt hi hj e;omega
 ·exact e
 have:=hs.lt hj hi e;rw [Ui] at this;omega
theorem Vm {α:Type} {T:List α} (f:α→Bs) (hs:SortH (T.map f)) {i:Nat} (hi:i<T.length):T.find? (fun p=>decide (f p=f T[i]))=some T[i]:=by
 rw [List.find?_eq_some_iff_getElem];refine ⟨by simp,i,hi,rfl,fun j hj=> ?_⟩;simp only [Bool.not_eq_true',decide_eq_false_iff_not];intro e;have:=hs.inj (i:=j) (j:=i) (by rw [List.length_map];omega) (by rw [List.length_map];exact hi) (by simpa using e);omega
theorem Vl {α:Type} {T:List α} (f:α→Bs) {x:Bs} (h:x∉T.map f):T.find? (fun p=>decide (f p=x))=none:=by
 rw [List.find?_eq_none];intro p hp;simp only [decide_eq_true_eq];intro e;exact h (List.mem_map.2 ⟨p,hp,e⟩)
end Hs
namespace Go.Proofs.YtbnnlkdhpifpeaaGreatDoor
open Go.RowKit Hs
def pcs (l:List PinP):List Value:=l.flatMap zx
theorem WN:∀ (l:List PinP) (k:Nat) (h:k<l.length),(pcs l)[k*3]? =some (.string (mk l[k].host))∧(pcs l)[k*3+1]? =some (.bool l[k].sub)∧(pcs l)[k*3+2]? =some (.int .i64 l[k].expiry)
 | [],k,h=>by simp at h
 | d::l,0,h=>by simp [pcs,zx]
 | d::l,k+1,h=>by
  have:=WN l k (by simpa using h);have e:pcs (d::l)= .string (mk d.host):: .bool d.sub:: .int .i64 d.expiry::pcs l:=by simp [pcs,zx]
  rw [e];have e1:(k+1)*3=k*3+3:=by omega
  rw [e1]
  simpa using this
def ecs (l:List EntP):List Value:=l.flatMap zH
theorem Vo:∀ (l:List EntP) (k:Nat) (h:k<l.length),(ecs l)[k*2]? =some (.string (mk l[k].host))∧(ecs l)[k*2+1]? =some (.bool l[k].sub)
 | [],k,h=>by simp at h
 | d::l,0,h=>by simp [ecs,zH]
 | d::l,k+1,h=>by
  have:=Vo l k (by simpa using h);have e:ecs (d::l)= .string (mk d.host):: .bool d.sub::ecs l:=by simp [ecs,zH]
  rw [e];have e1:(k+1)*2=k*2+2:=by omega
  rw [e1]
  simpa using this
def Pins (w:World) (v:Value) (l:List PinP):Prop:=Row w v 3 l.length (pcs l)
theorem Pins.below {w w':World} {v:Value} {l:List PinP} (h:Pins w v l) (hb:Below w.heap.size w w'):Pins w' v l:=Row.below h hb
theorem Pins.open {w:World} {v:Value} {l:List PinP} (h:Pins w v l):∃ a cap,v= .slice a l.length cap∧l.length≤cap∧cap≤maxLen ∧
  ∀ (hn:0<l.length),∃ b off,a=some ⟨b,off,none⟩∧b<w.heap.size∧∀ j (hj:j<l.length),w.cell? ⟨b,off+j*3,none⟩=some (.string (mk l[j].host))∧w.cell? ⟨b,off+j*3+1,none⟩=some (.bool l[j].sub)∧w.cell? ⟨b,off+j*3+2,none⟩=some (.int .i64 l[j].expiry):=by
 obtain ⟨hl,a,cap,rfl,hn,hm,h⟩:=h;refine ⟨a,cap,rfl,hn,hm,fun h0=> ?_⟩;rcases h with h | ⟨b,off,ha,hlt,hc⟩
 ·omega
 refine ⟨b,off,ha,hlt,fun j hj=> ?_⟩;obtain ⟨g0,g1,g2⟩:=WN l j hj;exact ⟨hc _ _ g0,by have:=hc _ _ g1;rwa [←Nat.add_assoc] at this,by have:=hc _ _ g2;rwa [←Nat.add_assoc] at this⟩
def Ents (w:World) (v:Value) (l:List EntP):Prop:=Row w v 2 l.length (ecs l)
theorem Ents.below {w w':World} {v:Value} {l:List EntP} (h:Ents w v l) (hb:Below w.heap.size w w'):Ents w' v l:=Row.below h hb
theorem Ents.open {w:World} {v:Value} {l:List EntP} (h:Ents w v l):∃ a cap,v= .slice a l.length cap∧l.length≤cap∧cap≤maxLen ∧
  ∀ (hn:0<l.length),∃ b off,a=some ⟨b,off,none⟩∧b<w.heap.size∧∀ j (hj:j<l.length),w.cell? ⟨b,off+j*2,none⟩=some (.string (mk l[j].host))∧w.cell? ⟨b,off+j*2+1,none⟩=some (.bool l[j].sub):=by
 obtain ⟨hl,a,cap,rfl,hn,hm,h⟩:=h;refine ⟨a,cap,rfl,hn,hm,fun h0=> ?_⟩;rcases h with h | ⟨b,off,ha,hlt,hc⟩
 ·omega
 refine ⟨b,off,ha,hlt,fun j hj=> ?_⟩;obtain ⟨g0,g1⟩:=Vo l j hj;exact ⟨hc _ _ g0,by have:=hc _ _ g1;rwa [←Nat.add_assoc] at this⟩
def Frs (w:World) (v:Value) (l:List (Bs × List Bs)):Prop:=∃ a cap,v= .slice a l.length cap∧l.length≤cap∧cap≤maxLen ∧
  ∀ (hn:0<l.length),∃ b off,a=some ⟨b,off,none⟩∧b<w.heap.size∧∀ j (hj:j<l.length),w.cell? ⟨b,off+j*2,none⟩=some (.string (mk l[j].1))∧∃ cv,w.cell? ⟨b,off+j*2+1,none⟩=some cv∧Strs w cv l[j].2
theorem Frs.below {w w':World} {v:Value} {l:List (Bs × List Bs)} (h:Frs w v l) (hb:Below w.heap.size w w'):Frs w' v l:=by
 obtain ⟨a,cap,rfl,hn,hm,h⟩:=h;refine ⟨a,cap,rfl,hn,hm,fun h0=> ?_⟩;obtain ⟨b,off,ha,hlt,hc⟩:=h h0;refine ⟨b,off,ha,by have:=hb.size;omega,fun j hj=> ?_⟩;obtain ⟨c0,cv,c1,hs⟩:=hc j hj;exact ⟨((wj hb).1 b _ hlt).trans c0,cv,((wj hb).1 b _ hlt).trans c1,hs.below hb⟩
def bO (H:List Bs) (x:Bs) (w:World) (e:Ending) (w':World):Prop:=(∃ i:Nat,e= .returned (.tuple #[.int .i64 (i:Int),.bool (decide (x∈H))])∧i≤H.length∧(x∈H→∃ h:i<H.length,H[i]=x))∧Below w.heap.size w w'
set_option maxRecDepth 20000
set_option maxHeartbeats 8000000
theorem Ud (T:List PinP) (a:Option Addr) (cap:Nat) (x:Bs) (w:World) (hT:Pins w (.slice a T.length cap) T) (hS:SortH (T.map (·.host))) (hn:∀ p∈T,p.host.length≤100000) (hx:x.length≤100000) (hl:T.length≤1000000):Calls Tryz.prog 89 #[.slice a T.length cap,.string (mk x),.func (.func 310) #[] #[]] w (bO (T.map (·.host)) x w):=by
 obtain ⟨a',cap',hv,h1,h2,hc⟩:=hT.open;obtain ⟨rfl,rfl⟩:a=a'∧cap=cap':=by injection hv with e1 _ e2;exact ⟨e1,e2⟩
 clear hv;unfold maxLen at h2;have HC:=KZ9 hc;have HS:=KZ9 hS;have HN:=KZ9 hn;obtain ⟨n,hnn⟩:=KZ6 T.length;have HL:=KZ9 hnn;rw [←hnn] at h1 hl ⊢;clear hnn hc hS hn hT;go_enter Tryz.func89,Tryz.ntmps89
 go_wp2;go_loopw [9,10] (fun iv jv wr=>∃ lo hi:Nat,iv= .int .i64 lo∧jv= .int .i64 hi∧lo≤hi∧hi≤n∧Hid ((∀ t (h:t<T.length),t<lo→yI T[t].host x<0)∧(∀ t (h:t<T.length),hi≤t→0≤yI T[t].host x))∧Hid (Below w.heap.size w wr)) (fun iv jv _=>(intOf jv).toNat - (intOf iv).toNat)
 case atStart=>exact ⟨0,n,rfl,rfl,by omega,by omega,KZ9 ⟨fun t h h0=>by omega,fun t h h0=>by have:=HL.out;omega⟩,KZ9 (Below.refl _ _)⟩
 case round =>
  obtain ⟨lo,hi,rfl,rfl,hlh,hin,hI,hnx⟩:=hrel;by_cases hlt:lo<hi
  ·obtain ⟨m,hm⟩:=KZ6 ((lo+hi) / 2);have hmn:m<T.length:=by have:=HL.out;omega
   obtain ⟨b,off,rfl,hb,hcc⟩:=HC.out (by omega);obtain ⟨k0,k1,k2⟩:=hcc m hmn;have c0:=(hnx.out.cell (p:=⟨b,off+m*3,none⟩) hb).trans k0;have c1:=(hnx.out.cell (p:=⟨b,off+m*3+1,none⟩) hb).trans k1;have c2:=(hnx.out.cell (p:=⟨b,off+m*3+2,none⟩) hb).trans k2;clear k0 k1 k2;clear hcc;obtain ⟨p,hp⟩:=KZ6 (T[m]);have hpl:p.host.length≤100000:=HN.out p (by rw [hp];exact List.getElem_mem hmn);rw [←hp] at c0 c1 c2;have hcm:=fun W=>TT p x W hpl hx;have hmv:(lo:Int)+(hi:Int)=((lo+hi:Nat):Int):=by omega
   obtain ⟨c,hcd⟩:=KZ6 (yI p.host x);simp only [←hcd] at hcm;have HCM:=KZ9 hcm;have HP:=KZ9 hp;have HCD:=KZ9 hcd;have hm1:lo≤m:=by omega
   have hm2:m<hi:=by omega
   have hm3:((lo:Int)+(hi:Int)) / 2=(m:Int):=by omega
   clear hcm hp hcd hpl hmv;by_cases hneg:c<0
   ·have g1:decide (c<(0:Int))=true:=KZ7 hneg;have hI2:Hid ((∀ t (h:t<T.length),t<m+1→yI T[t].host x<0)∧(∀ t (h:t<T.length),hi≤t→0≤yI T[t].host x)):=KZ9 ⟨fun t h h0=>by
     have:=gQ HS.out (x:=x) (t:=t) (m:=m) (by omega) (by rw [List.length_map];exact hmn) (by rw [List.length_map];exact h) (by rw [List.getElem_map,←HP.out,←HCD.out];exact hneg)
     simpa using this,hI.out.2⟩
    clear hneg hI hm;go_wp2_with fail
    all_goals try omega
    refine (HCM.out _).mono ?_;rintro e w1 ⟨rfl,hb1⟩;have hnx1:=KZ9 (hnx.out.trans (hb1.mono hnx.out.size));clear hb1 c0 c1 c2;go_wp2
    all_goals try omega
    go_roundw
    case rel=>exact ⟨m+1,hi,by go_num,rfl,by omega,hin,hI2,hnx1⟩
    case measure=>simp [intOf];omega
   have g1:decide (c<(0:Int))=false:=KZ8 hneg;have hI2:Hid ((∀ t (h:t<T.length),t<lo→yI T[t].host x<0)∧(∀ t (h:t<T.length),m≤t→0≤yI T[t].host x)):=KZ9 ⟨hI.out.1,fun t h h0=>by
    have:=jO HS.out (x:=x) (t:=t) (m:=m) (by omega) (by rw [List.length_map];exact hmn) (by rw [List.length_map];exact h) (by rw [List.getElem_map,←HP.out,←HCD.out];exact hneg);rw [List.getElem_map] at this;omega⟩
   clear hneg hI hm;go_wp2_with fail
   all_goals try omega
   refine (HCM.out _).mono ?_;rintro e w1 ⟨rfl,hb1⟩;have hnx1:=KZ9 (hnx.out.trans (hb1.mono hnx.out.size));clear hb1 c0 c1 c2;go_wp2
   all_goals try omega
   go_roundw
   case rel=>exact ⟨lo,m,rfl,by go_num,by omega,by omega,hI2,hnx1⟩
   case measure=>simp [intOf];omega
  obtain rfl:hi=lo:=by omega
  have hend:=Ze HS.out (x:=x) (i:=hi) (fun t h h0=>by have:=hI.out.1 t (by simpa using h) h0;simpa using this) (fun t h h0=>by have:=hI.out.2 t (by simpa using h) h0;rw [List.getElem_map];omega);clear hI hlh;by_cases hlast:hi<n
  ·have hmn:hi<T.length:=by have:=HL.out;omega
   obtain ⟨b,off,rfl,hb,hcc⟩:=HC.out (by omega);obtain ⟨k0,k1,k2⟩:=hcc hi hmn;have c0:=(hnx.out.cell (p:=⟨b,off+hi*3,none⟩) hb).trans k0;have c1:=(hnx.out.cell (p:=⟨b,off+hi*3+1,none⟩) hb).trans k1;have c2:=(hnx.out.cell (p:=⟨b,off+hi*3+2,none⟩) hb).trans k2;clear k0 k1 k2;clear hcc;obtain ⟨p,hp⟩:=KZ6 (T[hi]);have hpl:p.host.length≤100000:=HN.out p (by rw [hp];exact List.getElem_mem hmn);rw [←hp] at c0 c1 c2;have hcm:=fun W=>TT p x W hpl hx;have hz:=js p.host x;obtain ⟨c,hcd⟩:=KZ6 (yI p.host x);simp only [←hcd] at hcm;rw [←hcd] at hz;have hq:(c==0)=decide (x∈T.map (·.host)):=by
    have h3:c=0↔x∈T.map (·.host):=by
     rw [hz,hend];constructor
     ·intro e;exact ⟨by rw [List.length_map];exact hmn,by rw [List.getElem_map,←hp];exact e⟩
     rintro ⟨_,e⟩;rw [List.getElem_map,←hp] at e;exact e
    rw [Bool.eq_iff_iff];simp only [beq_iff_eq,decide_eq_true_eq];exact h3
   obtain ⟨d,hd⟩:=KZ6 (decide (x∈T.map (·.host)));rw [←hd] at hq;have HD:=KZ9 hd;have HE:=KZ9 hend;have HCM:=KZ9 hcm;clear hcm hp hcd hpl hz hd hend;go_wp2_with fail
   all_goals try omega
   refine (HCM.out _).mono ?_;rintro e w1 ⟨rfl,hb1⟩;have hnx1:=KZ9 (hnx.out.trans (hb1.mono hnx.out.size));clear hb1 c0 c1 c2;go_wp2
   all_goals try omega
   go_ret2;refine ⟨⟨hi,by first | rfl | (rw [HD.out];rfl),by rw [List.length_map,←HL.out];omega,fun e=>HE.out.1 e⟩,hnx1.out⟩
  have hno:x∉T.map (·.host):=by
   rw [hend];rintro ⟨h,_⟩;rw [List.length_map] at h;have:=HL.out;omega
  have HNO:=KZ9 hno;clear hno hend;go_wp2
  all_goals try omega
  go_ret2;refine ⟨⟨hi,by rw [KZ8 HNO.out];rfl,by rw [List.length_map,←HL.out];omega,fun e=>absurd e HNO.out⟩,hnx.out⟩
theorem TU (p:EntP) (x:Bs) (w:World) (hn:p.host.length≤100000) (hx:x.length≤100000):Calls Tryz.prog 287 #[.agg #[.string (mk p.host),.bool p.sub],.string (mk x)] w fun e w'=>e= .returned (.int .i64 (yI p.host x))∧Below w.heap.size w w':=by
 obtain ⟨W0,hW0⟩:=KZ6 (w.alloc (.cells #[.string (mk p.host),.bool p.sub] 134));have hbA:Below w.heap.size w W0:=by rw [hW0];exact (Below.refl _ w).alloc (Nat.le_refl _) _
 have hb0:BlkL W0 w.heap.size 134 [.string (mk p.host),.bool p.sub]:=by rw [hW0];exact BlkL.new w _ _
 have hsz:W0.heap.size=w.heap.size+1:=by rw [hW0];simp
 have HW0:=KZ9 hW0.symm;have hc:=pT (mk p.host) (mk x) W0 (by rw [zi];exact hn) (by rw [zi];exact hx);rw [zk,zk] at hc;have HC:=KZ9 hc;have c0:=hb0.c 0 _ rfl;have HBA:=KZ9 hbA;clear hW0 hc hb0 hbA;go_enter Tryz.func287,Tryz.ntmps287
 go_upto_region 1 with fail
 rw [HW0.out];clear HW0;go_wp2_with fail
 refine HC.out.mono ?_;rintro e w1 ⟨rfl,hb1⟩;go_wp2;go_ret;exact ⟨rfl,HBA.out.trans (hb1.mono (by omega))⟩
theorem Uf (T:List EntP) (a:Option Addr) (cap:Nat) (x:Bs) (w:World) (hT:Ents w (.slice a T.length cap) T) (hS:SortH (T.map (·.host))) (hn:∀ p∈T,p.host.length≤100000) (hx:x.length≤100000) (hl:T.length≤1000000):Calls Tryz.prog 286 #[.slice a T.length cap,.string (mk x),.func (.func 287) #[] #[]] w (bO (T.map (·.host)) x w):=by
 obtain ⟨a',cap',hv,h1,h2,hc⟩:=hT.open;obtain ⟨rfl,rfl⟩:a=a'∧cap=cap':=by injection hv with e1 _ e2;exact ⟨e1,e2⟩
 clear hv;unfold maxLen at h2;have HC:=KZ9 hc;have HS:=KZ9 hS;have HN:=KZ9 hn;obtain ⟨n,hnn⟩:=KZ6 T.length;have HL:=KZ9 hnn;rw [←hnn] at h1 hl ⊢;clear hnn hc hS hn hT;go_enter Tryz.func286,Tryz.ntmps286
 go_wp2;go_loopw [9,10] (fun iv jv wr=>∃ lo hi:Nat,iv= .int .i64 lo∧jv= .int .i64 hi∧lo≤hi∧hi≤n∧Hid ((∀ t (h:t<T.length),t<lo→yI T[t].host x<0)∧(∀ t (h:t<T.length),hi≤t→0≤yI T[t].host x))∧Hid (Below w.heap.size w wr)) (fun iv jv _=>(intOf jv).toNat - (intOf iv).toNat)
 case atStart=>exact ⟨0,n,rfl,rfl,by omega,by omega,KZ9 ⟨fun t h h0=>by omega,fun t h h0=>by have:=HL.out;omega⟩,KZ9 (Below.refl _ _)⟩
 case round =>
  obtain ⟨lo,hi,rfl,rfl,hlh,hin,hI,hnx⟩:=hrel;by_cases hlt:lo<hi
  ·obtain ⟨m,hm⟩:=KZ6 ((lo+hi) / 2);have hmn:m<T.length:=by have:=HL.out;omega
   obtain ⟨b,off,rfl,hb,hcc⟩:=HC.out (by omega);obtain ⟨k0,k1⟩:=hcc m hmn;have c0:=(hnx.out.cell (p:=⟨b,off+m*2,none⟩) hb).trans k0;have c1:=(hnx.out.cell (p:=⟨b,off+m*2+1,none⟩) hb).trans k1;clear k0 k1;clear hcc;obtain ⟨p,hp⟩:=KZ6 (T[m]);have hpl:p.host.length≤100000:=HN.out p (by rw [hp];exact List.getElem_mem hmn);rw [←hp] at c0 c1;have hcm:=fun W=>TU p x W hpl hx;have hmv:(lo:Int)+(hi:Int)=((lo+hi:Nat):Int):=by omega
   obtain ⟨c,hcd⟩:=KZ6 (yI p.host x);simp only [←hcd] at hcm;have HCM:=KZ9 hcm;have HP:=KZ9 hp;have HCD:=KZ9 hcd;have hm1:lo≤m:=by omega
   have hm2:m<hi:=by omega
   have hm3:((lo:Int)+(hi:Int)) / 2=(m:Int):=by omega
   clear hcm hp hcd hpl hmv;by_cases hneg:c<0
   ·have g1:decide (c<(0:Int))=true:=KZ7 hneg;have hI2:Hid ((∀ t (h:t<T.length),t<m+1→yI T[t].host x<0)∧(∀ t (h:t<T.length),hi≤t→0≤yI T[t].host x)):=KZ9 ⟨fun t h h0=>by
     have:=gQ HS.out (x:=x) (t:=t) (m:=m) (by omega) (by rw [List.length_map];exact hmn) (by rw [List.length_map];exact h) (by rw [List.getElem_map,←HP.out,←HCD.out];exact hneg)
     simpa using this,hI.out.2⟩
    clear hneg hI hm;go_wp2_with fail
    all_goals try omega
    refine (HCM.out _).mono ?_;rintro e w1 ⟨rfl,hb1⟩;have hnx1:=KZ9 (hnx.out.trans (hb1.mono hnx.out.size));clear hb1 c0 c1;go_wp2
    all_goals try omega
    go_roundw
    case rel=>exact ⟨m+1,hi,by go_num,rfl,by omega,hin,hI2,hnx1⟩
    case measure=>simp [intOf];omega
   have g1:decide (c<(0:Int))=false:=KZ8 hneg;have hI2:Hid ((∀ t (h:t<T.length),t<lo→yI T[t].host x<0)∧(∀ t (h:t<T.length),m≤t→0≤yI T[t].host x)):=KZ9 ⟨hI.out.1,fun t h h0=>by
    have:=jO HS.out (x:=x) (t:=t) (m:=m) (by omega) (by rw [List.length_map];exact hmn) (by rw [List.length_map];exact h) (by rw [List.getElem_map,←HP.out,←HCD.out];exact hneg);rw [List.getElem_map] at this;omega⟩
   clear hneg hI hm;go_wp2_with fail
   all_goals try omega
   refine (HCM.out _).mono ?_;rintro e w1 ⟨rfl,hb1⟩;have hnx1:=KZ9 (hnx.out.trans (hb1.mono hnx.out.size));clear hb1 c0 c1;go_wp2
   all_goals try omega
   go_roundw
   case rel=>exact ⟨lo,m,rfl,by go_num,by omega,by omega,hI2,hnx1⟩
   case measure=>simp [intOf];omega
  obtain rfl:hi=lo:=by omega
  have hend:=Ze HS.out (x:=x) (i:=hi) (fun t h h0=>by have:=hI.out.1 t (by simpa using h) h0;simpa using this) (fun t h h0=>by have:=hI.out.2 t (by simpa using h) h0;rw [List.getElem_map];omega);clear hI hlh;by_cases hlast:hi<n
  ·have hmn:hi<T.length:=by have:=HL.out;omega
   obtain ⟨b,off,rfl,hb,hcc⟩:=HC.out (by omega);obtain ⟨k0,k1⟩:=hcc hi hmn;have c0:=(hnx.out.cell (p:=⟨b,off+hi*2,none⟩) hb).trans k0;have c1:=(hnx.out.cell (p:=⟨b,off+hi*2+1,none⟩) hb).trans k1;clear k0 k1;clear hcc;obtain ⟨p,hp⟩:=KZ6 (T[hi]);have hpl:p.host.length≤100000:=HN.out p (by rw [hp];exact List.getElem_mem hmn);rw [←hp] at c0 c1;have hcm:=fun W=>TU p x W hpl hx;have hz:=js p.host x;obtain ⟨c,hcd⟩:=KZ6 (yI p.host x);simp only [←hcd] at hcm;rw [←hcd] at hz;have hq:(c==0)=decide (x∈T.map (·.host)):=by
    have h3:c=0↔x∈T.map (·.host):=by
     rw [hz,hend];constructor
     ·intro e;exact ⟨by rw [List.length_map];exact hmn,by rw [List.getElem_map,←hp];exact e⟩
     rintro ⟨_,e⟩;rw [List.getElem_map,←hp] at e;exact e
    rw [Bool.eq_iff_iff];simp only [beq_iff_eq,decide_eq_true_eq];exact h3
   obtain ⟨d,hd⟩:=KZ6 (decide (x∈T.map (·.host)));rw [←hd] at hq;have HD:=KZ9 hd;have HE:=KZ9 hend;have HCM:=KZ9 hcm;clear hcm hp hcd hpl hz hd hend;go_wp2_with fail
   all_goals try omega
   refine (HCM.out _).mono ?_;rintro e w1 ⟨rfl,hb1⟩;have hnx1:=KZ9 (hnx.out.trans (hb1.mono hnx.out.size));clear hb1 c0 c1;go_wp2
   all_goals try omega
   go_ret2;refine ⟨⟨hi,by first | rfl | (rw [HD.out];rfl),by rw [List.length_map,←HL.out];omega,fun e=>HE.out.1 e⟩,hnx1.out⟩
  have hno:x∉T.map (·.host):=by
   rw [hend];rintro ⟨h,_⟩;rw [List.length_map] at h;have:=HL.out;omega
  have HNO:=KZ9 hno;clear hno hend;go_wp2
  all_goals try omega
  go_ret2;refine ⟨⟨hi,by rw [KZ8 HNO.out];rfl,by rw [List.length_map,←HL.out];omega,fun e=>absurd e HNO.out⟩,hnx.out⟩
def TabG (w:World) (v:Value) (T:List PinP):Prop:=(v= .pointer none∧T=[])∨(∃ (t:Nat) (a:Option Addr) (cap:Nat) (k:Int),v= .pointer (some ⟨t,0,none⟩)∧BlkL w t 201 [.slice a T.length cap,.int .i64 k]∧Pins w (.slice a T.length cap) T∧SortH (T.map (·.host))∧(∀ p∈T,p.host.length≤100000)∧T.length≤1000)
theorem TabG.below {w w':World} {v:Value} {T:List PinP} (h:TabG w v T) (hb:Below w.heap.size w w'):TabG w' v T:=by
 rcases h with h | ⟨t,a,cap,k,h1,h2,h3,h4,h5,h6⟩
 ·exact .inl h
 exact .inr ⟨t,a,cap,k,h1,h2.below h2.lt hb,h3.below hb,h4,h5,h6⟩
def LisG (w:World) (v:Value) (L:List EntP):Prop:=(v= .pointer none∧L=[])∨(∃ (t:Nat) (a:Option Addr) (cap:Nat),v= .pointer (some ⟨t,0,none⟩)∧BlkL w t 141 [.slice a L.length cap]∧Ents w (.slice a L.length cap) L∧SortH (L.map (·.host))∧(∀ p∈L,p.host.length≤100000)∧L.length≤1000)
theorem LisG.below {w w':World} {v:Value} {L:List EntP} (h:LisG w v L) (hb:Below w.heap.size w w'):LisG w' v L:=by
 rcases h with h | ⟨t,a,cap,h1,h2,h3,h4,h5,h6⟩
 ·exact .inl h
 exact .inr ⟨t,a,cap,h1,h2.below h2.lt hb,h3.below hb,h4,h5,h6⟩
def jm (L:List EntP) (x:Bs):EntP × Bool:=match L.find? (fun p=>decide (p.host=x)) with
 | some p=>(p,true)
 | none=>(⟨[],false⟩,false)
theorem Qb {T:List PinP} {x:Bs} (h:x∉T.map (·.host)):kS T x=(⟨[],false,0⟩,false):=by
 have e:=Vl (fun p:PinP=>p.host) h;unfold kS;rw [e]
theorem Qc {T:List PinP} (hs:SortH (T.map (·.host))) {i:Nat} (hi:i<T.length) {x:Bs} (hx:T[i].host=x):kS T x=(T[i],true):=by
 subst hx;have e:=Vm (fun p:PinP=>p.host) hs hi;unfold kS;rw [e]
theorem Qd {T:List EntP} {x:Bs} (h:x∉T.map (·.host)):jm T x=(⟨[],false⟩,false):=by
 have e:=Vl (fun p:EntP=>p.host) h;unfold jm;rw [e]
theorem Qe {T:List EntP} (hs:SortH (T.map (·.host))) {i:Nat} (hi:i<T.length) {x:Bs} (hx:T[i].host=x):jm T x=(T[i],true):=by
 subst hx;have e:=Vm (fun p:EntP=>p.host) hs hi;unfold jm;rw [e]
theorem TS (v:Value) (T:List PinP) (x:Bs) (w:World) (ht:TabG w v T) (hx:x.length≤100000):Calls Tryz.prog 285 #[v,.string (mk x)] w (bO (T.map (·.host)) x w):=by
 rcases ht with ⟨rfl,rfl⟩ | ⟨t,a,cap,k,rfl,h2,h3,h4,h5,h6⟩
 ·refine (ZB x w).mono ?_;rintro e w' ⟨rfl,rfl⟩;exact ⟨⟨0,by simp,by simp,fun h=>by simp at h⟩,Below.refl _ _⟩
 have c0:=h2.c 0 _ rfl;have HS:=KZ9 (Ud T a cap x w h3 h4 h5 hx (by omega));obtain ⟨H,hH⟩:=KZ6 (T.map (·.host));rw [←hH] at HS ⊢;obtain ⟨n,hn⟩:=KZ6 T.length;rw [←hn] at c0 HS;clear h2 h3 h4 h5 h6 hH hn;go_enter Tryz.func285,Tryz.ntmps285
 go_wp2_with fail
 refine HS.out.mono ?_;rintro e w1 ⟨⟨i,rfl,hi,hi2⟩,hb1⟩;obtain ⟨d,hd⟩:=KZ6 (decide (x∈H));rw [←hd];have HI:=KZ9 hi2;have HJ:=KZ9 hi;have HD:=KZ9 hd;clear hi2 hd hi;go_wp2;go_ret2;exact ⟨⟨i,by first | rfl | (rw [HD.out];rfl),HJ.out,HI.out⟩,hb1⟩
theorem RI (v:Value) (T:List PinP) (x:Bs) (w:World) (ht:TabG w v T) (hx:x.length≤100000):Calls Tryz.prog 243 #[v,.string (mk x)] w fun e w'=>e= .returned (.tuple #[.agg (zx (kS T x).1).toArray,.bool (kS T x).2])∧Below w.heap.size w w':=by
 obtain ⟨W0,hW0⟩:=KZ6 (w.alloc (.cells #[.string ⟨#[]⟩,.bool false,.int .i64 0] 64));have hbA:Below w.heap.size w W0:=by rw [hW0];exact (Below.refl _ w).alloc (Nat.le_refl _) _
 have hb0:BlkL W0 w.heap.size 64 (zx ⟨[],false,0⟩):=by rw [hW0];exact BlkL.new w _ _
 have hsz:W0.heap.size=w.heap.size+1:=by rw [hW0];simp
 have HW0:=KZ9 hW0.symm;have ht0:=ht.below hbA;have HF:=KZ9 (TS v T x W0 ht0 hx);have HB0:=KZ9 hb0;have HBA:=KZ9 hbA;have HT0:=KZ9 ht0;clear hW0 hbA hb0 ht0 ht;go_enter Tryz.func243,Tryz.ntmps243
 go_upto_region 1 with fail
 rw [HW0.out];clear HW0;go_wp2_with fail
 refine HF.out.mono ?_;rintro e w1 ⟨⟨i,rfl,hi,hi2⟩,hb1⟩;have HB1:=KZ9 (HB0.out.below (by omega) hb1);have HA1:=KZ9 (HBA.out.trans (hb1.mono (by omega)));have HT1:=KZ9 (HT0.out.below hb1);clear hb1 HF HB0 HBA HT0;by_cases he:x∈T.map (·.host)
 ·obtain ⟨hi3,hix⟩:=hi2 he;rw [KZ7 he];have hiT:i<T.length:=by rwa [List.length_map] at hi3
  rw [List.getElem_map] at hix;rcases HT1.out with ⟨_,h2⟩ | ⟨t,a,cap,k,rfl,h2,h3,h4,h5,h6⟩
  ·rw [h2] at hiT;simp at hiT
  have hfin:=KZ9 (Qc h4 hiT hix);obtain ⟨a',cap',hv,g1,g2,hc⟩:=h3.open;obtain ⟨rfl,rfl⟩:a=a'∧cap=cap':=by injection hv with e1 _ e2;exact ⟨e1,e2⟩
  clear hv;unfold maxLen at g2;obtain ⟨b,off,rfl,hb,hcc⟩:=hc (by omega);obtain ⟨d0,d1,d2⟩:=hcc i hiT;have c0:=h2.c 0 _ rfl;obtain ⟨p,hp⟩:=KZ6 (T[i]);rw [←hp] at d0 d1 d2 hfin;obtain ⟨n,hn⟩:=KZ6 T.length;rw [←hn] at c0 hiT g1;clear h2 h3 h4 h5 h6 he hi2 hi hcc hc hi3 hix hp hn HT1;go_wp2_with (refine wpList_store_row rfl 64 (.tmp 4) (.tmp 23) rfl w.heap.size (zx p).toArray rfl rfl 64 _ HB1.out tO rfl (zh (px _)) ?_)
  all_goals try omega
  refine bodyPost_ret (zf rfl _ _ w.heap.size 64 _ _ rfl (HB1.out.setRow (zx p)) Tryz.underlying64 rfl tO) rfl ?_;rw [hfin.out];exact ⟨rfl,below_setRow HA1.out (Nat.le_refl _) _⟩
 rw [KZ8 he];have hfin:=KZ9 (Qb he);clear he hi2 hi HT1;go_wp2_with (refine wpList_store_row rfl 64 (.tmp 4) (.tmp 16) rfl w.heap.size (zx ⟨[],false,0⟩).toArray rfl rfl 64 _ HB1.out tO rfl (zh (px _)) ?_)
 all_goals try omega
 refine bodyPost_ret (zf rfl _ _ w.heap.size 64 _ _ rfl (HB1.out.setRow (zx ⟨[],false,0⟩)) Tryz.underlying64 rfl tO) rfl ?_;rw [hfin.out];exact ⟨rfl,below_setRow HA1.out (Nat.le_refl _) _⟩
theorem RK (v:Value) (L:List EntP) (x:Bs) (w:World) (ht:LisG w v L) (hx:x.length≤100000):Calls Tryz.prog 245 #[v,.string (mk x)] w fun e w'=>e= .returned (.tuple #[.agg (zH (jm L x).1).toArray,.bool (jm L x).2])∧Below w.heap.size w w':=by
 rcases ht with ⟨rfl,rfl⟩ | ⟨t,a,cap,rfl,h2,h3,h4,h5,h6⟩
 ·exact Xu x w
 obtain ⟨W0,hW0⟩:=KZ6 (w.alloc (.cells #[.string ⟨#[]⟩,.bool false] 134));have hbA:Below w.heap.size w W0:=by rw [hW0];exact (Below.refl _ w).alloc (Nat.le_refl _) _
 have hb0:BlkL W0 w.heap.size 134 (zH ⟨[],false⟩):=by rw [hW0];exact BlkL.new w _ _
 have hsz:W0.heap.size=w.heap.size+1:=by rw [hW0];simp
 have htz:=h2.lt;have HW0:=KZ9 hW0.symm;have h20:=h2.below htz hbA;have h30:=h3.below hbA;have c0:=h20.c 0 _ rfl;have HF:=KZ9 (Uf L a cap x W0 h30 h4 h5 hx (by omega));have HB0:=KZ9 hb0;have HBA:=KZ9 hbA;have H2:=KZ9 h20;have H3:=KZ9 h30;have H4:=KZ9 h4;obtain ⟨n,hn⟩:=KZ6 L.length;rw [←hn] at c0 HF H2 H3;have HN:=KZ9 hn;clear hW0 hbA hb0 h2 h3 h4 h5 h6 h20 h30 hn;go_enter Tryz.func245,Tryz.ntmps245
 go_upto_region 1 with fail
 rw [HW0.out];clear HW0;go_wp2_with fail
 refine HF.out.mono ?_;rintro e w1 ⟨⟨i,rfl,hi,hi2⟩,hb1⟩;have HB1:=KZ9 (HB0.out.below (by omega) hb1);have HA1:=KZ9 (HBA.out.trans (hb1.mono (by omega)));have d2:=H2.out.below (by omega) hb1;have d3:=H3.out.below hb1;clear hb1 HF HB0 HBA H2 H3 c0;by_cases he:x∈L.map (·.host)
 ·obtain ⟨hi3,hix⟩:=hi2 he;rw [KZ7 he];have hiT:i<L.length:=by rwa [List.length_map] at hi3
  rw [List.getElem_map] at hix;have hfin:=KZ9 (Qe H4.out hiT hix);obtain ⟨a',cap',hv,g1,g2,hc⟩:=d3.open;obtain ⟨rfl,rfl⟩:a=a'∧cap=cap':=by injection hv with e1 _ e2;exact ⟨e1,e2⟩
  clear hv;unfold maxLen at g2;obtain ⟨b,off,rfl,hb,hcc⟩:=hc (by omega);obtain ⟨k0,k1⟩:=hcc i hiT;have c0:=d2.c 0 _ rfl;obtain ⟨p,hp⟩:=KZ6 (L[i]);rw [←hp] at k0 k1 hfin;rw [←HN.out] at hiT g1;clear d2 d3 H4 he hi2 hi hcc hc hi3 hix hp HN;go_wp2_with (refine wpList_store_row rfl 134 (.tmp 4) (.tmp 29) rfl w.heap.size (zH p).toArray rfl rfl 134 _ HB1.out vM rfl (zh (pD _)) ?_)
  all_goals try omega
  refine bodyPost_ret (zf rfl _ _ w.heap.size 134 _ _ rfl (HB1.out.setRow (zH p)) Tryz.underlying134 rfl vM) rfl ?_;rw [hfin.out];exact ⟨rfl,below_setRow HA1.out (Nat.le_refl _) _⟩
 rw [KZ8 he];have hfin:=KZ9 (Qd he);clear he hi2 hi d2 d3 H4 HN;go_wp2_with (refine wpList_store_row rfl 134 (.tmp 4) (.tmp 22) rfl w.heap.size (zH ⟨[],false⟩).toArray rfl rfl 134 _ HB1.out vM rfl (zh (pD _)) ?_)
 all_goals try omega
 refine bodyPost_ret (zf rfl _ _ w.heap.size 134 _ _ rfl (HB1.out.setRow (zH ⟨[],false⟩)) Tryz.underlying134 rfl vM) rfl ?_;rw [hfin.out];exact ⟨rfl,below_setRow HA1.out (Nat.le_refl _) _⟩
end Go.Proofs.YtbnnlkdhpifpeaaGreatDoor
