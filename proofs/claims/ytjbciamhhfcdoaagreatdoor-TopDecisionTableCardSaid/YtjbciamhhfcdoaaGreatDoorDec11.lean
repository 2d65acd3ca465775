/- What the proof of TopDecisionTable uses, part Dec11. -/
import Derived.Test.YtjbciamhhfcdoaaGreatDoorDec09
import Derived.RangeFuncBound
import Derived.Maps.OwnIn
set_option linter.unusedSimpArgs false
set_option linter.unusedVariables false
namespace Hs
open Go Go.RowKit
structure Keeps (G:Nat→Prop) (A B:World):Prop where
 os:B.os=A.os
 tape:B.tape=A.tape
 output:B.output=A.output
 size:A.heap.size≤B.heap.size
 block:∀ k,k<A.heap.size→G k→B.heap[k]? =A.heap[k]?
theorem Keeps.refl (G:Nat→Prop) (A:World):Keeps G A A:=⟨rfl,rfl,rfl,Nat.le_refl _,fun _ _ _=>rfl⟩
theorem Keeps.trans {G:Nat→Prop} {A B C:World} (h:Keeps G A B) (k:Keeps G B C):Keeps G A C :=
 ⟨k.os.trans h.os,k.tape.trans h.tape,k.output.trans h.output,Nat.le_trans h.size k.size,fun i hi hg=>(k.block i (Nat.lt_of_lt_of_le hi h.size) hg).trans (h.block i hi hg)⟩
theorem Keeps.mono {G G':Nat→Prop} {A B:World} (h:Keeps G A B) (hg:∀ k,G' k→G k):Keeps G' A B :=
 ⟨h.os,h.tape,h.output,h.size,fun k hk hg'=>h.block k hk (hg k hg')⟩
theorem Keeps.of_below {G:Nat→Prop} {A B:World} (h:Below A.heap.size A B):Keeps G A B:=⟨h.os,h.tape,h.output,h.size,fun k hk _=>h.block k hk⟩
theorem Keeps.of_grown {G:Nat→Prop} {A B:World} {row:Option Nat} (h:A.grownBy B row) (hr:∀ r,row=some r→¬ G r):Keeps G A B :=
 ⟨h.os,h.tape,h.output,h.size,fun k hk hg=>h.block k hk (fun e=>hr k e.symm hg)⟩
theorem Keeps.alloc (G:Nat→Prop) (A:World) (o:Obj):Keeps G A (A.alloc o):= .of_below ((Below.refl _ A).alloc (Nat.le_refl _) o)
theorem Keeps.setCell {G:Nat→Prop} (A:World) (b j:Nat) (hb:¬ G b) (v:Value):Keeps G A (A.setCell ⟨b,j,none⟩ v):=by
 have h:=(Below.refl 0 A).setCell (p:=⟨b,j,none⟩) (Nat.zero_le _) v;exact ⟨h.os,h.tape,h.output,h.size,fun k hk hg=>Below.heap_setCell A ⟨b,j,none⟩ v k (fun e=>hb (by have e2:k=b:=e;rw [←e2];exact hg))⟩
theorem Keeps.below {n:Nat} {A B:World} (h:Keeps (· <n) A B) (hn:n≤A.heap.size):Below n A B:=⟨h.os,h.tape,h.output,h.size,fun k hk=>h.block k (by omega) hk⟩
theorem yt {A B:World} (h:Below A.heap.size A B):A.grownBy B none:=⟨h.os,h.tape,h.output,h.size,fun k hk _=>h.block k hk⟩
theorem xx (A:World) (b j:Nat) (v:Value):A.grownBy (A.setCell ⟨b,j,none⟩ v) (some b):=by
 have h:=(Below.refl 0 A).setCell (p:=⟨b,j,none⟩) (Nat.zero_le _) v;exact ⟨h.os,h.tape,h.output,h.size,fun k hk hr=>Below.heap_setCell A ⟨b,j,none⟩ v k (fun e=>hr (by rw [e]))⟩
structure AbidesG {β:Type} (J:β→(Nat→Prop)→World→Prop):Prop where
 turn:∀ s G A B row,J s G A→A.grownBy B row→(∀ r,row=some r→G r)→J s G B
 lay:∀ s G A B,J s G A→A.grownBy B none→J s (fun k=>G k∨(A.heap.size≤k∧k<B.heap.size)) B
def Seq {α:Type} (F:Fence) (n:Nat) (P:Program) (g:Nat) (lb:Array Value) (encs:α→Array Value) (own:Nat→Prop) (n₀:Nat) (S Sp:List α→Prop) (w:World):Prop :=
 ∀ (l:Nat) (J Jx:List α→(Nat→Prop)→World→Prop) (W:World),Below w.heap.size w W→AbidesG J→AbidesG Jx →
  (∀ pre x G W1,J pre G W1→Sp (pre++[x])→YieldAt F (n - 1) P l (encs x) W1 fun e W' =>
   (e= .returned (.bool true)∧J (pre++[x]) G W'∧Keeps (fun k=>G k∨k<n₀) W1 W')∨(e= .returned (.bool false)∧Jx (pre++[x]) G W'∧Keeps (fun k=>G k∨k<n₀) W1 W')) →
  J [] own W →
  CallsIn F n P g (#[.func (.yield l) #[] #[]]++lb) W fun e W'=>(∃ v,e= .returned v)∧((∃ xs G,S xs∧J xs G W')∨(∃ pre G,Sp pre∧Jx pre G W'))
def JG {α:Type} (L n₀:Nat) (I:List α→(Nat→Prop)→World→Prop) (Ix:Code→List α→(Nat→Prop)→World→Prop) (xs:List α) (G:Nat→Prop) (W:World):Exit→Act→World→Prop
 | .normal,_,W'=>W'.heap[L]? =W.heap[L]? ∧Keeps (fun k=>G k∨k<n₀) W W'∧I xs G W'
 | .ret,_,W'=>W'.heap[L]? =W.heap[L]? ∧Keeps (fun k=>G k∨k<n₀) W W'∧Ix .ret xs G W'
 | .exit id,_,W'=>W'.heap[L]? =W.heap[L]? ∧Keeps (fun k=>G k∨k<n₀) W W'∧Ix (.exit id) xs G W'
 | .goto t,_,W'=>W'.heap[L]? =W.heap[L]? ∧Keeps (fun k=>G k∨k<n₀) W W'∧Ix (.goto t) xs G W'
 | .panic _,_,_=>False
 | .outgrown,_,_=>False
variable {F : Fence} {n : Nat} {P : Program}
theorem tC {α:Type} {g:Operand} {ps:Array Tmp} {assign body:Code} {Q:Exit→Act→World→Prop} {a:Act} {w w₁:World} {L dfr:Nat} {mark:List Deferred}
  (h1:1≤n) (hL:L=w₁.heap.size)
  (hent:∀ fn,(Instr.enterLoop fn a.tmps ps assign body F.round).run P w= .ok (L,mark) (w₁.alloc (.loop { state:= .ready,pending:=none,fn,tmps:=a.tmps,params:=ps,assign,body,defers:=dfr })))
  {gf:Nat} {lb:Array Value} (hg:a.eval g= .func (.func gf) #[] lb) (hFg:F.fn gf) (eg:∀ args w,(callFunc gf args).run P w= .ok (.enter gf args) w)
  {encs:α→Array Value} {own:Nat→Prop} {n₀:Nat} {S Sp:List α→Prop} {w0:World} (hseq:Seq F (n - 1) P gf lb encs own n₀ S Sp w0)
  (hb0:Below w0.heap.size w0 w₁) (hps:∀ x,(encs x).size=ps.size) (hn₀:n₀≤L) (hown:¬ own L)
  (I:List α→(Nat→Prop)→World→Prop) (Ix:Code→List α→(Nat→Prop)→World→Prop)
  (hIt:∀ s G A B row,I s G A→A.grownBy B row→(∀ r,row=some r→G r∨r=L)→I s G B)
  (hIl:∀ s G A B,I s G A→A.grownBy B none→I s (fun k=>G k∨(A.heap.size≤k∧k<B.heap.size)) B)
  (hXt:∀ c s G A B row,Ix c s G A→A.grownBy B row→(∀ r,row=some r→G r∨r=L)→Ix c s G B)
  (hXl:∀ c s G A B,Ix c s G A→A.grownBy B none→Ix c s (fun k=>G k∨(A.heap.size≤k∧k<B.heap.size)) B)
  (h0:∀ o,I [] own (w₁.alloc o)) (Ax:α→Act→World→Prop)
  (hAx:∀ x a' A B row,Ax x a' A→A.grownBy B row→(∀ r,row=some r→r=L)→Ax x a' B)
  (hassign:∀ (pre:List α) (x:α) (G:Nat→Prop) (W:World) (K:Act→World→Prop),I pre G W→Sp (pre++[x]) →
   (∀ a' W',W'.heap[L]? =W.heap[L]? →Keeps (fun k=>G k∨k<n₀) W W'→I pre G W'→Ax x a' W'→K a' W') →
   assign.wpIn (F.inRound L) (n - 1 - 1) P (Exit.then K (fun _ _ _=>False)) { tmps:=(ps.zip (encs x)).foldl (fun t (p,v)=>t.setIfInBounds p v) a.tmps,defers:=[] } W)
  (hbody:∀ (pre:List α) (x:α) (G:Nat→Prop) (a':Act) (W:World),(∃ r,W.heap[L]? =some (.loop r))→I pre G W→Ax x a' W→Sp (pre++[x]) →
   body.wpIn (F.inRound L) (n - 1 - 1) P (JG L n₀ I Ix (pre++[x]) G W) a' W)
  (hdone:∀ (xs:List α) (G:Nat→Prop) (W:World),S xs→I xs G W→Q .normal { a with defers:=mark++a.defers } W)
  (hstop:∀ (c:Code) (pre:List α) (G:Nat→Prop) (W:World),Sp pre→Ix c pre G W→c.wpIn F n P Q { a with defers:=mark++a.defers } W) :
  (Code.rangeFunc g ps assign body).wpIn F n P Q a w:=by
 subst hL;refine wpIn_rangeFunc fun fn hfn=> ?_;obtain ⟨rec,hrec⟩:∃ rec:LoopState→Option Code→Loop,rec=fun st pe=>{ state:=st,pending:=pe,fn,tmps:=a.tmps,params:=ps,assign,body,defers:=dfr }:=⟨_,rfl⟩;have hent':=hent fn;rw [show Obj.loop { state:= .ready,pending:=none,fn,tmps:=a.tmps,params:=ps,assign,body,defers:=dfr }=Obj.loop (rec .ready none) from by rw [hrec]] at hent';have hL1:=World.alloc_heap_new w₁ (.loop (rec .ready none));have hI1:=h0 (.loop (rec .ready none));have hb1:Below w0.heap.size w0 (w₁.alloc (.loop (rec .ready none))):=hb0.trans (((Below.refl _ w₁).alloc (Nat.le_refl _) _).mono hb0.size);generalize w₁.alloc (.loop (rec .ready none))=W1 at *;generalize w₁.heap.size=L at *;refine ⟨L,mark,W1,{ target:= .fn (.func gf) lb,args:=#[.func (.yield L) #[] #[]] },W1,gf,#[.func (.yield L) #[] #[]]++lb,W1,hent',?_,?_,?_,fun _=>h1,?_⟩
 ·simp only [resolve,hg];simp [go_sem]
 ·intro f' hf';simp [Target.leads] at hf';subst hf';exact hFg
 ·simp [invoke,go_sem,eg]
 have keepL:∀ {G:Nat→Prop} {A B:World} {row:Option Nat} {o:Obj},A.heap[L]? =some o→¬ G L→A.grownBy B row→(∀ r,row=some r→G r)→B.heap[L]? =some o :=
  fun hl hG hg' hr=>(hg'.block L (Array.getElem?_eq_some_iff.1 hl).1 (fun e=>hG (hr L e.symm))).trans hl
 have layL:∀ {G:Nat→Prop} {A B:World} {o:Obj},A.heap[L]? =some o→¬ G L→¬ (G L∨(A.heap.size≤L∧L<B.heap.size)) :=
  fun hl hG h=>h.elim hG fun h=>by have:=(Array.getElem?_eq_some_iff.1 hl).1;omega
 have put:∀ (W:World) (o:Obj),W.grownBy (W.putObj L o) (some L):=fun W o=>grownBy_putObj' W L o;refine (hseq L (fun pre G W=>I pre G W∧¬ G L∧W.heap[L]? =some (.loop (rec .ready none)))
  (fun pre G W=>∃ c,Ix c pre G W∧¬ G L∧W.heap[L]? =some (.loop (rec .done (some c)))) W1 hb1
  ⟨fun s G A B row hs hg' hr=>⟨hIt s G A B row hs.1 hg' (fun r e=> .inl (hr r e)),hs.2.1,keepL hs.2.2 hs.2.1 hg' hr⟩,
   fun s G A B hs hg'=>⟨hIl s G A B hs.1 hg',layL hs.2.2 hs.2.1,keepL (G:=G) hs.2.2 hs.2.1 hg' (fun r e=>by cases e)⟩⟩
  ⟨fun s G A B row ⟨c,hs,hG,hl⟩ hg' hr=>⟨c,hXt c s G A B row hs hg' (fun r e=> .inl (hr r e)),hG,keepL hl hG hg' hr⟩,
   fun s G A B ⟨c,hs,hG,hl⟩ hg'=>⟨c,hXl c s G A B hs hg',layL hl hG,keepL (G:=G) hl hG hg' (fun r e=>by cases e)⟩⟩
  ?_ ⟨hI1,hown,hL1⟩).mono ?_
 ·rintro pre x G W ⟨hi,hG,hl⟩ hlen;have hy:=run_yield (P:=P) (args:=encs x) hl (by rw [hrec];exact hps x);rw [hrec] at hy;refine ⟨fn,_,assign,body,hy,roundIn_of_wpIn hfn (hassign pre x G W _ hi hlen ?_)⟩;clear hy;intro a' Wa hla hka hia hax;have hl0:=hla.trans hl;refine ⟨_,run_beginRound hl0 (by rw [hrec]),?_⟩;have hlt:=(Array.getElem?_eq_some_iff.1 hl0).1;have hbusy:(Wa.putObj L (.loop { rec .ready none with state:= .busy })).heap[L]? =some (.loop { rec .ready none with state:= .busy }):=World.putObj_heap_same hlt;have hkb:Keeps (fun k=>G k∨k<n₀) W (Wa.putObj L (.loop { rec .ready none with state:= .busy })) :=
   hka.trans (.of_grown (put _ _) (fun r e=>by cases e;exact fun h=>h.elim hG (by omega)))
  refine wpIn_mono (hbody pre x G a' _ ⟨_,hbusy⟩ (hIt _ _ _ _ _ hia (put _ _) (fun r e=>by cases e;exact .inr rfl)) (hAx _ _ _ _ _ hax (put _ _) (fun r e=>by cases e;rfl)) hlen) ?_;have fin:∀ (jump:Option Code) (W3:World),W3.heap[L]? =(Wa.putObj L (.loop { rec .ready none with state:= .busy })).heap[L]? →
    (Instr.endRound L jump).run P W3= .ok (.bool jump.isNone) (W3.putObj L (.loop (rec (if jump.isNone then .ready else .done) jump))) ∧
    (W3.putObj L (.loop (rec (if jump.isNone then .ready else .done) jump))).heap[L]? =some (.loop (rec (if jump.isNone then .ready else .done) jump)):=fun jump W3 h3=>by
   have hl3:=h3.trans hbusy;have:=run_endRound (P:=P) jump hl3;rw [hrec] at this ⊢;exact ⟨this,World.putObj_heap_same (Array.getElem?_eq_some_iff.1 hl3).1⟩
  rintro e a3 W3 hp;cases e with
  | normal =>
   obtain ⟨h3,hk3,hi3⟩:=hp;obtain ⟨hr,hl4⟩:=fin none W3 h3;exact ⟨_,_,hr,.inl ⟨rfl,⟨hIt _ _ _ _ _ hi3 (put _ _) (fun r e=>by cases e;exact .inr rfl),hG,hl4⟩,
    (hkb.trans hk3).trans (.of_grown (put _ _) (fun r e=>by cases e;exact fun h=>h.elim hG (by omega)))⟩⟩
  | ret =>
   obtain ⟨hr,hl4⟩:=fin (some .ret) W3 hp.1;exact ⟨_,_,hr,.inr ⟨rfl,⟨.ret,hXt _ _ _ _ _ _ hp.2.2 (put _ _) (fun r e=>by cases e;exact .inr rfl),hG,hl4⟩,(hkb.trans hp.2.1).trans (.of_grown (put _ _) (fun r e=>by cases e;exact fun h=>h.elim hG (by omega)))⟩⟩
  | exit id =>
   obtain ⟨hr,hl4⟩:=fin (some (.exit id)) W3 hp.1;exact ⟨_,_,hr,.inr ⟨rfl,⟨.exit id,hXt _ _ _ _ _ _ hp.2.2 (put _ _) (fun r e=>by cases e;exact .inr rfl),hG,hl4⟩,(hkb.trans hp.2.1).trans (.of_grown (put _ _) (fun r e=>by cases e;exact fun h=>h.elim hG (by omega)))⟩⟩
  | goto t =>
   obtain ⟨hr,hl4⟩:=fin (some (.goto t)) W3 hp.1;exact ⟨_,_,hr,.inr ⟨rfl,⟨.goto t,hXt _ _ _ _ _ _ hp.2.2 (put _ _) (fun r e=>by cases e;exact .inr rfl),hG,hl4⟩,(hkb.trans hp.2.1).trans (.of_grown (put _ _) (fun r e=>by cases e;exact fun h=>h.elim hG (by omega)))⟩⟩
  | panic ch=>exact hp.elim
  | outgrown=>exact hp.elim
 rintro e W2 ⟨⟨v,rfl⟩,(⟨xs,G,hS,hi,hG,hl⟩ | ⟨pre,G,hSp,c,hi,hG,hl⟩)⟩
 ·exact ⟨none,_,by have:=run_endLoop (P:=P) hl (by rw [hrec];simp);rw [hrec] at this;exact this,hdone xs G _ hS (hIt _ _ _ _ _ hi (put _ _) (fun r e=>by cases e;exact .inr rfl))⟩
 exact ⟨some c,_,by have:=run_endLoop (P:=P) hl (by rw [hrec];simp);rw [hrec] at this;exact this,hstop c pre G _ hSp (hXt _ _ _ _ _ _ hi (put _ _) (fun r e=>by cases e;exact .inr rfl))⟩
theorem tf (hro:F.round=none) (w:World) (a:Act) (ps:Array Tmp) (assign body:Code):∀ fn,(Instr.enterLoop fn a.tmps ps assign body F.round).run P w= .ok (w.heap.size+1,[{ target:= .collected w.heap.size,args:=#[] }]) ((w.alloc (.deferred (some []))).alloc (.loop { state:= .ready,pending:=none,fn,tmps:=a.tmps,params:=ps,assign,body,defers:=w.heap.size })):=fun fn=>by
 rw [hro];exact run_enterLoop_outer _ _ _ _ _
theorem WE {l₀:Nat} {r₀:Loop} (hro:F.round=some l₀) (w:World) (hl₀:w.heap[l₀]? =some (.loop r₀)) (a:Act) (ps:Array Tmp) (assign body:Code):∀ fn,(Instr.enterLoop fn a.tmps ps assign body F.round).run P w= .ok (w.heap.size,[]) (w.alloc (.loop { state:= .ready,pending:=none,fn,tmps:=a.tmps,params:=ps,assign,body,defers:=r₀.defers })):=fun fn=>by
 rw [hro];exact run_enterLoop_inner hl₀ _ _ _ _ _
theorem YieldAt.anyDepth {F:Fence} (hd:F.depth=none) {m:Nat} (m':Nat) {P:Program} {l:Nat} {args:Array Value} {W:World} {R:Ending→World→Prop} (h:YieldAt F m P l args W R):YieldAt F m' P l args W R:=by
 obtain ⟨fn,tmps,assign,body,hy,hR⟩:=h;exact ⟨fn,tmps,assign,body,hy,hR.1,fun c cs _=>hR.2 c cs (fun d h=>by rw [hd] at h;cases h)⟩
theorem Seq.inRound {α:Type} {g:Nat} {lb:Array Value} {encs:α→Array Value} {own:Nat→Prop} {n₀:Nat} {S Sp:List α→Prop} {w:World} (l:Nat) (h:Seq F n P g lb encs own n₀ S Sp w):Seq (F.inRound l) n P g lb encs own n₀ S Sp w:=h
theorem Keeps.grown {G:Nat→Prop} {A B C:World} {row:Option Nat} (h:Keeps G A B) (hg:B.grownBy C row) (hr:∀ r,row=some r→A.heap.size≤r):Keeps G A C :=
 ⟨hg.os.trans h.os,hg.tape.trans h.tape,hg.output.trans h.output,Nat.le_trans h.size hg.size,fun k hk hG=>(hg.block k (Nat.lt_of_lt_of_le hk h.size) (fun e=>by have:=hr k e.symm;omega)).trans (h.block k hk hG)⟩
end Hs
namespace Hs
theorem ug:∀ (l cur:Bs),(∀ b∈cur,wR b=false)→∀ t∈yT cur l,t≠[]∧(∀ b∈t,wR b=false)∧t.length≤cur.length+l.length
 | [],cur,hc,t,ht=>by
  unfold yT at ht;split at ht
  ·simp at ht
  rename_i h;simp only [List.mem_singleton] at ht;subst ht;exact ⟨by simpa using h,hc,by simp⟩
 | b::r,cur,hc,t,ht=>by
  unfold yT at ht;have hnil:∀ x∈([]:Bs),wR x=false:=fun x hx=>by cases hx
  split at ht
  ·rename_i hb;split at ht
   ·have:=ug r [] hnil t ht;exact ⟨this.1,this.2.1,by have:=this.2.2;simp only [List.length_nil,List.length_cons] at *;omega⟩
   rename_i h;rcases List.mem_cons.1 ht with rfl | h2
   ·exact ⟨by simpa using h,hc,by simp⟩
   have:=ug r [] hnil t h2;exact ⟨this.1,this.2.1,by have:=this.2.2;simp only [List.length_nil,List.length_cons] at *;omega⟩
  rename_i hb;have:=ug r (cur++[b]) (fun x hx=>by
   rcases List.mem_append.1 hx with h | h
   ·exact hc x h
   simp only [List.mem_singleton] at h;subst h;simpa using hb) t ht
  exact ⟨this.1,this.2.1,by have:=this.2.2;simp only [List.length_append,List.length_cons,List.length_nil] at *;omega⟩
theorem Zd (l:Bs) (t:Bs) (ht:t∈sD l):t≠[]∧(∀ b∈t,wR b=false)∧t.length≤l.length:=by
 have:=ug l [] (fun b hb=>by cases hb) t ht
 simpa using this
end Hs
namespace Hs
open Go
theorem Qs (l:Bs) (c:UInt8):(∃ a r,l=a++c::r∧c∉a)∨c∉l:=by
 by_cases h:c∈l
 ·exact .inl (by
   induction l with
   | nil=>cases h
   | cons b l ih =>
    by_cases hb:b=c
    ·exact ⟨[],l,by rw [hb];rfl,by simp⟩
    rcases List.mem_cons.1 h with e | h
    ·exact absurd e.symm hb
    obtain ⟨a,r,e,hn⟩:=ih h;exact ⟨b::a,r,by rw [e];rfl,by simp only [List.mem_cons,not_or];exact ⟨fun e=>hb e.symm,hn⟩⟩)
 exact .inr h
theorem d8 (a r:Bs) (c:UInt8) (h:c∉a):Lib.indexByte (a++c::r) c=(a.length:Int):=by
 induction a with
 | nil=>simp [Lib.indexByte]
 | cons b a ih =>
  simp only [List.mem_cons,not_or] at h;have hb:(b==c)=false:=beq_eq_false_iff_ne.2 (fun e=>h.1 e.symm);have:=ih h.2;rw [List.cons_append,Lib.indexByte,hb,this];simp
theorem d7 (l:Bs) (c:UInt8) (h:c∉l):Lib.indexByte l c= -1:=by
 induction l with
 | nil=>simp [Lib.indexByte]
 | cons b l ih =>
  simp only [List.mem_cons,not_or] at h;have hb:(b==c)=false:=beq_eq_false_iff_ne.2 (fun e=>h.1 e.symm);have:=ih h.2;rw [Lib.indexByte,hb,this];simp
def vr (d:Bs):List Bs:=match sD d with | []=>[] | w::_=>[zt w]
def wF (p:Bs):List Bs:=(zi 59 p).flatMap vr
def wV (v:Bs):List Bs:=(zi 44 v).flatMap wF
theorem Y2 (v:Bs) (pre post:List Bs) (p:Bs) (pre2 post2:List Bs) (d n:Bs) (h1:pre++[p]++post=zi 44 v) (h2:pre2++[d]++post2=zi 59 p) (h3:vr d=[n]):(pre.flatMap wF++pre2.flatMap vr)++[n] <+: wV v:=by
 refine ⟨post2.flatMap vr++post.flatMap wF,?_⟩;unfold wV;rw [←h1];simp only [List.flatMap_append,List.flatMap_cons,List.flatMap_nil,List.append_nil];have e:wF p=pre2.flatMap vr++([n]++post2.flatMap vr):=by
  unfold wF;rw [←h2];simp [h3]
 rw [e];simp
def gO (acc:List Bs) (n:Bs):List Bs:=if n∈acc then acc else acc++[n]
def xm (acc ns:List Bs):List Bs:=ns.foldl gO acc
theorem jJ (acc ns:List Bs) (n:Bs):xm acc (ns++[n])=gO (xm acc ns) n:=by simp [xm]
theorem QT (acc:List Bs) (n:Bs) (h:n∈acc):gO acc n=acc:=if_pos h
theorem PZ (acc:List Bs) (n:Bs) (h:n∉acc):gO acc n=acc++[n]:=if_neg h
theorem Vk (acc:List Bs) (n:Bs):acc <+: gO acc n:=by
 unfold gO;split
 ·exact List.prefix_rfl
 exact List.prefix_append _ _
theorem Yk:∀ (ns acc:List Bs),acc <+: xm acc ns
 | [],acc=>List.prefix_rfl
 | n::ns,acc=>(Vk acc n).trans (Yk ns (gO acc n))
theorem Wl (acc:List Bs) (n:Bs):(gO acc n).length≤acc.length+1:=by unfold gO;split<;>simp
theorem sg:∀ (ns acc:List Bs),(xm acc ns).length≤acc.length+ns.length
 | [],acc=>by simp [xm]
 | n::ns,acc=>by
  have h1:=sg ns (gO acc n);have h2:=Wl acc n;have e:xm acc (n::ns)=xm (gO acc n) ns:=rfl;rw [e,List.length_cons];omega
def se:List Bs→List Bs→Option (List Bs)
 | [],acc=>some acc
 | v::r,acc=>if 4096<v.length then none else se r (xm acc (wV v))
theorem V3 (acc:List Bs):se [] acc=some acc:=rfl
theorem Wc (v:Bs) (r acc:List Bs) (h:4096<v.length):se (v::r) acc=none:=if_pos h
theorem YM (v:Bs) (r acc:List Bs) (h:¬ 4096<v.length):se (v::r) acc=se r (xm acc (wV v)):=if_neg h
theorem YR (d:Bs):(vr d).length≤1:=by unfold vr;split<;>simp
theorem vn {α β:Type} (f:α→List β) (m:Nat):∀ l:List α,(∀ x∈l,(f x).length≤m)→(l.flatMap f).length≤l.length*m
 | [],_=>by simp
 | x::l,h=>by
  have h1:=vn f m l (fun y hy=>h y (by simp [hy]));have h2:=h x (by simp);rw [List.flatMap_cons,List.length_append,List.length_cons,Nat.add_mul,Nat.one_mul];omega
theorem tp (c:UInt8):∀ l:Bs,(zi c l).length≤l.length+1
 | []=>by simp [zi]
 | b::r=>by
  have ih:=tp c r;unfold zi;split
  ·simp only [List.length_cons];omega
  split
  ·rename_i h t e;rw [e] at ih;simp only [List.length_cons] at ih ⊢;omega
  simp
theorem gZ (p:Bs):(wF p).length≤p.length+1:=by
 have h1:=vn vr 1 (zi 59 p) (fun x _=>YR x);have h2:=tp 59 p;unfold wF;omega
theorem gY (v:Bs) (h:v.length≤4500):(wV v).length≤4501*4501:=by
 have h1:=vn wF 4501 (zi 44 v) (fun x hx=>by have:=gZ x;have:=yJ 44 v x hx;omega);have h2:=tp 44 v;exact Nat.le_trans h1 (Nat.mul_le_mul_right _ (by omega))
theorem p8 (c:UInt8):∀ (a b:Bs),zi c (a++c::b)=zi c a++zi c b
 | [],b=>by simp [zi]
 | x::a,b=>by
  have ih:=p8 c a b;by_cases hx:x=c
  ·rw [List.cons_append,zi,if_pos hx,zi,if_pos hx,ih];rfl
  rw [List.cons_append,zi,if_neg hx,zi,if_neg hx,ih];cases h:zi c a with
  | nil=>exact absurd h (wu c a)
  | cons y t=>rfl
theorem Sy (d n:Bs) (h:n∈vr d):n.length≤d.length:=by
 unfold vr at h;split at h
 ·cases h
 rename_i w r e;rw [List.mem_singleton.1 h,yK];exact (Zd d w (by rw [e];simp)).2.2
theorem Ul (v n:Bs) (h:n∈wV v):n.length≤v.length:=by
 unfold wV wF at h;obtain ⟨p,hp,h⟩:=List.mem_flatMap.1 h;obtain ⟨d,hd,h⟩:=List.mem_flatMap.1 h;have h1:=Sy d n h;have h2:=yJ 59 p d hd;have h3:=yJ 44 v p hp;omega
end Hs
namespace Go.Proofs.YtjbciamhhfcdoaaGreatDoor
open Go.RowKit Go.Shelf Hs
attribute [local go_sem] Oper.semAt_some
abbrev uC (w:World) (s:ByteArray) (c:UInt8):World:=((w.alloc (.cells #[.string s] 9)).alloc (.cells #[.string ⟨#[c]⟩] 9)).alloc (.cells #[.int .i64 0] 3)
theorem WC (s:ByteArray) (c:UInt8) (w:World):Calls Tryz.prog 126 #[.string s,.string ⟨#[c]⟩,.int .i64 0] w fun e w'=>e= .returned (.func (.func 180) #[] #[.pointer (some ⟨w.heap.size+1,0,none⟩),.pointer (some ⟨w.heap.size,0,none⟩),.pointer (some ⟨w.heap.size+2,0,none⟩)])∧w'=uC w s c:=by
 go_enter Tryz.func126,Tryz.ntmps126
 go_wp2;go_ret;exact ⟨rfl,rfl⟩
theorem qp (s:ByteArray) (c:UInt8) (w:World):Calls Tryz.prog 81 #[.string s,.string ⟨#[c]⟩] w fun e w'=>e= .returned (.func (.func 180) #[] #[.pointer (some ⟨w.heap.size+1,0,none⟩),.pointer (some ⟨w.heap.size,0,none⟩),.pointer (some ⟨w.heap.size+2,0,none⟩)])∧w'=uC w s c:=by
 go_enter Tryz.func81,Tryz.ntmps81
 go_wp2_with fail
 refine (WC s c _).mono ?_;rintro e w' ⟨rfl,rfl⟩;go_wp2_with fail
 go_ret;exact ⟨rfl,rfl⟩
theorem sN (w:World) (s:ByteArray) (c:UInt8):(uC w s c).heap.size=w.heap.size+3:=by simp [uC]
theorem uh (w:World) (s:ByteArray) (c:UInt8):Below w.heap.size w (uC w s c):=(((Below.refl _ w).alloc (Nat.le_refl _) _).alloc (by simp) _).alloc (by simp;omega) _
theorem jS (w:World) (s:ByteArray) (c:UInt8):Boxed (uC w s c) w.heap.size 9 (.string s):=((Boxed.new w _ _).alloc _).alloc _
theorem jT (w:World) (s:ByteArray) (c:UInt8):Boxed (uC w s c) (w.heap.size+1) 9 (.string ⟨#[c]⟩):=by
 have:=(Boxed.new (w.alloc (.cells #[.string s] 9)) 9 (.string ⟨#[c]⟩)).alloc (.cells #[.int .i64 0] 3)
 rwa [World.size_alloc] at this
theorem jR (w:World) (s:ByteArray) (c:UInt8):Boxed (uC w s c) (w.heap.size+2) 3 (.int .i64 0):=by
 have:=Boxed.new ((w.alloc (.cells #[.string s] 9)).alloc (.cells #[.string ⟨#[c]⟩] 9)) 3 (.int .i64 0);simp only [World.size_alloc] at this;exact this
def jD (c:Nat) (w:World):Nat:=match w.cell? ⟨c,0,none⟩ with | some v=>px v | none=>0
theorem sB {c:Nat} {w:World} {t:TypeId} {s:ByteArray} (h:Boxed w c t (.string s)):jD c w=s.size:=by unfold jD;rw [h.cell];rfl
set_option maxRecDepth 100000
set_option maxHeartbeats 2000000
theorem pA (n cs ct cz n₀:Nat) (c:UInt8) (s:ByteArray) (w:World) (hn:1≤n) (bs:Boxed w cs 9 (.string ⟨#[c]⟩)) (bt:Boxed w ct 9 (.string s)) (bz:Boxed w cz 3 (.int .i64 0)) (hst:cs≠ct) (hzt:cz≠ct) (hs:s.size≤1000000) :
  Seq Fence.wide n Tryz.prog 180 #[.pointer (some ⟨cs,0,none⟩),.pointer (some ⟨ct,0,none⟩),.pointer (some ⟨cz,0,none⟩)] (fun x:Bs=>#[.string (mk x)]) (fun k=>k=cs∨k=ct∨k=cz) n₀ (fun xs=>xs=zi c (un s)) (fun pre=>pre <+: zi c (un s)) w:=fun l J Jx W hW hJ hJx hY h0=>by
 have hsp:=World.size_alloc;have Bs0:Boxed W cs 9 (.string ⟨#[c]⟩):=(hW.block cs bs.lt).trans bs;have Bt0:Boxed W ct 9 (.string s):=(hW.block ct bt.lt).trans bt;have Bz0:Boxed W cz 3 (.int .i64 0):=(hW.block cz bz.lt).trans bz;have es0:=Bs0.cell;have hsz1:(⟨#[c]⟩:ByteArray).size=1:=rfl;refine callsIn_of_wp Tryz.func180 rfl trivial ?_ rfl;simp only [Tryz.ntmps180,List.size_toArray,List.length_cons,List.length_nil,Nat.reduceAdd,Nat.reduceSub,Array.replicate_succ,Array.replicate_zero,List.push_toArray,List.append_toArray,List.nil_append,List.cons_append]
 gi_wp2
 gi_loopw [] (fun wr=>∃ (pre:List Bs) (t:ByteArray) (G:Nat→Prop),Hid (pre++zi c (un t)=zi c (un s))∧t.size≤s.size∧Boxed wr cs 9 (.string ⟨#[c]⟩)∧Boxed wr ct 9 (.string t)∧Boxed wr cz 3 (.int .i64 0)∧J pre G wr∧G cs∧G ct∧G cz) (fun wr=>jD ct wr)
 case atStart =>
  exact ⟨[],s,_,rfl,Nat.le_refl _,Bs0,Bt0,Bz0,h0,.inl rfl,.inr (.inl rfl),.inr (.inr rfl)⟩
 case round =>
  obtain ⟨pre,t,G,hpre,hts,hbs,hbt,hbz,hJs,hGs,hGt,hGz⟩:=hrel;have ec:=hbs.cell;have et:=hbt.cell;have ez:=hbz.cell;have hmeas:=sB hbt;have hix:=fun W=>Tryz.strings_Index_one t c W;rw [show t.data.toList=un t from rfl] at hix;rcases Qs (un t) c with ⟨a,r,e,hna⟩ | hno
  ·rw [e,d8 a r c hna] at hix;have HIX:=KZ9 hix;have hal:a.length+1+r.length=t.size:=by have:=congrArg List.length e;rw [zb] at this;simp at this;omega
   have hex1:t.extract 0 a.length=mk a:=by rw [yP,e];congr 1;simp [seg]
   have hex2:t.extract (a.length+1) t.size=mk r:=by rw [yP,←zb,j9,e];congr 1;simp
   have hnext:Hid ((pre++[a])++zi c r=zi c (un s)):=by rw [←hpre.out,e,vF c r a (fun x hx e=>hna (e▸hx))];simp [Hid]
   obtain ⟨fn,tmps,assign,body,hy,hR⟩:=hY pre a G wr hJs ⟨_,hnext.out⟩;clear hix hpre e hna
   gi_wp2
   refine ⟨trivial,?_⟩;refine (callsIn_wide.2 (HIX.out _)).mono ?_;rintro e w' ⟨rfl,rfl⟩
   gi_wp2
   refine hR.mono ?_;rintro e W3 (⟨rfl,hJ3,hk3⟩ | ⟨rfl,hJx3,hk3⟩)
   ·have b3s:Boxed W3 cs 9 (.string ⟨#[c]⟩):=(hk3.block cs hbs.lt (.inl hGs)).trans hbs;have b3t:Boxed W3 ct 9 (.string t):=(hk3.block ct hbt.lt (.inl hGt)).trans hbt;have b3z:Boxed W3 cz 3 (.int .i64 0):=(hk3.block cz hbz.lt (.inl hGz)).trans hbz;have e3s:=b3s.cell;have e3t:=b3t.cell;have f3t:=b3t.frozen
    gi_wp2
    go_roundw
    case rel=>exact ⟨_,mk r,G,by rw [zj];exact hnext,by rw [zh];omega,b3s.other hst _,b3t.set _,b3z.other hzt _,hJ.turn _ _ _ _ _ hJ3 (xx _ ct 0 _) (fun r e=>by cases e;exact hGt),hGs,hGt,hGz⟩
    case measure=>rw [sB (b3t.set _),hmeas,zh];omega
   gi_wp2
   refine bodyPost_ret (results_none rfl _ _ _) rfl ?_;exact ⟨⟨_,rfl⟩,.inr ⟨_,G,⟨_,hnext.out⟩,hJx3⟩⟩
  rw [d7 _ _ hno] at hix;have HIX:=KZ9 hix;have hnext:Hid (pre++[un t]=zi c (un s)):=by rw [←hpre.out,wo c _ (fun x hx e=>hno (e▸hx))];rfl
  obtain ⟨fn,tmps,assign,body,hy,hR⟩:=hY pre (un t) G wr hJs ⟨[],by rw [List.append_nil];exact hnext.out⟩;rw [vd] at hy;clear hix hpre hno
  gi_wp2
  refine ⟨trivial,?_⟩;refine (callsIn_wide.2 (HIX.out _)).mono ?_;rintro e w' ⟨rfl,rfl⟩
  gi_wp2
  refine hR.mono ?_;rintro e W3 (⟨rfl,hJ3,hk3⟩ | ⟨rfl,hJx3,hk3⟩)
  ·gi_wp2
   go_end0
   exact ⟨⟨_,rfl⟩,.inl ⟨_,G,hnext.out,hJ3⟩⟩
  gi_wp2
  go_end0
  exact ⟨⟨_,rfl⟩,.inr ⟨_,G,⟨[],by rw [List.append_nil];exact hnext.out⟩,hJx3⟩⟩
end Go.Proofs.YtjbciamhhfcdoaaGreatDoor
namespace Hs
open Go Go.RowKit
variable {P : Program} (w : World)
theorem gT (base:Nat) (t ty e:TypeId) (i:TypeInfo) (z:Value) (size bytes:Nat) (ht:P.underlying t=some (.slice e)) (hi:P.info? e=some i) (hz:i.zero=some z)
  (hsize:i.size=size) (hby:i.bytes=bytes) (hzs:z.cells.size=size) (hsz:0<size)
  (v:Value) (n:Nat) (xs:List Value) (hown:w.ownsRow base e size v n xs)
  (a:Addr) (m c:Nat) (news:List Value) (hl:news.length=m*size) (hnews:∀ j u,news[j]? =some u→w.cell? (a.add j)=some u) (h1:∀ u∈news,u.oneCell'=true)
  (h63:n+m≤maxLen) (hbytes:(n+m)*bytes≤140737488355328) (hbase:base≤w.heap.size) (hm:0<m) :
  ∃ v' w',(Builtin.append_ #[t,t] ty #[v,.slice (some a) m c]).run P w= .ok v' w'∧w'.ownsRow base e size v' (n+m) (xs++news)∧w.grownBy w' v.ownBlock ∧
   (∃ g cap,v'= .slice (some ⟨g,0,none⟩) (n+m) cap∧(v.ownBlock=some g∨g=w.heap.size)):=by
 obtain ⟨v',w',hr,h2,h3,h4⟩:=run_append_own (P:=P) w base t ty e i z size bytes ht hi hz hsize hby hzs hsz v n xs hown a m c news hl hnews h1 h63 hbytes hbase;refine ⟨v',w',hr,h2,h3,?_⟩;subst hsize;subst hby;simp only [maxLen] at h63;rcases hown.2 with ⟨rfl,rfl⟩ | ⟨g,cap,cur,rfl,hbg,hg,hnc,hcm,hcs,htake⟩
 ·have hr2:=run_append_nil (P:=P) w t ty e i z ht hi hz a m c news hl hnews hm (by omega) (by have hb:=hbytes;simp only [Nat.zero_add] at hb;omega);rw [hr] at hr2;injection hr2 with e1 e2
  subst e1;exact ⟨w.heap.size,_,by simp;rfl,.inr rfl⟩
 by_cases hroom:n+m≤cap
 ·have hfit:n*i.size+news.length≤cur.size:=by rw [hl,hcs,←Nat.add_mul];exact Nat.mul_le_mul_right _ hroom
  have hr2:=run_append_room (P:=P) w t ty e i ht hi g n cap cur hg a m c news hl hnews h1 hroom hfit;rw [hr] at hr2;injection hr2 with e1 e2
  subst e1;exact ⟨g,_,rfl,.inl rfl⟩
 have holds:∀ j u,xs[j]? =some u→w.cell? ((⟨g,0,none⟩:Addr).add j)=some u:=hown.cells (g:=g) rfl;have hr2:=run_append_grow (P:=P) w t ty e i z ht hi hz ⟨g,0,none⟩ n cap xs hown.1 holds a m c news hl hnews (by omega) (by omega) (growslice_fits (by omega) hbytes);rw [hr] at hr2;injection hr2 with e1 e2
 subst e1;exact ⟨w.heap.size,_,by simp;rfl,.inr rfl⟩
theorem rW {F:Fence} {n:Nat} {ops:Array Oper} {rest:List Oper} {o:Oper} {a:Act} {Q:Exit→Act→World→Prop}
  (hg:o.guard=none) (s x:Operand) (t:TypeId) (hop:o.op=Op.call { callee:=Callee.builtin Builtin.append,args:=#[s,x],argTypes:=#[t,t] })
  (base:Nat) (e:TypeId) (i:TypeInfo) (z:Value) (size bytes:Nat) (h1:P.underlying t=some (.slice e)) (h2:P.info? e=some i) (h3:i.zero=some z) (h4:i.size=size) (h5:i.bytes=bytes) (h6:z.cells.size=size) (h7:0<size)
  (v:Value) (k:Nat) (xs:List Value) (hs:a.eval s=v) (hown:w.ownsRow base e size v k xs) (ad:Addr) (m c:Nat) (news:List Value) (hx:a.eval x= .slice (some ad) m c) (hn:news.length=m*size)
  (hc:∀ j u,news[j]? =some u→w.cell? (ad.add j)=some u) (h1c:∀ u∈news,u.oneCell'=true) (b1:k+m≤maxLen) (b2:(k+m)*bytes≤140737488355328) (b3:base≤w.heap.size) (hm:0<m)
  (hK:∀ g cap w',w'.ownsRow base e size (.slice (some ⟨g,0,none⟩) (k+m) cap) (k+m) (xs++news)→w.grownBy w' v.ownBlock→(v.ownBlock=some g∨g=w.heap.size) →
   wpListIn F n P ops Q rest (a.put o.dst (.slice (some ⟨g,0,none⟩) (k+m) cap)) w') :
  wpListIn F n P ops Q (o::rest) a w:=by
 refine wpListIn_plain hg fun K hK'=> ?_;obtain ⟨v',w',hrun,r1,r2,g,cap,rfl,hp⟩:=gT (P:=P) w base t o.type e i z size bytes h1 h2 h3 h4 h5 h6 h7 v k xs hown ad m c news hn hc h1c b1 b2 b3 hm;unfold Oper.wpIn;refine ⟨?_,?_⟩
 ·simp [Oper.about,hop,resolve,Target.leads,Sem.run_pure]
 rw [Oper.semAt_plain F _ _ (by rw [hop];intro c hc';cases hc')];simp [execOp,hop,resolve,invoke,builtin,hs,hx,hrun,Result.andThen];exact hK' _ _ (hK g cap w' r1 r2 hp)
variable {F : Fence} {n : Nat} {P : Program} {ops : Array Oper} {Q : Exit → Act → World → Prop} {md : Region.Mode}
def qI (ops:Array Oper):Bool:=ops.toList.all fun o=>match o.op with | .defer _=>false | _=>true
theorem XL (h:qI ops=true) {i:Nat} {o:Oper} (hi:ops[i]? =some o):∀ c,o.op≠ .defer c:=fun c e=>by
 have hm:o∈ops.toList:=by
  obtain ⟨hlt,rfl⟩:=Array.getElem?_eq_some_iff.1 hi;exact Array.getElem_mem_toList hlt
 have:=List.all_eq_true.1 h o hm;rw [e] at this;cases this
theorem Vm {o:Oper} {a:Act} {w:World} {K:Act→World→Prop} {l:Nat} (hro:F.round=none) (hd:∀ c,o.op≠ .defer c) (h:o.wpIn F n P a w K Q):o.wpIn (F.inRound l) n P a w K Q:=by
 unfold Oper.wpIn at h ⊢;refine ⟨h.1,?_⟩;have h2:=h.2;rw [hro,Oper.semAt_none] at h2;rw [Fence.inRound_round,Oper.semAt_some l _ o hd];exact h2
theorem Ye {i:Nat} {K:Act→World→Prop} {a:Act} {w:World} {l:Nat} (hro:F.round=none) (hd:qI ops=true) (h:wpOpIn F n P ops Q i K a w):wpOpIn (F.inRound l) n P ops Q i K a w:=by
 unfold wpOpIn at h ⊢;cases hi:ops[i]? with
 | none=>simpa [hi] using h
 | some o =>
  simp only [hi] at h ⊢;split
  ·rename_i hw;rw [if_pos hw] at h;exact Vm hro (XL hd hi) h
  rename_i hw;rw [if_neg hw] at h;exact h
theorem rL (hro:F.round=none) (hd:qI ops=true) (l:Nat):∀ (fuel:Nat) (listed:Array Bool) (a:Act) (w:World),wpAnyIn F n P md ops Q fuel listed a w→wpAnyIn (F.inRound l) n P md ops Q fuel listed a w
 | 0,_,_,_,h=>h
 | fuel+1,listed,a,w,h=>⟨h.1,fun i hi=>Ye hro hd (wpOpIn_mono (fun a' w'=>rL hro hd l fuel _ a' w') (h.2 i hi))⟩
theorem uV {id:Nat} {a:Act} {w:World} {l:Nat} (hro:F.round=none) (hm:P.follows .mixedOrders=true) (hd:qI ops=true)
  (h:wpAnyIn F n P .any ops Q ops.size (Array.replicate ops.size false) a w.drew):(Code.region id ops true).wpIn (F.inRound l) n P Q a w :=
 wpIn_region_any hm (rL hro hd l _ _ _ _ h)
end Hs
namespace Go.Proofs.YtjbciamhhfcdoaaGreatDoor
open Go.RowKit Go.Shelf Hs
attribute [local go_sem] Oper.semAt_some
theorem Y5 (s:ByteArray) (w:World):Calls Tryz.prog 85 #[.string s] w fun e w'=>e= .returned (.func (.func 138) #[] #[.pointer (some ⟨w.heap.size,0,none⟩)])∧w'=w.alloc (.cells #[.string s] 9):=by
 go_enter Tryz.func85,Tryz.ntmps85
 go_wp2;go_ret;exact ⟨rfl,rfl⟩
def DInv (J:List Bs→(Nat→Prop)→World→Prop) (z l:Nat) (pre:List Bs) (G:Nat→Prop) (W:World):Prop :=
 ∃ GJ,J (pre.flatMap wF) GJ W∧(∀ k,G k→GJ k∧z+1≤k∧k≠z+4)∧GJ z∧GJ (z+4)∧GJ (z+5)∧Boxed W z 25 (.func (.yield l) #[] #[])∧W.heap[z+4]? =some (.deferred (some []))
def DOut (Jx:List Bs→(Nat→Prop)→World→Prop) (z:Nat) (NS:List Bs) (c:Code) (pre:List Bs) (G:Nat→Prop) (W:World):Prop :=
 c= .ret∧∃ GJ q,Jx q GJ W∧q <+: NS∧(∀ k,G k→GJ k∧z+1≤k∧k≠z+4)∧GJ (z+4)∧GJ (z+5)∧W.heap[z+4]? =some (.deferred (some []))
theorem DInv.turn {J:List Bs→(Nat→Prop)→World→Prop} {z l:Nat} {pre:List Bs} {G:Nat→Prop} {A B:World} {row:Option Nat} (h:DInv J z l pre G A) (hJ:AbidesG J) (hg:A.grownBy B row) (hr:∀ r,row=some r→G r∨r=z+5):DInv J z l pre G B:=by
 obtain ⟨GJ,h1,h2,h3,h4,h5,h6,h7⟩:=h;have ne:∀ j,j=z∨j=z+4→some j≠row:=fun j hj e=>by
  rcases hr j e.symm with h | h
  ·have:=h2 j h;omega
  omega
 exact ⟨GJ,hJ.turn _ _ _ _ _ h1 hg (fun r e=>(hr r e).elim (fun h=>(h2 r h).1) (fun h=>h▸h5)),h2,h3,h4,h5,h6.kept hg (ne _ (.inl rfl)),(hg.block _ (Array.getElem?_eq_some_iff.1 h7).1 (ne _ (.inr rfl))).trans h7⟩
theorem DInv.lay {J:List Bs→(Nat→Prop)→World→Prop} {z l:Nat} {pre:List Bs} {G:Nat→Prop} {A B:World} (h:DInv J z l pre G A) (hJ:AbidesG J) (hg:A.grownBy B none):DInv J z l pre (fun k=>G k∨(A.heap.size≤k∧k<B.heap.size)) B:=by
 obtain ⟨GJ,h1,h2,h3,h4,h5,h6,h7⟩:=h;have hlt:=(Array.getElem?_eq_some_iff.1 h7).1;exact ⟨_,hJ.lay _ _ _ _ h1 hg,fun k hk=>hk.elim (fun h=>⟨.inl (h2 k h).1,(h2 k h).2⟩) (fun h=>⟨.inr h,by omega,by omega⟩),.inl h3,.inl h4,.inl h5,h6.kept hg (by simp),(hg.block _ hlt (by simp)).trans h7⟩
theorem DOut.turn {Jx:List Bs→(Nat→Prop)→World→Prop} {z:Nat} {NS:List Bs} {c:Code} {pre:List Bs} {G:Nat→Prop} {A B:World} {row:Option Nat} (h:DOut Jx z NS c pre G A) (hJ:AbidesG Jx) (hg:A.grownBy B row) (hr:∀ r,row=some r→G r∨r=z+5):DOut Jx z NS c pre G B:=by
 obtain ⟨hc,GJ,q,h1,hq,h2,h4,h5,h7⟩:=h;have ne:some (z+4)≠row:=fun e=>by
  rcases hr _ e.symm with h | h
  ·have:=h2 _ h;omega
  omega
 exact ⟨hc,GJ,q,hJ.turn _ _ _ _ _ h1 hg (fun r e=>(hr r e).elim (fun h=>(h2 r h).1) (fun h=>h▸h5)),hq,h2,h4,h5,(hg.block _ (Array.getElem?_eq_some_iff.1 h7).1 ne).trans h7⟩
theorem DOut.lay {Jx:List Bs→(Nat→Prop)→World→Prop} {z:Nat} {NS:List Bs} {c:Code} {pre:List Bs} {G:Nat→Prop} {A B:World} (h:DOut Jx z NS c pre G A) (hJ:AbidesG Jx) (hg:A.grownBy B none):DOut Jx z NS c pre (fun k=>G k∨(A.heap.size≤k∧k<B.heap.size)) B:=by
 obtain ⟨hc,GJ,q,h1,hq,h2,h4,h5,h7⟩:=h;have hlt:=(Array.getElem?_eq_some_iff.1 h7).1;exact ⟨hc,_,q,hJ.lay _ _ _ _ h1 hg,hq,fun k hk=>hk.elim (fun h=>⟨.inl (h2 k h).1,(h2 k h).2⟩) (fun h=>⟨.inr h,by omega,by omega⟩),.inl h4,.inl h5,(hg.block _ hlt (by simp)).trans h7⟩
def EInv (J:List Bs→(Nat→Prop)→World→Prop) (n₀:Nat) (Wy:World) (GJ:Nat→Prop) (P0:List Bs) (pre:List Bs) (G:Nat→Prop) (W:World):Prop :=
 ∃ GK,J (P0++pre.flatMap vr) GK W∧(∀ k,GJ k→GK k)∧(∀ k,G k→GK k∧Wy.heap.size≤k)∧GK (Wy.heap.size+3)∧Keeps (fun k=>GJ k∨k<n₀) Wy W
def EOut (Jx:List Bs→(Nat→Prop)→World→Prop) (n₀:Nat) (Wy:World) (GJ:Nat→Prop) (NS:List Bs) (c:Code) (pre:List Bs) (G:Nat→Prop) (W:World):Prop :=
 c= .ret∧∃ GK q,Jx q GK W∧q <+: NS∧(∀ k,GJ k→GK k)∧(∀ k,G k→GK k∧Wy.heap.size≤k)∧GK (Wy.heap.size+3)∧Keeps (fun k=>GJ k∨k<n₀) Wy W
theorem EInv.turn {J:List Bs→(Nat→Prop)→World→Prop} {n₀:Nat} {Wy:World} {GJ:Nat→Prop} {P0 pre:List Bs} {G:Nat→Prop} {A B:World} {row:Option Nat} (h:EInv J n₀ Wy GJ P0 pre G A) (hJ:AbidesG J) (hg:A.grownBy B row) (hr:∀ r,row=some r→G r∨r=Wy.heap.size+3):EInv J n₀ Wy GJ P0 pre G B:=by
 obtain ⟨GK,h1,h2,h3,h4,h5⟩:=h;exact ⟨GK,hJ.turn _ _ _ _ _ h1 hg (fun r e=>(hr r e).elim (fun h=>(h3 r h).1) (fun h=>h▸h4)),h2,h3,h4,h5.grown hg (fun r e=>(hr r e).elim (fun h=>(h3 r h).2) (fun h=>by omega))⟩
theorem EInv.lay {J:List Bs→(Nat→Prop)→World→Prop} {n₀:Nat} {Wy:World} {GJ:Nat→Prop} {P0 pre:List Bs} {G:Nat→Prop} {A B:World} (h:EInv J n₀ Wy GJ P0 pre G A) (hJ:AbidesG J) (hg:A.grownBy B none):EInv J n₀ Wy GJ P0 pre (fun k=>G k∨(A.heap.size≤k∧k<B.heap.size)) B:=by
 obtain ⟨GK,h1,h2,h3,h4,h5⟩:=h;have hs:=h5.size;exact ⟨_,hJ.lay _ _ _ _ h1 hg,fun k h=> .inl (h2 k h),fun k hk=>hk.elim (fun h=>⟨.inl (h3 k h).1,(h3 k h).2⟩) (fun h=>⟨.inr h,by omega⟩),.inl h4,h5.grown hg (fun r e=>by cases e)⟩
theorem EOut.turn {Jx:List Bs→(Nat→Prop)→World→Prop} {n₀:Nat} {Wy:World} {GJ:Nat→Prop} {NS:List Bs} {c:Code} {pre:List Bs} {G:Nat→Prop} {A B:World} {row:Option Nat} (h:EOut Jx n₀ Wy GJ NS c pre G A) (hJ:AbidesG Jx) (hg:A.grownBy B row) (hr:∀ r,row=some r→G r∨r=Wy.heap.size+3):EOut Jx n₀ Wy GJ NS c pre G B:=by
 obtain ⟨hc,GK,q,h1,hq,h2,h3,h4,h5⟩:=h;exact ⟨hc,GK,q,hJ.turn _ _ _ _ _ h1 hg (fun r e=>(hr r e).elim (fun h=>(h3 r h).1) (fun h=>h▸h4)),hq,h2,h3,h4,h5.grown hg (fun r e=>(hr r e).elim (fun h=>(h3 r h).2) (fun h=>by omega))⟩
theorem EOut.lay {Jx:List Bs→(Nat→Prop)→World→Prop} {n₀:Nat} {Wy:World} {GJ:Nat→Prop} {NS:List Bs} {c:Code} {pre:List Bs} {G:Nat→Prop} {A B:World} (h:EOut Jx n₀ Wy GJ NS c pre G A) (hJ:AbidesG Jx) (hg:A.grownBy B none):EOut Jx n₀ Wy GJ NS c pre (fun k=>G k∨(A.heap.size≤k∧k<B.heap.size)) B:=by
 obtain ⟨hc,GK,q,h1,hq,h2,h3,h4,h5⟩:=h;have hs:=h5.size;exact ⟨hc,_,q,hJ.lay _ _ _ _ h1 hg,hq,fun k h=> .inl (h2 k h),fun k hk=>hk.elim (fun h=>⟨.inl (h3 k h).1,(h3 k h).2⟩) (fun h=>⟨.inr h,by omega⟩),.inl h4,h5.grown hg (fun r e=>by cases e)⟩
set_option maxRecDepth 100000
set_option maxHeartbeats 2000000
theorem Qk (c n₀:Nat) (s:ByteArray) (w:World) (hb:Boxed w c 9 (.string s)) (hs:s.size≤100000) (hn₀:n₀≤w.heap.size) :
  Seq Fence.wide 8 Tryz.prog 138 #[.pointer (some ⟨c,0,none⟩)] (fun x:Bs=>#[.string (mk x)]) (fun k=>k=c) n₀ (fun xs=>xs=wV (un s)) (fun pre=>pre <+: wV (un s)) w:=fun l J Jx W hW hJ hJx hY h0=>by
 have hB0:Boxed W c 9 (.string s):=(hW.block c hb.lt).trans hb;have hWs:=hW.size;have e1:=(hB0.alloc (.cells #[.func (.yield l) #[] #[]] 25)).cell;refine callsIn_of_wp_marks Tryz.func138 rfl trivial ?_ rfl;simp only [Tryz.ntmps138,List.size_toArray,List.length_cons,List.length_nil,Nat.reduceAdd,Nat.reduceSub,Array.replicate_succ,Array.replicate_zero,List.push_toArray,List.append_toArray,List.nil_append,List.cons_append]
 gi_wp2
 refine ⟨trivial,?_⟩;refine (callsIn_wide.2 (qp s 44 _)).mono ?_;rintro e w1 ⟨rfl,rfl⟩
 gi_wp2
 obtain ⟨W5,hW5⟩:=KZ6 (uC (W.alloc (.cells #[.func (.yield l) #[] #[]] 25)) s 44);have hS5:W5.heap.size=W.heap.size+4:=by rw [hW5,sN];simp
 have hB5:Below W.heap.size W W5:=by rw [hW5];exact ((Below.refl _ W).alloc (Nat.le_refl _) _).trans ((uh _ _ _).mono (by simp))
 have cz:Boxed W5 W.heap.size 25 (.func (.yield l) #[] #[]):=by
  rw [hW5];have h1:=Boxed.new W 25 (.func (.yield l) #[] #[]);exact ((uh (W.alloc (.cells #[.func (.yield l) #[] #[]] 25)) s 44).block _ (by simp)).trans h1
 have ct:=jS (W.alloc (.cells #[.func (.yield l) #[] #[]] 25)) s 44;have cs:=jT (W.alloc (.cells #[.func (.yield l) #[] #[]] 25)) s 44;have co:=jR (W.alloc (.cells #[.func (.yield l) #[] #[]] 25)) s 44;simp only [World.size_alloc] at ct cs co;rw [←hW5] at ct cs co ⊢;clear hW5 e1;obtain ⟨z,hz⟩:=KZ6 W.heap.size;simp only [←hz] at hS5 hB5 cz ct cs co ⊢;have hnz:n₀≤z:=by omega
 have HZ:=KZ9 hz;clear hz;rw [show z+1+1=z+2 from rfl] at cs;rw [show z+1+2=z+3 from rfl] at co;rw [show z+1+2=z+3 from rfl,show z+1+1=z+2 from rfl];have hent:=fun (a:Act) ps asg bd=>tf (F:=Fence.wide) (P:=Tryz.prog) rfl W5 a ps asg bd;rw [hS5] at hent;have hmix:Tryz.prog.follows .mixedOrders=true:=by kernel_rfl
 have hYA:∀ (m:Nat) (pre:List Bs) (x:Bs) (G:Nat→Prop) (W1:World),J pre G W1→pre++[x] <+: wV (un s)→YieldAt Fence.wide m Tryz.prog l #[.string (mk x)] W1 fun e W'=>(e= .returned (.bool true)∧J (pre++[x]) G W'∧Keeps (fun k=>G k∨k<n₀) W1 W')∨(e= .returned (.bool false)∧Jx (pre++[x]) G W'∧Keeps (fun k=>G k∨k<n₀) W1 W') :=
  fun m pre x G W1 h1 h2=>YieldAt.anyDepth rfl m (hY pre x G W1 h1 h2)
 have HYA:=KZ9 hYA;clear hY hYA;refine tC (w₁:=W5.alloc (.deferred (some []))) (L:=z+5) (by omega) (by simp;omega) (hent _ _ _ _) (gf:=180) (lb:=#[.pointer (some ⟨z+2,0,none⟩),.pointer (some ⟨z+1,0,none⟩),.pointer (some ⟨z+3,0,none⟩)]) rfl trivial (enters_of Tryz.func180 (by kernel_rfl) rfl)
  (pA 7 (z+2) (z+1) (z+3) n₀ 44 s W5 (by omega) cs ct co (by omega) (by omega) (by omega)) ((Below.refl _ W5).alloc (Nat.le_refl _) _) (fun _=>rfl) (by omega) (by omega)
  (DInv J z l) (DOut Jx z (wV (un s))) (fun _ _ _ _ _ h hg hr=>h.turn hJ hg hr) (fun _ _ _ _ h hg=>h.lay hJ hg) (fun _ _ _ _ _ _ h hg hr=>h.turn hJx hg hr) (fun _ _ _ _ _ h hg=>h.lay hJx hg) ?start
  (fun x a' W'=>a'={ tmps:=#[.func (.yield l) #[] #[],.pointer (some ⟨c,0,none⟩),.pointer (some ⟨z,0,none⟩),.string (mk x),undef,undef,.string s,(.func (.func 180) #[] #[.pointer (some ⟨z+2,0,none⟩),.pointer (some ⟨z+1,0,none⟩),.pointer (some ⟨z+3,0,none⟩)]),.string (mk x),undef,undef,undef,undef,undef,undef,undef,undef,undef,undef,undef,undef,undef,undef,undef,undef,undef],defers:=[] }) (fun _ _ _ _ _ h _ _=>h) ?assign ?body ?done ?stop
 case start =>
  intro o;have hg:W.grownBy ((W5.alloc (.deferred (some []))).alloc o) none:=yt (by rw [←HZ.out];exact (hB5.alloc (by omega) _).alloc (by simp;omega) _);have hd:=World.alloc_heap_new W5 (.deferred (some []));rw [hS5] at hd;have hsz:((W5.alloc (.deferred (some []))).alloc o).heap.size=z+6:=by simp [hS5]
  have hzW:=Nat.le_of_eq HZ.out;have hWz:=Nat.le_of_eq HZ.out.symm;refine ⟨_,hJ.lay _ _ _ _ h0 hg,?_,.inr (by omega),.inr (by omega),.inr (by omega),(cz.alloc _).alloc _,(Below.heap_alloc _ o _ (by simp;omega)).trans hd⟩;rintro k (rfl | rfl | rfl)<;>exact ⟨.inr (by omega),by omega,by omega⟩
 case assign =>
  intro pre x G W' K hI hsp hK
  gi_wp2
  exact hK _ _ rfl (Keeps.refl _ _) hI rfl
 case body =>
  rintro pre p G a' Wy ⟨r0,hr0⟩ hI rfl ⟨post,hpost⟩;have hpl:p.length≤100000:=by
   have:=yJ 44 (un s) p (by rw [←hpost];simp);rw [zb] at this;omega
  obtain ⟨GJ,j1,j2,j3,j4,j5,j6,j7⟩:=hI;have hzy:z+5<Wy.heap.size:=(Array.getElem?_eq_some_iff.1 hr0).1
  gi_wp2
  refine ⟨trivial,?_⟩;refine (CallsIn.inRound _ (callsIn_wide.2 (qp (mk p) 59 _))).mono ?_;rintro e w1 ⟨rfl,rfl⟩
  gi_wp2
  have cy:=jS Wy (mk p) 59;have cys:=jT Wy (mk p) 59;have cyo:=jR Wy (mk p) 59;have hBy:=uh Wy (mk p) 59;have hSy:=sN Wy (mk p) 59;generalize uC Wy (mk p) 59=W6 at *;have hrec:W6.heap[z+5]? =some (.loop r0):=(hBy.block _ hzy).trans hr0;have hent2:=fun (a:Act) ps asg bd=>WE (F:=Fence.wide.inRound (z+5)) (P:=Tryz.prog) rfl W6 hrec a ps asg bd;rw [hSy] at hent2;refine tC (F:=Fence.wide.inRound (z+5)) (w₁:=W6) (L:=Wy.heap.size+3) (by omega) hSy.symm (hent2 _ _ _ _) (gf:=180) (lb:=#[.pointer (some ⟨Wy.heap.size+1,0,none⟩),.pointer (some ⟨Wy.heap.size,0,none⟩),.pointer (some ⟨Wy.heap.size+2,0,none⟩)]) rfl trivial (enters_of Tryz.func180 (by kernel_rfl) rfl)
   (Seq.inRound _ (pA 5 (Wy.heap.size+1) Wy.heap.size (Wy.heap.size+2) n₀ 59 (mk p) W6 (by omega) cys cy cyo (by omega) (by omega) (by rw [zh];omega))) (Below.refl _ W6) (fun _=>rfl) (by omega) (by omega)
   (EInv J n₀ Wy GJ (pre.flatMap wF)) (EOut Jx n₀ Wy GJ (wV (un s))) (fun _ _ _ _ _ h hg hr=>h.turn hJ hg hr) (fun _ _ _ _ h hg=>h.lay hJ hg) (fun _ _ _ _ _ _ h hg hr=>h.turn hJx hg hr) (fun _ _ _ _ _ h hg=>h.lay hJx hg) ?start2
   (fun x a' W'=>a'={ tmps:=#[.func (.yield l) #[] #[],.pointer (some ⟨c,0,none⟩),.pointer (some ⟨z,0,none⟩),.string (mk p),.string (mk x),undef,.string s,(.func (.func 180) #[] #[.pointer (some ⟨z+2,0,none⟩),.pointer (some ⟨z+1,0,none⟩),.pointer (some ⟨z+3,0,none⟩)]),.string (mk p),.string (mk p),(.func (.func 180) #[] #[.pointer (some ⟨Wy.heap.size+1,0,none⟩),.pointer (some ⟨Wy.heap.size,0,none⟩),.pointer (some ⟨Wy.heap.size+2,0,none⟩)]),.string (mk x),undef,undef,undef,undef,undef,undef,undef,undef,undef,undef,undef,undef,undef,undef],defers:=[] }) (fun _ _ _ _ _ h _ _=>h) ?assign2 ?body2 ?done2 ?stop2
  case start2 =>
   intro o;have hg:Wy.grownBy (W6.alloc o) none:=yt (hBy.alloc (by omega) _);have hsz:(W6.alloc o).heap.size=Wy.heap.size+4:=by simp [hSy]
   refine ⟨(fun k=>GJ k∨(Wy.heap.size≤k∧k<(W6.alloc o).heap.size)),by simpa using hJ.lay _ _ _ _ j1 hg,fun k h=>Or.inl h,?_,Or.inr (by omega),Keeps.of_grown hg (fun r e=>by cases e)⟩;rintro k (rfl | rfl | rfl)<;>exact ⟨Or.inr (by omega),by omega⟩
  case assign2 =>
   intro pre2 x G2 W' K hI hsp hK
   gi_wp2
   exact hK _ _ rfl (Keeps.refl _ _) hI rfl
  case body2 =>
   rintro pre2 d G2 a' W2 ⟨r2,hr2⟩ hI2 rfl ⟨post2,hpost2⟩;have hBy2:Boxed W2 z 25 (.func (.yield l) #[] #[]):=by obtain ⟨_,_,_,_,_,k5⟩:=hI2;exact (k5.block z (by omega) (.inl j3)).trans j6
   have hdl:d.length≤100000:=by
    have:=yJ 59 (un (mk p)) d (by rw [←hpost2];simp);rw [zj] at this;omega
   rw [zj] at hpost2;have hpre:=KZ9 (Y2 (un s) pre post p pre2 post2 d);have HP1:=KZ9 hpost;have HP2:=KZ9 hpost2;clear hpost hpost2;have hword:=Vf (mk d) W2 (by rw [zh];omega);rw [zj] at hword;have hy3:Wy.heap.size+3<W2.heap.size:=(Array.getElem?_eq_some_iff.1 hr2).1;have hhd:∀ (x:Bs) (r:List Bs),sD d=x::r→vr d=[zt x]∧x.length≤d.length:=fun x r e=>⟨by unfold vr;rw [e],(Zd d x (by rw [e];simp)).2.2⟩;have hhn:sD d=[]→vr d=[]:=fun e=>by unfold vr;rw [e]
   have HHD:=KZ9 hhd;have HHN:=KZ9 hhn;clear hhd hhn
   gi_wp2
   refine ⟨trivial,?_⟩;refine (CallsIn.inRound _ (CallsIn.inRound _ (callsIn_wide.2 hword))).mono ?_;rintro e w1 ⟨v1,rfl,hown,hlen,hb1⟩;have hI3:=hI2.turn hJ (yt hb1) (fun r e=>by cases e);have hL3:w1.heap[Wy.heap.size+3]? =W2.heap[Wy.heap.size+3]? :=hb1.block _ hy3;have hb1s:=hb1.size;have hBy3:Boxed w1 z 25 (.func (.yield l) #[] #[]):=hBy2.kept (yt hb1) (by simp);have hK1:Keeps (fun k=>G2 k∨k<n₀) W2 w1:=Keeps.of_grown (yt hb1) (fun r e=>by cases e);clear hI2 hword hBy2 hb1;obtain ⟨a1,c1,rfl,h2,h3,h4⟩:=(Row.owned hown).2;clear hown hlen;cases hwd:sD d with
   | nil =>
    have hhn:=HHN.out hwd;simp only [List.length_nil] at h2 h3 h4 ⊢;clear hwd h4
    gi_wp2
    refine uV (F:=Fence.wide) rfl hmix (by kernel_rfl) ?_;refine wpAnyIn_take (i:=0) (v:= .slice a1 0 c1) rfl rfl (by kernel_rfl) (by kernel_rfl) (by kernel_rfl) (fun _ _ _ h=>h) ⟨Or.inl ⟨by rfl,by intro w;go_simp⟩,fun _=>rfl⟩ ?_;refine wpAnyIn_take (i:=1) (v:= .int .i64 0) rfl rfl (by kernel_rfl) (by kernel_rfl) (by kernel_rfl) (fun _ _ _ h=>h) ⟨Or.inl ⟨by rfl,by intro w;go_simp⟩,fun _=>rfl⟩ ?_;refine wpAnyIn_take (i:=2) (v:= .bool false) rfl rfl (by kernel_rfl) (by kernel_rfl) (by kernel_rfl) (fun _ _ _ h=>h) ⟨Or.inl ⟨by rfl,by intro w;go_simp⟩,fun _=>rfl⟩ ?_;refine wpAnyIn_take (i:=3) (v:= .bool false) rfl rfl (by kernel_rfl) (by kernel_rfl) (by kernel_rfl) (fun _ _ _ h=>h) ⟨Or.inl ⟨by rfl,by intro w;go_simp⟩,fun _=>rfl⟩ ?_;refine wpAnyIn_take (i:=4) (v:=undef) rfl rfl (by kernel_rfl) (by kernel_rfl) (by kernel_rfl) (fun _ _ _ h=>h) ⟨Or.inr ⟨by rfl,rfl⟩,fun _=>rfl⟩ ?_
    refine wpAnyIn_take (i:=5) (v:=undef) rfl rfl (by kernel_rfl) (by kernel_rfl) (by kernel_rfl) (fun _ _ _ h=>h) ⟨Or.inr ⟨by rfl,rfl⟩,fun _=>rfl⟩ ?_;refine wpAnyIn_take (i:=6) (v:=undef) rfl rfl (by kernel_rfl) (by kernel_rfl) (by kernel_rfl) (fun _ _ _ h=>h) ⟨Or.inr ⟨by rfl,rfl⟩,fun _=>rfl⟩ ?_;refine wpAnyIn_take (i:=7) (v:=undef) rfl rfl (by kernel_rfl) (by kernel_rfl) (by kernel_rfl) (fun _ _ _ h=>h) ⟨Or.inr ⟨by rfl,rfl⟩,fun _=>rfl⟩ ?_;refine wpAnyIn_ready (rs:=[8]) (by kernel_rfl) (by simp) ?_;refine AllReadyIn.cons rfl (fun K hK=> ?_) (AllReadyIn.nil);go_simp
    refine ⟨trivial,hK _ _ ?_⟩;clear hK K;refine wpAnyIn_ready (rs:=[9]) (by kernel_rfl) (by simp) ?_;refine AllReadyIn.cons rfl (fun K hK=> ?_) (AllReadyIn.nil);go_simp
    refine ⟨fun _ _=>trivial,hK _ _ ?_⟩;clear hK K;refine wpAnyIn_take (i:=10) (v:=undef) rfl rfl (by kernel_rfl) (by kernel_rfl) (by kernel_rfl) (fun _ _ _ h=>h) ⟨Or.inr ⟨by rfl,rfl⟩,fun _=>rfl⟩ ?_;refine wpAnyIn_take (i:=11) (v:= .bool false) rfl rfl (by kernel_rfl) (by kernel_rfl) (by kernel_rfl) (fun _ _ _ h=>h) ⟨Or.inl ⟨by rfl,by intro w;go_simp⟩,fun _=>rfl⟩ ?_;refine wpAnyIn_done (by kernel_rfl) ?_ _
    gi_wp2
    exact (show _∧_∧_ from ⟨hL3,hK1.trans (Keeps.of_grown (row:=none) (B:=w1.drew) ⟨rfl,rfl,rfl,Nat.le_refl _,fun _ _ _=>rfl⟩ (fun r e=>by cases e)),by
     have:=hI3.turn (row:=none) (B:=w1.drew) hJ ⟨rfl,rfl,rfl,Nat.le_refl _,fun _ _ _=>rfl⟩ (fun r e=>by cases e);unfold EInv at this ⊢;rw [List.flatMap_append,List.flatMap_cons,hhn,List.flatMap_nil,List.append_nil,List.append_nil];exact this⟩)
   | cons x rest =>
    obtain ⟨hhd,hxl⟩:=HHD.out x rest hwd;rw [hwd] at h2 h4;obtain ⟨b,off,rfl,hbw,hcell⟩:=h4.resolve_left (by simp);have c0:=hcell 0 (.string (mk x)) rfl;rw [Nat.add_zero] at c0;obtain ⟨nn,hnn⟩:=KZ6 ((x::rest).length);have hnn1:0<nn:=by rw [hnn];simp
    rw [←hnn] at h2 ⊢;clear hcell hwd hnn h4;have hlow:=fun W=>ti (mk x) W (by rw [zh];omega);simp only [zj] at hlow;have HLOW:=KZ9 hlow;clear hlow;have hn1:(0:Int)<(nn:Int):=by omega
    have HPRE:=KZ9 (hpre.out (zt x) HP1.out HP2.out hhd);have HE1:Hid ((pre.flatMap wF++pre2.flatMap vr)++[zt x]=pre.flatMap wF++(pre2++[d]).flatMap vr):=KZ9 (by simp [hhd]);clear hhd hpre;have ez:=hBy3.cell
    gi_wp2
    refine uV (F:=Fence.wide) rfl hmix (by kernel_rfl) ?_;refine wpAnyIn_take (i:=0) (v:= .slice (some ⟨b,off,none⟩) nn c1) rfl rfl (by kernel_rfl) (by kernel_rfl) (by kernel_rfl) (fun _ _ _ h=>h) ⟨Or.inl ⟨by rfl,by intro w;go_simp;all_goals (try (rw [IntKind.wrap_i64];omega))⟩,fun _=>rfl⟩ ?_;refine wpAnyIn_take (i:=1) (v:= .int .i64 (nn:Int)) rfl rfl (by kernel_rfl) (by kernel_rfl) (by kernel_rfl) (fun _ _ _ h=>h) ⟨Or.inl ⟨by rfl,by intro w;go_simp;all_goals (try (rw [IntKind.wrap_i64];omega))⟩,fun _=>rfl⟩ ?_;refine wpAnyIn_take (i:=2) (v:= .bool true) rfl rfl (by kernel_rfl) (by kernel_rfl) (by kernel_rfl) (fun _ _ _ h=>h) ⟨Or.inl ⟨by rfl,by intro w;go_simp;all_goals (try (rw [IntKind.wrap_i64];omega))⟩,fun _=>rfl⟩ ?_
    refine wpAnyIn_take (i:=3) (v:= .bool true) rfl rfl (by kernel_rfl) (by kernel_rfl) (by kernel_rfl) (fun _ _ _ h=>h) ⟨Or.inl ⟨by rfl,by intro w;go_simp;all_goals (try (rw [IntKind.wrap_i64];omega))⟩,fun _=>rfl⟩ ?_;refine wpAnyIn_take (i:=5) (v:= .slice (some ⟨b,off,none⟩) nn c1) rfl rfl (by kernel_rfl) (by kernel_rfl) (by kernel_rfl) (fun _ _ _ h=>h) ⟨Or.inl ⟨by rfl,by intro w;go_simp;all_goals (try (rw [IntKind.wrap_i64];omega))⟩,fun _=>rfl⟩ ?_;refine wpAnyIn_take (i:=6) (v:= .pointer (some ⟨b,off,none⟩)) rfl rfl (by kernel_rfl) (by kernel_rfl) (by kernel_rfl) (fun _ _ _ h=>h) ⟨Or.inl ⟨by rfl,by intro w;go_simp;all_goals (try (rw [IntKind.wrap_i64];omega))⟩,fun _=>rfl⟩ ?_;refine wpAnyIn_ready (rs:=[4,7]) (by kernel_rfl) (by simp) ?_;refine AllReadyIn.cons rfl (fun K hK=> ?_) (AllReadyIn.cons rfl (fun K hK=> ?_) AllReadyIn.nil)
    ·go_simp
     refine hK _ _ ?_;clear hK K;refine wpAnyIn_ready (rs:=[7]) (by kernel_rfl) (by simp) ?_;refine AllReadyIn.cons rfl (fun K hK=> ?_) AllReadyIn.nil;go_simp
     refine hK _ _ ?_;clear hK K;refine wpAnyIn_ready (rs:=[8]) (by kernel_rfl) (by simp) ?_;refine AllReadyIn.cons rfl (fun K hK=> ?_) AllReadyIn.nil;go_simp
     refine ⟨trivial,?_⟩;refine (callsIn_wide.2 (HLOW.out _)).mono ?_;rintro e w2 ⟨rfl,hb2⟩;have hg2:w1.grownBy w2 none:=⟨hb2.os,hb2.tape,hb2.output,hb2.size,fun k hk _=>hb2.block k hk⟩;have hI4:=hI3.turn hJ hg2 (fun r e=>by cases e);have hL4:w2.heap[Wy.heap.size+3]? =W2.heap[Wy.heap.size+3]? :=(hg2.block _ (by omega) (by simp)).trans hL3;have hb2s:w1.heap.size≤w2.heap.size:=hg2.size;have hK2:Keeps (fun k=>G2 k∨k<n₀) W2 w2:=hK1.trans (Keeps.of_grown hg2 (fun r e=>by cases e));have ez2:=(hBy3.kept hg2 (by simp)).cell;obtain ⟨GK,k1,k2,k3,k4,k5⟩:=hI4;obtain ⟨fn,tmps,assign,body,hy,hR⟩:=HYA.out (8 - 1 - 1 - 1 - 1 - 1) _ (zt x) GK w2 k1 HPRE.out;refine hK _ _ ?_;clear hK K;refine wpAnyIn_ready (rs:=[9]) (by kernel_rfl) (by simp) ?_;refine AllReadyIn.cons rfl (fun K hK=> ?_) AllReadyIn.nil;go_simp
     refine hR.mono ?_;rintro e W3 (⟨rfl,hJ3,hk3⟩ | ⟨rfl,hJx3,hk3⟩)
     ·refine hK _ _ ?_;clear hK K;refine wpAnyIn_take (i:=10) (v:= .bool false) rfl rfl (by kernel_rfl) (by kernel_rfl) (by kernel_rfl) (fun _ _ _ h=>h) ⟨Or.inl ⟨by rfl,by intro w;go_simp;all_goals (try (rw [IntKind.wrap_i64];omega))⟩,fun _=>rfl⟩ ?_;refine wpAnyIn_take (i:=11) (v:= .bool false) rfl rfl (by kernel_rfl) (by kernel_rfl) (by kernel_rfl) (fun _ _ _ h=>h) ⟨Or.inl ⟨by rfl,by intro w;go_simp;all_goals (try (rw [IntKind.wrap_i64];omega))⟩,fun _=>rfl⟩ ?_;refine wpAnyIn_done (by kernel_rfl) ?_ _
      gi_wp2
      exact (show _∧_∧_ from ⟨(hk3.block (Wy.heap.size+3) (by omega) (.inl k4)).trans hL4,hK2.trans (hk3.mono (fun k h=>h.imp (fun h=>(k3 k h).1) id)),GK,HE1.out▸hJ3,k2,k3,k4,k5.trans (hk3.mono (fun k h=>h.imp (k2 k) id))⟩)
     refine hK _ _ ?_;clear hK K;refine wpAnyIn_take (i:=10) (v:= .bool true) rfl rfl (by kernel_rfl) (by kernel_rfl) (by kernel_rfl) (fun _ _ _ h=>h) ⟨Or.inl ⟨by rfl,by intro w;go_simp;all_goals (try (rw [IntKind.wrap_i64];omega))⟩,fun _=>rfl⟩ ?_;refine wpAnyIn_take (i:=11) (v:= .bool true) rfl rfl (by kernel_rfl) (by kernel_rfl) (by kernel_rfl) (fun _ _ _ h=>h) ⟨Or.inl ⟨by rfl,by intro w;go_simp;all_goals (try (rw [IntKind.wrap_i64];omega))⟩,fun _=>rfl⟩ ?_;refine wpAnyIn_done (by kernel_rfl) ?_ _
     gi_wp2
     exact (show _∧_∧_ from ⟨(hk3.block (Wy.heap.size+3) (by omega) (.inl k4)).trans hL4,hK2.trans (hk3.mono (fun k h=>h.imp (fun h=>(k3 k h).1) id)),rfl,GK,_,hJx3,HPRE.out,k2,k3,k4,k5.trans (hk3.mono (fun k h=>h.imp (k2 k) id))⟩)
    go_simp
    refine hK _ _ ?_;clear hK K;refine wpAnyIn_ready (rs:=[4,8]) (by kernel_rfl) (by simp) ?_;refine AllReadyIn.cons rfl (fun K hK=> ?_) (AllReadyIn.cons rfl (fun K hK=> ?_) AllReadyIn.nil)
    ·go_simp
     refine hK _ _ ?_;clear hK K;refine wpAnyIn_ready (rs:=[8]) (by kernel_rfl) (by simp) ?_;refine AllReadyIn.cons rfl (fun K hK=> ?_) AllReadyIn.nil;go_simp
     refine ⟨trivial,?_⟩;refine (callsIn_wide.2 (HLOW.out _)).mono ?_;rintro e w2 ⟨rfl,hb2⟩;have hg2:w1.grownBy w2 none:=⟨hb2.os,hb2.tape,hb2.output,hb2.size,fun k hk _=>hb2.block k hk⟩;have hI4:=hI3.turn hJ hg2 (fun r e=>by cases e);have hL4:w2.heap[Wy.heap.size+3]? =W2.heap[Wy.heap.size+3]? :=(hg2.block _ (by omega) (by simp)).trans hL3;have hb2s:w1.heap.size≤w2.heap.size:=hg2.size;have hK2:Keeps (fun k=>G2 k∨k<n₀) W2 w2:=hK1.trans (Keeps.of_grown hg2 (fun r e=>by cases e));have ez2:=(hBy3.kept hg2 (by simp)).cell;obtain ⟨GK,k1,k2,k3,k4,k5⟩:=hI4;obtain ⟨fn,tmps,assign,body,hy,hR⟩:=HYA.out (8 - 1 - 1 - 1 - 1 - 1) _ (zt x) GK w2 k1 HPRE.out;refine hK _ _ ?_;clear hK K;refine wpAnyIn_ready (rs:=[9]) (by kernel_rfl) (by simp) ?_;refine AllReadyIn.cons rfl (fun K hK=> ?_) AllReadyIn.nil;go_simp
     refine hR.mono ?_;rintro e W3 (⟨rfl,hJ3,hk3⟩ | ⟨rfl,hJx3,hk3⟩)
     ·refine hK _ _ ?_;clear hK K;refine wpAnyIn_take (i:=10) (v:= .bool false) rfl rfl (by kernel_rfl) (by kernel_rfl) (by kernel_rfl) (fun _ _ _ h=>h) ⟨Or.inl ⟨by rfl,by intro w;go_simp;all_goals (try (rw [IntKind.wrap_i64];omega))⟩,fun _=>rfl⟩ ?_;refine wpAnyIn_take (i:=11) (v:= .bool false) rfl rfl (by kernel_rfl) (by kernel_rfl) (by kernel_rfl) (fun _ _ _ h=>h) ⟨Or.inl ⟨by rfl,by intro w;go_simp;all_goals (try (rw [IntKind.wrap_i64];omega))⟩,fun _=>rfl⟩ ?_;refine wpAnyIn_done (by kernel_rfl) ?_ _
      gi_wp2
      exact (show _∧_∧_ from ⟨(hk3.block (Wy.heap.size+3) (by omega) (.inl k4)).trans hL4,hK2.trans (hk3.mono (fun k h=>h.imp (fun h=>(k3 k h).1) id)),GK,HE1.out▸hJ3,k2,k3,k4,k5.trans (hk3.mono (fun k h=>h.imp (k2 k) id))⟩)
     refine hK _ _ ?_;clear hK K;refine wpAnyIn_take (i:=10) (v:= .bool true) rfl rfl (by kernel_rfl) (by kernel_rfl) (by kernel_rfl) (fun _ _ _ h=>h) ⟨Or.inl ⟨by rfl,by intro w;go_simp;all_goals (try (rw [IntKind.wrap_i64];omega))⟩,fun _=>rfl⟩ ?_;refine wpAnyIn_take (i:=11) (v:= .bool true) rfl rfl (by kernel_rfl) (by kernel_rfl) (by kernel_rfl) (fun _ _ _ h=>h) ⟨Or.inl ⟨by rfl,by intro w;go_simp;all_goals (try (rw [IntKind.wrap_i64];omega))⟩,fun _=>rfl⟩ ?_;refine wpAnyIn_done (by kernel_rfl) ?_ _
     gi_wp2
     exact (show _∧_∧_ from ⟨(hk3.block (Wy.heap.size+3) (by omega) (.inl k4)).trans hL4,hK2.trans (hk3.mono (fun k h=>h.imp (fun h=>(k3 k h).1) id)),rfl,GK,_,hJx3,HPRE.out,k2,k3,k4,k5.trans (hk3.mono (fun k h=>h.imp (k2 k) id))⟩)
    go_simp
    refine ⟨trivial,?_⟩;refine (callsIn_wide.2 (HLOW.out _)).mono ?_;rintro e w2 ⟨rfl,hb2⟩;have hg2:w1.grownBy w2 none:=⟨hb2.os,hb2.tape,hb2.output,hb2.size,fun k hk _=>hb2.block k hk⟩;have hI4:=hI3.turn hJ hg2 (fun r e=>by cases e);have hL4:w2.heap[Wy.heap.size+3]? =W2.heap[Wy.heap.size+3]? :=(hg2.block _ (by omega) (by simp)).trans hL3;have hb2s:w1.heap.size≤w2.heap.size:=hg2.size;have hK2:Keeps (fun k=>G2 k∨k<n₀) W2 w2:=hK1.trans (Keeps.of_grown hg2 (fun r e=>by cases e));have ez2:=(hBy3.kept hg2 (by simp)).cell;obtain ⟨GK,k1,k2,k3,k4,k5⟩:=hI4;obtain ⟨fn,tmps,assign,body,hy,hR⟩:=HYA.out (8 - 1 - 1 - 1 - 1 - 1) _ (zt x) GK w2 k1 HPRE.out;refine hK _ _ ?_;clear hK K;refine wpAnyIn_ready (rs:=[4]) (by kernel_rfl) (by simp) ?_;refine AllReadyIn.cons rfl (fun K hK=> ?_) AllReadyIn.nil;go_simp
    refine hK _ _ ?_;clear hK K;refine wpAnyIn_ready (rs:=[9]) (by kernel_rfl) (by simp) ?_;refine AllReadyIn.cons rfl (fun K hK=> ?_) AllReadyIn.nil;go_simp
    refine hR.mono ?_;rintro e W3 (⟨rfl,hJ3,hk3⟩ | ⟨rfl,hJx3,hk3⟩)
    ·refine hK _ _ ?_;clear hK K;refine wpAnyIn_take (i:=10) (v:= .bool false) rfl rfl (by kernel_rfl) (by kernel_rfl) (by kernel_rfl) (fun _ _ _ h=>h) ⟨Or.inl ⟨by rfl,by intro w;go_simp;all_goals (try (rw [IntKind.wrap_i64];omega))⟩,fun _=>rfl⟩ ?_;refine wpAnyIn_take (i:=11) (v:= .bool false) rfl rfl (by kernel_rfl) (by kernel_rfl) (by kernel_rfl) (fun _ _ _ h=>h) ⟨Or.inl ⟨by rfl,by intro w;go_simp;all_goals (try (rw [IntKind.wrap_i64];omega))⟩,fun _=>rfl⟩ ?_;refine wpAnyIn_done (by kernel_rfl) ?_ _
     gi_wp2
     exact (show _∧_∧_ from ⟨(hk3.block (Wy.heap.size+3) (by omega) (.inl k4)).trans hL4,hK2.trans (hk3.mono (fun k h=>h.imp (fun h=>(k3 k h).1) id)),GK,HE1.out▸hJ3,k2,k3,k4,k5.trans (hk3.mono (fun k h=>h.imp (k2 k) id))⟩)
    refine hK _ _ ?_;clear hK K;refine wpAnyIn_take (i:=10) (v:= .bool true) rfl rfl (by kernel_rfl) (by kernel_rfl) (by kernel_rfl) (fun _ _ _ h=>h) ⟨Or.inl ⟨by rfl,by intro w;go_simp;all_goals (try (rw [IntKind.wrap_i64];omega))⟩,fun _=>rfl⟩ ?_;refine wpAnyIn_take (i:=11) (v:= .bool true) rfl rfl (by kernel_rfl) (by kernel_rfl) (by kernel_rfl) (fun _ _ _ h=>h) ⟨Or.inl ⟨by rfl,by intro w;go_simp;all_goals (try (rw [IntKind.wrap_i64];omega))⟩,fun _=>rfl⟩ ?_;refine wpAnyIn_done (by kernel_rfl) ?_ _
    gi_wp2
    exact (show _∧_∧_ from ⟨(hk3.block (Wy.heap.size+3) (by omega) (.inl k4)).trans hL4,hK2.trans (hk3.mono (fun k h=>h.imp (fun h=>(k3 k h).1) id)),rfl,GK,_,hJx3,HPRE.out,k2,k3,k4,k5.trans (hk3.mono (fun k h=>h.imp (k2 k) id))⟩)
  case done2 =>
   rintro xs G2 W' rfl ⟨GK,k1,k2,k3,k4,k5⟩;have e1:(pre++[p]).flatMap wF=pre.flatMap wF++(zi 59 (un (mk p))).flatMap vr:=by rw [zj];simp [wF]
   rw [←e1] at k1;clear e1
   gi_wp2
   exact (show _∧_∧_ from ⟨k5.block _ hzy (.inl j5),k5.mono (fun k h=>h.imp (fun h=>(j2 k h).1) id),GK,k1,fun k h=>⟨k2 k (j2 k h).1,(j2 k h).2⟩,k2 _ j3,k2 _ j4,k2 _ j5,(k5.block z (by omega) (.inl j3)).trans j6,(k5.block _ (by omega) (.inl j4)).trans j7⟩)
  case stop2 =>
   rintro c2 pre2 G2 W' _ ⟨rfl,GK,q,k1,hq,k2,k3,k4,k5⟩
   gi_wp2
   exact (show _∧_∧_ from ⟨k5.block _ hzy (.inl j5),k5.mono (fun k h=>h.imp (fun h=>(j2 k h).1) id),rfl,GK,q,k1,hq,fun k h=>⟨k2 k (j2 k h).1,(j2 k h).2⟩,k2 _ j4,k2 _ j5,(k5.block _ (by omega) (.inl j4)).trans j7⟩)
 case done =>
  rintro xs G W' rfl ⟨GJ,j1,j2,j3,j4,j5,j6,j7⟩
  gi_wp2
  refine ⟨by simp,.inl ⟨_,_,rfl,run_takeDeferred j7,?_⟩⟩;exact ⟨_,results_none rfl _ _ _,⟨_,rfl⟩,.inl ⟨_,GJ,rfl,hJ.turn _ _ _ _ _ j1 (grownBy_putObj' _ (z+4) (.deferred none)) (fun r e=>by cases e;exact j4)⟩⟩
 case stop =>
  rintro c2 pre G W' _ ⟨rfl,GJ,q,j1,hq,j2,j4,j5,j7⟩
  gi_wp2
  refine ⟨by simp,.inl ⟨_,_,rfl,run_takeDeferred j7,?_⟩⟩;exact ⟨_,results_none rfl _ _ _,⟨_,rfl⟩,.inr ⟨_,GJ,hq,hJx.turn _ _ _ _ _ j1 (grownBy_putObj' _ (z+4) (.deferred none)) (fun r e=>by cases e;exact j4)⟩⟩
end Go.Proofs.YtjbciamhhfcdoaaGreatDoor
namespace Go.Proofs.YtjbciamhhfcdoaaGreatDoor
open Go.RowKit Go.Maps Hs
def wP (v:Value):Option (DataW Unit × List MemPlace):=match v with
 | .bool b=>some (.lit (.bool b),[])
 | _=>none
theorem Xf {v:Value} {b:Bool} {ps:List MemPlace} (h:wP v=some (.lit (.bool b),ps)):v= .bool b:=by
 unfold wP at h;split at h
 ·simp only [Option.some.injEq,Prod.mk.injEq,DataW.lit.injEq,Lit.bool.injEq] at h;rw [h.1]
 cases h
def pO:List Bs→DataW Unit:=fun l=>l.foldl (fun D n=>D.put (.string n) (.lit (.bool true))) (.map [])
theorem ZI (l:List Bs) (n:Bs):pO (l++[n])=(pO l).put (.string n) (.lit (.bool true)):=by simp [pO,List.foldl_append]
theorem qX (n:Bs):WideAt.IsKeyLit (.string n):=by trivial
theorem Sh (l:List Bs):Tidy (pO l):=by
 have:∀ (l:List Bs) (D:DataW Unit),Tidy D→Tidy (l.foldl (fun D n=>D.put (.string n) (.lit (.bool true))) D):=by
  intro l
  induction l with
  | nil=>intro D h;exact h
  | cons d l ih=>intro D h;exact ih _ (h.put (qX _) _)
 exact this l _ tidy_empty
theorem Wd (n:Bs):∀ l:List Bs,(pO l.reverse).atKey (.string n) (.lit (.bool false))= .lit (.bool (decide (n∈l)))
 | []=>rfl
 | d::l=>by
  rw [List.reverse_cons,ZI];have ih:=Wd n l;by_cases hd:d=n
  ·subst hd;rw [atKey_put_same (Sh _).isMap (qX _)];simp
  have hne:(Lit.string n)≠(Lit.string d):=fun e=>by
   simp only [Lit.string.injEq] at e;exact hd e.symm
  rw [atKey_put_other hne,ih];have e:(n∈d::l)=(n∈l):=by simp only [List.mem_cons,eq_iff_iff];exact ⟨fun h=>h.elim (fun e=>absurd e.symm hd) id,.inr⟩
  simp only [e]
theorem Pv (l:List Bs) (n:Bs):(pO l).atKey (.string n) (.lit (.bool false))= .lit (.bool (decide (n∈l))):=by
 have:=Wd n l.reverse;rw [List.reverse_reverse] at this;rw [this];simp
theorem qz:Keyed Tryz.prog 9:=string_keyed Tryz.underlying9
theorem TB (w:World):(zeroValue 4).run Tryz.prog w= .ok (.bool false) w:=by kernel_rfl
theorem vZ {F:Fence} {nF:Nat} {w:World} {ops:Array Oper} {rest:List Oper} {o:Oper} {a:Act} {Q:Exit→Act→World→Prop} (hg:o.guard=none) (m x:Operand) (hop:o.op=Op.lookup 128 m x false)
  (b n:Nat) (l:List Bs) (hm:a.eval m= .map (some b)) (hown:w.ownsMap Tryz.prog 9 wP b n (pO l)) (s:Bs) (hx:a.eval x= .string (mk s)) (hs:s.length≤maxLen) (ok:Bool) (hok:decide (s∈l)=ok)
  (hK:wpListIn F nF Tryz.prog ops Q rest (a.put o.dst (.bool ok)) w):wpListIn F nF Tryz.prog ops Q (o::rest) a w:=by
 have hkey:keyOf Tryz.prog 9 (.string (mk s))=some (.string s):=by rw [WideMaps.keyOf_string_mk Tryz.underlying9 (by rw [zh];exact hs)];exact congrArg some (congrArg Lit.string (zj s))
 refine wpListIn_plain hg fun K' hK'=> ?_;obtain ⟨v,ps,hrun,hv⟩:=hown.lookup qz Tryz.underlying128 (TB w) (zd:= .lit (.bool false)) (zp:=[]) rfl hkey;rw [Pv,hok] at hv;obtain rfl:=Xf hv;unfold Oper.wpIn;refine ⟨by simp [Oper.about,hop],?_⟩;rw [Oper.semAt_plain F _ _ (by rw [hop];intro c hc';cases hc')];simp [execOp,hop,hm,hx,hrun,Result.andThen];exact hK' _ _ hK
theorem gP {F:Fence} {nF:Nat} (w:World) {ops:Array Oper} {rest:List Oper} {o:Oper} {a:Act} {Q:Exit→Act→World→Prop} (hg:o.guard=none) (m x v:Operand) (hop:o.op=Op.mapUpdate 128 m x v)
  (b n:Nat) (l:List Bs) (hm:a.eval m= .map (some b)) (hown:w.ownsMap Tryz.prog 9 wP b n (pO l)) (hn:n<maxLen) (s:Bs) (hx:a.eval x= .string (mk s)) (hv:a.eval v= .bool true) (hs:s.length≤maxLen)
  (hK:∀ w',w'.ownsMap Tryz.prog 9 wP b (n+1) (pO (l++[s]))→w.grownBy w' (some b)→wpListIn F nF Tryz.prog ops Q rest (a.put o.dst undef) w'):wpListIn F nF Tryz.prog ops Q (o::rest) a w:=by
 have hkey:keyOf Tryz.prog 9 (.string (mk s))=some (.string s):=by rw [WideMaps.keyOf_string_mk Tryz.underlying9 (by rw [zh];exact hs)];exact congrArg some (congrArg Lit.string (zj s))
 exact wpListIn_mapUpdate_own w hg m x v 128 hop 9 4 qz Tryz.underlying128 wP b n (pO l) hm hown hn _ _ (.string s) hx hv hkey (.lit (.bool true)) [] rfl (fun w' h1 h2=>hK w' (by rw [ZI];exact h1) h2)
end Go.Proofs.YtjbciamhhfcdoaaGreatDoor
namespace Go.Proofs.YtjbciamhhfcdoaaGreatDoor
open Go.RowKit Go.Shelf Hs
theorem ut {w:World} {base:Nat} {e:TypeId} {size n:Nat} {v:Value} {xs:List Value} (h:w.ownsRow base e size v n xs):∃ a cap,v= .slice a n cap:=by
 rcases h.2 with ⟨rfl,rfl⟩ | ⟨g,cap,cur,rfl,_⟩
 ·exact ⟨none,0,rfl⟩
 exact ⟨_,cap,rfl⟩
theorem vH {w:World} {base:Nat} {e:TypeId} {size n:Nat} {v:Value} {xs:List Value} {k:Nat} {o:Obj} (hd:w.heap[k]? =some o) (ho:∀ C f,o≠ .cells C e f) (h:w.ownsRow base e size v n xs):v.ownBlock≠some k:=by
 rcases h.2 with ⟨rfl,rfl⟩ | ⟨g,cap,cur,rfl,hb,hg,_⟩
 ·simp [Value.ownBlock]
 intro e;have:g=k:=by simpa [Value.ownBlock] using e
 subst this;rw [hg] at hd;exact ho _ _ (Option.some.inj hd).symm
theorem wZ {v:Value} {r:Option Nat} (h:∀ k,r=some k→v.ownBlock≠some k):v.ownBlock=none∨v.ownBlock≠r:=by
 cases r with
 | none=>cases hv:v.ownBlock<;>simp
 | some k=>exact .inr (h k rfl)
theorem Sd {A B:World} {G:Nat→Prop} {base:Nat} {e:TypeId} {size n:Nat} {v:Value} {xs:List Value} (h:A.ownsRow base e size v n xs) (hk:Keeps G A B) (hg:∀ k,v.ownBlock=some k→G k):B.ownsRow base e size v n xs:=by
 refine ⟨h.1,?_⟩;rcases h.2 with h0 | ⟨g,cap,cur,rfl,hb,hgg,rest⟩
 ·exact .inl h0
 exact .inr ⟨g,cap,cur,rfl,hb,(hk.block g (Array.getElem?_eq_some_iff.1 hgg).1 (hg g rfl)).trans hgg,rest⟩
structure MCore (w:World) (z:Nat) (N:List Bs) (v:Value) (ds:List Nat) (W:World):Prop where
 res:Blk3 W z 98 (.bool false) (.bool false) (.slice none 0 0)
 out:Blk3 W (z+1) 98 (.bool false) (.bool false) v
 row:W.ownsRow z 9 1 v N.length (zy N)
 seen:W.ownsMap Tryz.prog 9 wP (z+2) N.length (pO N)
 box:Boxed W (z+3) 128 (.map (some (z+2)))
 marks:∀ r,r∈ds→z+4≤r∧W.heap[r]? =some (.deferred (some []))
 below:Below z w W
theorem MCore.kept {w:World} {z:Nat} {N:List Bs} {v:Value} {ds:List Nat} {A B:World} {row:Option Nat} (h:MCore w z N v ds A) (hz:z≤w.heap.size) (hg:A.grownBy B row) (hr:∀ r,row=some r→z+4≤r∧r∉ds∧v.ownBlock≠some r):MCore w z N v ds B:=by
 have ne:∀ j,j<z+4→some j≠row:=fun j hj e=>by have:=(hr j e.symm).1;omega
 exact ⟨h.res.grown hg (ne _ (by omega)),h.out.grown hg (ne _ (by omega)),h.row.kept hg (wZ fun k e=>(hr k e).2.2),h.seen.kept hg (ne _ (by omega)),h.box.kept hg (ne _ (by omega)),
  fun r hm=>⟨(h.marks r hm).1,(hg.block r (Array.getElem?_eq_some_iff.1 (h.marks r hm).2).1 (fun e=>(hr r e.symm).2.1 hm)).trans (h.marks r hm).2⟩,h.below.grown hg (Nat.le_trans hz h.below.size) (fun k e=>by have:=(hr k e).1;omega)⟩
theorem MCore.size {w:World} {z:Nat} {N:List Bs} {v:Value} {ds:List Nat} {A:World} (h:MCore w z N v ds A):z+4≤A.heap.size:=h.box.lt
theorem MCore.not_mark {w:World} {z:Nat} {N:List Bs} {v:Value} {ds:List Nat} {A:World} (h:MCore w z N v ds A):∀ r,r∈ds→v.ownBlock≠some r:=fun r hm=>vH (h.marks r hm).2 (fun C f e=>by cases e) h.row
theorem MCore.not_low {w:World} {z:Nat} {N:List Bs} {v:Value} {ds:List Nat} {A:World} (h:MCore w z N v ds A):v.ownBlock≠some z∧v.ownBlock≠some (z+1)∧v.ownBlock≠some (z+2)∧v.ownBlock≠some (z+3) :=
 ⟨vH h.res (fun C f e=>by cases e) h.row,vH h.out (fun C f e=>by cases e) h.row,
  by
   obtain ⟨es,clock,hb,_⟩:=h.seen;exact vH hb (fun C f e=>by cases e) h.row,
  vH h.box (fun C f e=>by cases e) h.row⟩
theorem MCore.mark {w:World} {z D:Nat} {N:List Bs} {v:Value} {ds:List Nat} {A:World} (h:MCore w z N v ds A) (hd:A.heap[D]? =some (.deferred (some []))) (hD:z+4≤D):MCore w z N v (D::ds) A :=
 ⟨h.res,h.out,h.row,h.seen,h.box,fun r hr=>(List.mem_cons.1 hr).elim (fun e=>e▸⟨hD,hd⟩) (fun hr=>h.marks r hr),h.below⟩
def MInv (w:World) (z:Nat) (N0:List Bs) (ds:List Nat) (L:Nat) (pre:List Bs) (G:Nat→Prop) (W:World):Prop :=
 ∃ v,MCore w z (xm N0 pre) v ds W∧∀ k,(G k∨k=L)→k<W.heap.size∧z+4≤k∧k∉ds∧v.ownBlock≠some k
theorem MInv.turn {w:World} {z L:Nat} {N0:List Bs} {ds:List Nat} {pre:List Bs} {G:Nat→Prop} {A B:World} {row:Option Nat} (h:MInv w z N0 ds L pre G A) (hz:z≤w.heap.size) (hg:A.grownBy B row) (hr:∀ r,row=some r→G r∨r=L):MInv w z N0 ds L pre G B:=by
 obtain ⟨v,hc,hk⟩:=h;exact ⟨v,hc.kept hz hg (fun r e=>(hk r (hr r e)).2),fun k h=>⟨by have:=(hk k h).1;have:=hg.size;omega,(hk k h).2⟩⟩
theorem MInv.lay {w:World} {z L:Nat} {N0:List Bs} {ds:List Nat} {pre:List Bs} {G:Nat→Prop} {A B:World} (h:MInv w z N0 ds L pre G A) (hz:z≤w.heap.size) (hg:A.grownBy B none):MInv w z N0 ds L pre (fun k=>G k∨(A.heap.size≤k∧k<B.heap.size)) B:=by
 obtain ⟨v,hc,hk⟩:=h;refine ⟨v,hc.kept hz hg (fun r e=>by cases e),fun k h=> ?_⟩;rcases h with (h | ⟨h3,h4⟩) | h
 ·have:=hg.size;exact ⟨by have:=(hk k (.inl h)).1;omega,(hk k (.inl h)).2⟩
 ·refine ⟨h4,by have:=hc.size;omega,fun hm=> ?_,fun e=> ?_⟩
  ·have:=(Array.getElem?_eq_some_iff.1 (hc.marks k hm).2).1;omega
  have:=(hc.row.lt k e).2;omega
 have:=hg.size;exact ⟨by have:=(hk k (.inr h)).1;omega,(hk k (.inr h)).2⟩
theorem MInv.added {w:World} {z L:Nat} {N0:List Bs} {ds:List Nat} {pre:List Bs} {x:Bs} {G:Nat→Prop} {A A2 A1:World} {v:Value} {o:Obj} {g cap:Nat} (h:MInv w z N0 ds L pre G A) (hz:z≤w.heap.size) (hv:Blk3 A (z+1) 98 (.bool false) (.bool false) v)
  (hx:x∉xm N0 pre) (hm:A2.ownsMap Tryz.prog 9 wP (z+2) ((xm N0 pre).length+1) (pO (xm N0 pre++[x]))) (hgm:A.grownBy A2 (some (z+2)))
  (hown:A1.ownsRow z 9 1 (.slice (some ⟨g,0,none⟩) ((xm N0 pre).length+1) cap) ((xm N0 pre).length+1) (zy (xm N0 pre)++[.string (mk x)])) (hg:(A2.alloc o).grownBy A1 v.ownBlock) (hat:v.ownBlock=some g∨g=(A2.alloc o).heap.size) :
  (A1.setCell ⟨z+1,2,none⟩ (.slice (some ⟨g,0,none⟩) ((xm N0 pre).length+1) cap)).heap[L]? =A.heap[L]? ∧
   Keeps (fun k=>G k∨k<z) A (A1.setCell ⟨z+1,2,none⟩ (.slice (some ⟨g,0,none⟩) ((xm N0 pre).length+1) cap))∧MInv w z N0 ds L (pre++[x]) G (A1.setCell ⟨z+1,2,none⟩ (.slice (some ⟨g,0,none⟩) ((xm N0 pre).length+1) cap)):=by
 obtain ⟨v',hc,hk⟩:=h;have hvv:v'=v:=Option.some.inj (hc.out.c2.symm.trans hv.c2);subst hvv;obtain ⟨n0,n1,n2,n3⟩:=hc.not_low;have nm:=hc.not_mark;have hs1:=hgm.size;have hs2:=hg.size;rw [World.size_alloc] at hs2;have keep:∀ k,k<A.heap.size→k≠z+2→v'.ownBlock≠some k→A1.heap[k]? =A.heap[k]? :=fun k hk h1 h2 =>
  (hg.block k (by simp;omega) (fun e=>h2 e.symm)).trans ((Below.heap_alloc A2 o k (by omega)).trans (hgm.block k hk (by simpa using h1)))
 have hsz:=hc.size;have hL:=hk L (.inr rfl);have hlow:∀ k,(G k∨k<z)→k<A.heap.size→A1.heap[k]? =A.heap[k]? :=fun k h hlt=>by
  rcases h with h | h
  ·exact keep k hlt (by have:=(hk k (.inl h)).2.1;omega) (hk k (.inl h)).2.2.2
  exact keep k hlt (by omega) (fun e=>by have:=(hc.row.lt k e).1;omega)
 have hne:∀ k,(G k∨k<z)→k≠z+1:=fun k h=>by
  rcases h with h | h
  ·have:=(hk k (.inl h)).2.1;omega
  omega
 have gz:g≠z+1:=fun e=>vH (k:=z+1) (w:=A1) (show A1.heap[z+1]? =some _ from (keep _ (by omega) (by omega) n1).trans hc.out) (fun C f e=>by cases e) hown (by simp [Value.ownBlock,e]);have eu:xm N0 (pre++[x])=xm N0 pre++[x]:=by rw [jJ,PZ _ _ hx]
 have st:∀ k,k≠z+1→(A1.setCell ⟨z+1,2,none⟩ (.slice (some ⟨g,0,none⟩) ((xm N0 pre).length+1) cap)).heap[k]? =A1.heap[k]? :=fun k h=>Below.heap_setCell _ _ _ _ (by simpa using h);have osA1:A1.os=A.os:=hg.os.trans hgm.os;have hout1:Blk3 A1 (z+1) 98 (.bool false) (.bool false) v':=(keep _ (by omega) (by omega) n1).trans hc.out;refine ⟨(st L (by omega)).trans (keep L hL.1 (by omega) hL.2.2.2),?_,.slice (some ⟨g,0,none⟩) ((xm N0 pre).length+1) cap,⟨?_,hout1.set2 _,?_,?_,?_,?_,?_⟩,?_⟩
 ·exact ⟨osA1,hg.tape.trans hgm.tape,hg.output.trans hgm.output,by simp;omega,fun k hk1 hG=>(st k (hne k hG)).trans (hlow k hG hk1)⟩
 ·exact (st z (by omega)).trans ((keep z (by omega) (by omega) n0).trans hc.res)
 ·have:=hown.kept (xx A1 (z+1) 2 (.slice (some ⟨g,0,none⟩) ((xm N0 pre).length+1) cap)) (wZ fun k e=>by cases e;simp [Value.ownBlock];exact gz);rw [eu,List.length_append,xF];exact this
 ·have h1:=((hm.alloc o).kept hg (fun e=>n2 e.symm)).setCell (a:=⟨z+1,2,none⟩) (by simp) (.slice (some ⟨g,0,none⟩) ((xm N0 pre).length+1) cap);rw [eu,List.length_append];exact h1
 ·exact (st (z+3) (by omega)).trans ((keep (z+3) (by omega) (by omega) n3).trans hc.box)
 ·intro r hr;obtain ⟨h1,h2⟩:=hc.marks r hr;exact ⟨h1,(st r (by omega)).trans ((keep r (Array.getElem?_eq_some_iff.1 h2).1 (by omega) (nm r hr)).trans h2)⟩
 ·have hb:=hc.below;refine ⟨osA1.trans hb.os,(hg.tape.trans hgm.tape).trans hb.tape,(hg.output.trans hgm.output).trans hb.output,by have:=hb.size;simp;omega,fun k hk1=>(st k (by omega)).trans ((hlow k (.inr hk1) (by have:=hb.size;omega)).trans (hb.block k hk1))⟩
 intro k h;obtain ⟨k1,k2,k3,k4⟩:=hk k h;refine ⟨by simp;omega,k2,k3,fun e=> ?_⟩;have e':g=k:=by simpa [Value.ownBlock] using e
 rcases hat with hat | hat
 ·exact k4 (by rw [hat,e'])
 rw [World.size_alloc] at hat;omega
theorem MInv.addedM {w:World} {z L:Nat} {N0:List Bs} {ds:List Nat} {pre:List Bs} {x:Bs} {G:Nat→Prop} {A A2 A1:World} {v:Value} {o:Obj} {g cap:Nat} {M:List Bs} (hM:M=xm N0 pre) (h:MInv w z N0 ds L pre G A) (hz:z≤w.heap.size) (hv:Blk3 A (z+1) 98 (.bool false) (.bool false) v)
  (hx:x∉xm N0 pre) (hm:A2.ownsMap Tryz.prog 9 wP (z+2) (M.length+1) (pO (M++[x]))) (hgm:A.grownBy A2 (some (z+2)))
  (hown:A1.ownsRow z 9 1 (.slice (some ⟨g,0,none⟩) (M.length+1) cap) (M.length+1) (zy M++[.string (mk x)])) (hg:(A2.alloc o).grownBy A1 v.ownBlock) (hat:v.ownBlock=some g∨g=(A2.alloc o).heap.size) :
  (A1.setCell ⟨z+1,2,none⟩ (.slice (some ⟨g,0,none⟩) (M.length+1) cap)).heap[L]? =A.heap[L]? ∧
   Keeps (fun k=>G k∨k<z) A (A1.setCell ⟨z+1,2,none⟩ (.slice (some ⟨g,0,none⟩) (M.length+1) cap))∧MInv w z N0 ds L (pre++[x]) G (A1.setCell ⟨z+1,2,none⟩ (.slice (some ⟨g,0,none⟩) (M.length+1) cap)):=by
 subst hM;exact h.added hz hv hx hm hgm hown hg hat
theorem MInv.known {w:World} {z L:Nat} {N0:List Bs} {ds:List Nat} {pre:List Bs} {x:Bs} {G:Nat→Prop} {A:World} (h:MInv w z N0 ds L pre G A) (hx:x∈xm N0 pre):MInv w z N0 ds L (pre++[x]) G A:=by
 unfold MInv at h ⊢;rw [jJ,QT _ _ hx];exact h
def upB:ByteArray:=⟨#[117,112,103,114,97,100,101,45,105,110,115,101,99,117,114,101,45,114,101,113,117,101,115,116,115]⟩
def blB:ByteArray:=⟨#[98,108,111,99,107,45,97,108,108,45,109,105,120,101,100,45,99,111,110,116,101,110,116]⟩
def Qv (N:List Bs) (u:Value):Value:= .agg #[.bool (decide (un upB∈N)),.bool (decide (un blB∈N)),u]
def U6 (ds:List Nat):List Deferred:=ds.map fun r=>{ target:= .collected r,args:=#[] }
theorem yB {F:Fence} {n:Nat} {P:Program} {fn:Func} {tmps:Array Value} {R:Ending→World→Prop}:∀ (ds:List Nat) (W:World),(∀ r,r∈ds→W.heap[r]? =some (.deferred (some [])))→ds.Nodup →
  (∀ W',Keeps (fun k=>k∉ds) W W'→LeavesIn F n P fn tmps R [] .returning W')→LeavesInM F n P fn tmps R (U6 ds) .returning W
 | [],W,_,_,h=>h W (Keeps.refl _ _)
 | r::ds,W,hd,hn,h=>by
  rw [List.nodup_cons] at hn;refine ⟨by simp,.inl ⟨r,_,rfl,run_takeDeferred (hd r (by simp)),?_⟩⟩;refine yB ds _ (fun k hk=> ?_) hn.2 (fun W' hW'=>h W' ?_)
  ·exact (World.putObj_heap_other (fun e=>hn.1 (by first | exact e▸hk | exact e.symm▸hk))).trans (hd k (by simp [hk]))
  refine (Keeps.of_grown (grownBy_putObj' W r (.deferred none)) (fun k e=>by cases e;simp)).trans (hW'.mono fun k hk=> ?_);simp only [List.mem_cons,not_or] at hk;exact hk.2
theorem tz (v:Value) (l:List Bs) (x:ByteArray) (w:World) (hv:Strs w v l):Calls Tryz.prog 60 #[v,.string x] w fun e w'=>e= .returned (.bool (decide (un x∈l)))∧w=w':=by
 obtain ⟨a,cap,rfl,hn,hm,hc⟩:=hv.open;rcases Nat.eq_zero_or_pos l.length with h0 | hpos
 ·obtain rfl:l=[]:=List.eq_nil_of_length_eq_zero h0;refine (Tryz.slices_Contains_string_empty a cap x w).mono ?_;rintro e w' ⟨rfl,rfl⟩;exact ⟨rfl,rfl⟩
 obtain ⟨b,off,rfl,hb,hcell⟩:=hc hpos;refine (Tryz.slices_Contains_string b off l.length cap (l.map mk) x w (by simp) (by unfold maxLen at hm;omega) (fun j hj=> ?_)).mono ?_
 ·have hj':j<l.length:=by simpa using hj
  rw [hcell j hj'];simp [List.getD,List.getElem?_eq_getElem hj']
 rintro e w' ⟨rfl,rfl⟩;refine ⟨?_,rfl⟩
 congr 2
 rw [List.take_of_length_le (by simp),Bool.eq_iff_iff,Lib.containsS_iff,decide_eq_true_eq,List.mem_map];constructor
 ·rintro ⟨t,ht,e⟩;rw [←e,zj];exact ht
 intro h;exact ⟨_,h,vd x⟩
attribute [local go_sem] Oper.semAt_some
theorem zB (w:World) {b:Nat} (g k:Nat) (v:Value) (hb:b≤g):Below b w (w.setCell ⟨g,k,none⟩ v):=⟨rfl,rfl,rfl,by simp,fun j hj=>Below.heap_setCell w ⟨g,k,none⟩ v j (fun e=>by have:j=g:=e;omega)⟩
def VInv (w:World) (y:Nat) (pre:List Bs) (G:Nat→Prop) (W:World):Prop :=
 pre.all ya=true∧BlkL W w.heap.size 4 [.bool false]∧W.heap[y+3]? =some (.deferred (some []))∧Below w.heap.size w W∧(∀ k,G k→w.heap.size<k∧k≠y+3)
def VOut (w:World) (y:Nat) (l:Bs) (c:Code) (pre:List Bs) (G:Nat→Prop) (W:World):Prop :=
 c= .ret∧(zi 46 l).all ya=false∧BlkL W w.heap.size 4 [.bool false]∧W.heap[y+3]? =some (.deferred (some []))∧Below w.heap.size w W∧(∀ k,G k→w.heap.size<k∧k≠y+3)
theorem VInv.turn {w:World} {y:Nat} {pre:List Bs} {G:Nat→Prop} {A B:World} {row:Option Nat} (h:VInv w y pre G A) (hy:w.heap.size<y) (hg:A.grownBy B row) (hr:∀ r,row=some r→G r∨r=y+4):VInv w y pre G B:=by
 obtain ⟨h1,h2,h3,h4,h5⟩:=h;have hlow:∀ r,row=some r→w.heap.size<r∧r≠y+3:=fun r e=>(hr r e).elim (h5 r) (fun h=>by omega);exact ⟨h1,h2.grown hg (fun e=>by have:=hlow _ e.symm;omega),(hg.block _ (Array.getElem?_eq_some_iff.1 h3).1 (fun e=>(hlow _ e.symm).2 rfl)).trans h3,h4.grown hg (by have:=h4.size;omega) (fun j hj=>by have:=hlow j hj;omega),h5⟩
theorem VInv.lay {w:World} {y:Nat} {pre:List Bs} {G:Nat→Prop} {A B:World} (h:VInv w y pre G A) (hy:w.heap.size<y) (hg:A.grownBy B none):VInv w y pre (fun k=>G k∨(A.heap.size≤k∧k<B.heap.size)) B:=by
 obtain ⟨h1,h2,h3,h4,h5⟩:=h;have hlt:=(Array.getElem?_eq_some_iff.1 h3).1;exact ⟨h1,h2.grown hg (by simp),(hg.block _ hlt (by simp)).trans h3,h4.grown hg (by have:=h4.size;omega) (fun j hj=>by cases hj),fun k hk=>hk.elim (h5 k) (fun h=>⟨by have:=h2.lt;omega,by omega⟩)⟩
theorem VOut.turn {w:World} {y:Nat} {l:Bs} {c:Code} {pre:List Bs} {G:Nat→Prop} {A B:World} {row:Option Nat} (h:VOut w y l c pre G A) (hy:w.heap.size<y) (hg:A.grownBy B row) (hr:∀ r,row=some r→G r∨r=y+4):VOut w y l c pre G B:=by
 obtain ⟨h0,h1,h2,h3,h4,h5⟩:=h;have hlow:∀ r,row=some r→w.heap.size<r∧r≠y+3:=fun r e=>(hr r e).elim (h5 r) (fun h=>by omega);exact ⟨h0,h1,h2.grown hg (fun e=>by have:=hlow _ e.symm;omega),(hg.block _ (Array.getElem?_eq_some_iff.1 h3).1 (fun e=>(hlow _ e.symm).2 rfl)).trans h3,h4.grown hg (by have:=h4.size;omega) (fun j hj=>by have:=hlow j hj;omega),h5⟩
theorem VOut.lay {w:World} {y:Nat} {l:Bs} {c:Code} {pre:List Bs} {G:Nat→Prop} {A B:World} (h:VOut w y l c pre G A) (hy:w.heap.size<y) (hg:A.grownBy B none):VOut w y l c pre (fun k=>G k∨(A.heap.size≤k∧k<B.heap.size)) B:=by
 obtain ⟨h0,h1,h2,h3,h4,h5⟩:=h;have hlt:=(Array.getElem?_eq_some_iff.1 h3).1;exact ⟨h0,h1,h2.grown hg (by simp),(hg.block _ hlt (by simp)).trans h3,h4.grown hg (by have:=h4.size;omega) (fun j hj=>by cases hj),fun k hk=>hk.elim (h5 k) (fun h=>⟨by have:=h2.lt;omega,by omega⟩)⟩
theorem tU {P:Program} {fn:Func} {p:Tmp} {ty:TypeId} (h:fn.results=#[.cell p ty]) (tmps:Array Value) (w:World) (g:Nat) (v:Value) (d:TypeDesc)
  (hp:tmps.getD p undef= .pointer (some ⟨g,0,none⟩)) (hc:w.cell? ⟨g,0,none⟩=some v) (hu:P.underlying ty=some d) (hd:(match d with | .struct _ | .array _ _=>true | _=>false)=false) :
  (results fn tmps).run P w= .ok v w:=by
 have hp':tmps[p]?.getD undef= .pointer (some ⟨g,0,none⟩):=by simpa using hp
 have hagg:(isAgg ty).run P w= .ok false w:=by
  unfold isAgg;rw [Sem.run_bind,run_underlying hu w];cases d<;>simp_all
 simp [results,h,hp',asAddr,loadVar,Sem.run_bind,hagg,hc,Result.andThen]
set_option maxRecDepth 100000
set_option maxHeartbeats 4000000
theorem ve (s:ByteArray) (w:World) (hB:Base w) (hs:s.size≤100000):Calls Tryz.prog 42 #[.string s] w fun e w'=>e= .returned (.bool (zJ (un s)))∧Below w.heap.size w w':=by
 have hlen:(un s).length=s.size:=zb s;refine (callsIn_wide (n:=9)).1 ?_;refine callsIn_of_wp_marks Tryz.func42 rfl trivial ?_ rfl;simp only [Tryz.ntmps42,List.size_toArray,List.length_cons,List.length_nil,Nat.reduceAdd,Nat.reduceSub,Array.replicate_succ,Array.replicate_zero,List.push_toArray,List.append_toArray,List.nil_append,List.cons_append];by_cases h253:253<s.size
 ·have hfin:Hid (zJ (un s)=false):=KZ9 (by unfold zJ;rw [KZ8 (by omega)];rfl);have g1:decide ((253:Int)<(s.size:Int))=true:=KZ7 (by omega);have c0:=(BlkL.new w 4 [.bool false]).c 0 _ rfl;have f0:=(BlkL.new w 4 [.bool false]).f 0
  gi_wp2
  all_goals try omega
  refine ⟨trivial,?_⟩
  gi_wp2
  refine yB [] _ (by simp) List.nodup_nil (fun W' hW'=> ?_);have hr:=BlkL.new w 4 [.bool false];have hr2:BlkL W' w.heap.size 4 [.bool false]:=(hW'.block _ hr.lt (by simp)).trans hr;refine ⟨_,tU rfl _ _ w.heap.size (.bool false) _ rfl (hr2.c 0 _ rfl) Tryz.underlying4 rfl,?_⟩;rw [hfin.out];refine ⟨rfl,?_⟩;exact ((Below.refl _ w).alloc (Nat.le_refl _) _).trans (Keeps.below (hW'.mono fun k _=>by simp) (by simp))
 have g1:decide ((253:Int)<(s.size:Int))=false:=KZ8 (by omega);have hw0:Below w.heap.size w (w.alloc (.cells #[.bool false] 4)):=(Below.refl _ w).alloc (Nat.le_refl _) _;have hr0:BlkL (w.alloc (.cells #[.bool false] 4)) w.heap.size 4 [.bool false]:=BlkL.new w _ _;have hz0:(w.alloc (.cells #[.bool false] 4)).heap.size=w.heap.size+1:=by simp
 obtain ⟨W0,hW0⟩:=KZ6 (w.alloc (.cells #[.bool false] 4));rw [←hW0] at hw0 hr0 hz0;have B0:=hB.below hw0;have hnum:=qm s W0 B0 (by omega);obtain ⟨nm,hnm⟩:=KZ6 (yq (un s));rw [←hnm] at hnum;have HNUM:=KZ9 hnum;have HW0:=KZ9 hW0.symm;have HNM:=KZ9 hnm;clear hnum hW0 hnm
 gi_wp2
 all_goals try omega
 rw [HW0.out];clear HW0;refine ⟨trivial,?_⟩;refine (callsIn_wide.2 HNUM.out).mono ?_;rintro e w1 ⟨rfl,hb1⟩;have hs1:=hb1.size;have HR1:=KZ9 (hr0.below (by omega) hb1);have HALL1:=KZ9 (hw0.trans (hb1.mono (by omega)));clear hb1 hw0 hr0 B0 HNUM;have c1:=HR1.out.c 0 _ rfl;have f1:=HR1.out.f 0;cases nm
 ·have hfin:Hid (zJ (un s)=(zi 46 (un s)).all ya):=KZ9 (by unfold zJ;rw [←HNM.out,KZ7 (by omega)];simp)
  gi_wp2
  refine ⟨trivial,?_⟩;refine (callsIn_wide.2 (qp s 46 _)).mono ?_;rintro e w2 ⟨rfl,rfl⟩
  gi_wp2
  have ct:=jS w1 s 46;have cs:=jT w1 s 46;have co:=jR w1 s 46;have hS2:=sN w1 s 46;have hB2:=uh w1 s 46;obtain ⟨y,hy⟩:=KZ6 w1.heap.size;rw [←hy] at ct cs co hS2 hB2 hs1 ⊢;have hr2:=HR1.out.below (by omega) hB2;have hall2:=HALL1.out.trans (hB2.mono (by omega));generalize uC w1 s 46=W2 at *;have hzy:w.heap.size<y:=by omega
  have HR2:=KZ9 hr2;have HALL2:=KZ9 hall2;clear hr2 hall2 hB2 HR1 HALL1 c1 f1 hs1 hy;have hent:=fun (a:Act) ps asg bd=>tf (F:=Fence.wide) (P:=Tryz.prog) rfl W2 a ps asg bd;rw [hS2] at hent;refine tC (w₁:=W2.alloc (.deferred (some []))) (L:=y+4) (by omega) (by simp;omega) (hent _ _ _ _) (gf:=180) (lb:=#[.pointer (some ⟨y+1,0,none⟩),.pointer (some ⟨y,0,none⟩),.pointer (some ⟨y+2,0,none⟩)]) rfl trivial (enters_of Tryz.func180 (by kernel_rfl) rfl)
   (pA 8 (y+1) y (y+2) w.heap.size 46 s W2 (by omega) cs ct co (by omega) (by omega) (by omega)) ((Below.refl _ W2).alloc (Nat.le_refl _) _) (fun _=>rfl) (by omega) (by omega)
   (VInv w y) (VOut w y (un s)) (fun _ _ _ _ _ h hg hr=>h.turn hzy hg hr) (fun _ _ _ _ h hg=>h.lay hzy hg) (fun _ _ _ _ _ _ h hg hr=>h.turn hzy hg hr) (fun _ _ _ _ _ h hg=>h.lay hzy hg) ?start
   (fun x a' W'=>a'={ tmps:=#[.string s,undef,.pointer (some ⟨w.heap.size,0,none⟩),.string (mk x),.string s,.int .i64 (s.size:Int),.bool false,.bool false,.string s,.bool false,.bool false,.string s,(.func (.func 180) #[] #[.pointer (some ⟨y+1,0,none⟩),.pointer (some ⟨y,0,none⟩),.pointer (some ⟨y+2,0,none⟩)]),.string (mk x),undef,undef,undef],defers:=[] }) (fun _ _ _ _ _ h _ _=>h) ?assign ?body ?done ?stop
  case start =>
   intro o;have hd:=World.alloc_heap_new W2 (.deferred (some []));rw [hS2] at hd;have hsz:((W2.alloc (.deferred (some []))).alloc o).heap.size=y+5:=by simp [hS2]
   refine ⟨rfl,(HR2.out.alloc _).alloc _,(Below.heap_alloc _ o _ (by simp;omega)).trans hd,(HALL2.out.alloc (by omega) _).alloc (by simp;omega) _,?_⟩;rintro k (rfl | rfl | rfl)<;>omega
  case assign =>
   intro pre x G W' K hI hsp hK
   gi_wp2
   exact hK _ _ rfl (Keeps.refl _ _) hI rfl
  case body =>
   rintro pre x G a' Wb ⟨r0,hr0⟩ hI rfl ⟨post,hpost⟩;have hxl:x.length≤s.size:=by
    have:=yJ 46 (un s) x (by rw [←hpost];simp);rw [zb] at this;exact this
   obtain ⟨i1,i2,i3,i4,i5⟩:=id hI;have hval:=kp (mk x) Wb (by rw [zh];omega);rw [zj] at hval;obtain ⟨ok,hok⟩:=KZ6 (ya x);rw [←hok] at hval;have HVAL:=KZ9 hval;have HOK:=KZ9 hok;have HPO:=KZ9 hpost;have HI:=KZ9 hI;have HI2:=KZ9 i2;clear hval hok hpost hI i1 i2 i3 i4 i5
   gi_wp2
   refine ⟨trivial,?_⟩;refine (CallsIn.inRound _ (callsIn_wide.2 HVAL.out)).mono ?_;rintro e w3 ⟨rfl,hb3⟩;have hg3:=yt hb3;have HI3:=KZ9 (HI.out.turn hzy hg3 (fun r e=>by cases e));have hy4:y+4<Wb.heap.size:=(Array.getElem?_eq_some_iff.1 hr0).1;have hL3:w3.heap[y+4]? =Wb.heap[y+4]? :=hb3.block _ hy4;have hK3:Keeps (fun k=>G k∨k<w.heap.size) Wb w3:=Keeps.of_below hb3;have c3:=HI3.out.2.1.c 0 _ rfl;have f3:=HI3.out.2.1.f 0;cases ok
   ·have hbad:(zi 46 (un s)).all ya=false:=by
     rw [←HPO.out,List.all_append,List.all_append];simp [←HOK.out]
    have HBAD:=KZ9 hbad;clear hbad
    gi_wp2
    obtain ⟨j1,j2,j3,j4,j5⟩:=HI3.out;refine (show _∧_∧_ from ⟨(Below.heap_setCell _ _ _ _ (by simp;omega)).trans hL3,hK3.trans (Keeps.setCell _ _ _ ?_ _),rfl,HBAD.out,j2.set 0 (by simp) (.bool false),(Below.heap_setCell _ _ _ _ (by simp;omega)).trans j3,j4.trans (zB _ _ _ _ (Nat.le_refl _)),j5⟩);rintro (h | h)
    ·have:=(j5 _ h).1;omega
    omega
   clear c3 f3
   gi_wp2
   obtain ⟨j1,j2,j3,j4,j5⟩:=HI3.out;exact (show _∧_∧_ from ⟨hL3,hK3,by rw [List.all_append,j1];simp [←HOK.out],j2,j3,j4,j5⟩)
  case done =>
   rintro xs G W' rfl ⟨i1,i2,i3,i4,i5⟩;have c3:=i2.c 0 _ rfl;have f3:=i2.f 0;have HI1:=KZ9 i1;clear i1
   gi_wp2
   have hr:=i2.set 0 (by simp) (.bool true);refine yB [y+3] _ (fun r hr=> ?_) (by simp) (fun W' hW'=> ?_)
   ·rw [List.mem_singleton.1 hr];exact (Below.heap_setCell _ _ _ _ (by simp;omega)).trans i3
   have hr2:BlkL W' w.heap.size 4 [.bool true]:=(hW'.block _ hr.lt (by simp;omega)).trans hr;refine ⟨_,tU rfl _ _ w.heap.size (.bool true) _ rfl (hr2.c 0 _ rfl) Tryz.underlying4 rfl,?_⟩;rw [hfin.out,HI1.out];exact ⟨rfl,(i4.trans (zB _ _ _ _ (Nat.le_refl _))).trans (Keeps.below (hW'.mono fun k hk=>by simp;omega) (by have:=i4.size;simpa using this))⟩
  case stop =>
   rintro c pre G W' _ ⟨rfl,i1,i2,i3,i4,i5⟩;have HI1:=KZ9 i1;clear i1
   gi_wp2
   refine yB [y+3] _ (fun r hr=> ?_) (by simp) (fun W' hW'=> ?_)
   ·rw [List.mem_singleton.1 hr];exact i3
   have hr2:BlkL W' w.heap.size 4 [.bool false]:=(hW'.block _ i2.lt (by simp;omega)).trans i2;refine ⟨_,tU rfl _ _ w.heap.size (.bool false) _ rfl (hr2.c 0 _ rfl) Tryz.underlying4 rfl,?_⟩;rw [hfin.out,HI1.out];exact ⟨rfl,i4.trans (Keeps.below (hW'.mono fun k hk=>by simp;omega) i4.size)⟩
 have hfin:Hid (zJ (un s)=false):=KZ9 (by unfold zJ;rw [←HNM.out];simp)
 gi_wp2
 refine yB [] _ (by simp) List.nodup_nil (fun W' hW'=> ?_);have hr:=HR1.out.set 0 (by simp) (.bool false);have hr2:BlkL W' w.heap.size 4 [.bool false]:=(hW'.block _ hr.lt (by simp)).trans hr;refine ⟨_,tU rfl _ _ w.heap.size (.bool false) _ rfl (hr2.c 0 _ rfl) Tryz.underlying4 rfl,?_⟩;rw [hfin.out];exact ⟨rfl,(HALL1.out.trans (zB _ _ _ _ (Nat.le_refl _))).trans (Keeps.below (hW'.mono fun k _=>by simp) (by have:=HALL1.out.size;simpa using this))⟩
end Go.Proofs.YtjbciamhhfcdoaaGreatDoor
namespace Hs
open Go
def Xp (l:Bs):List Bs:=if zJ l=true then yl l else []
theorem PR (c:UInt8) (a r:Bs) (h:∀ b∈a,b≠c):pW c (a++c::r)=(a,r,true):=by
 unfold pW;rw [tJ c r a h,if_neg (by omega)];have e1:(a++c::r).take ((a.length:Int)).toNat=a:=List.take_left;have e2:(a++c::r).drop ((a.length:Int).toNat+1)=r:=by rw [List.drop_append];simp
 rw [e1,e2]
theorem PQ (c:UInt8) (a:Bs) (h:∀ b∈a,b≠c):pW c a=(a,[],false):=by
 unfold pW;rw [uJ c a h,if_pos (by omega)]
theorem d9 (s n:Bs):Lib.hasSuffix n (46::s)=decide (s∈yl n):=by
 unfold Lib.hasSuffix;rw [Bool.eq_iff_iff,decide_eq_true_eq,List.isSuffixOf_iff_suffix,qg]
end Hs
namespace Go.Proofs.YtjbciamhhfcdoaaGreatDoor
open Go.RowKit Go.Shelf Hs
set_option maxRecDepth 20000
set_option maxHeartbeats 4000000
theorem Qb (s n:ByteArray) (w:World) (hB:Base w) (hs:s.size≤100000) (hn:n.size≤100000):Calls Tryz.prog 140 #[.string s,.string n] w fun e w'=>e= .returned (.bool (xM (un s) (un n)))∧Below w.heap.size w w':=by
 have hdef:xM (un s) (un n)=(zJ (un s)&&zJ (un n)&&(decide (un s=un n)||decide (un s∈yl (un n)))):=rfl;have HS:=KZ9 (ve s w hB hs);have HN:=KZ9 (fun W hb=>ve n W hb hn);have hq:(s.toList==n.toList)=decide (un s=un n):=by
  rw [zl,zl];by_cases h:un s=un n<;>simp [h]
 have hsf:=fun W=>Tryz.strings_HasSuffix n (⟨#[46]⟩++s) W (by omega);have e2:Lib.hasSuffix n.data.toList ((⟨#[46]⟩:ByteArray)++s).data.toList=decide (un s∈yl (un n)):=by
  rw [←d9];show Lib.hasSuffix (un n) (un (⟨#[46]⟩++s))=_;rw [yo];rfl
 rw [e2] at hsf;have HSF:=KZ9 hsf;obtain ⟨a,ha⟩:=KZ6 (zJ (un s));obtain ⟨b,hb⟩:=KZ6 (zJ (un n));obtain ⟨c,hc⟩:=KZ6 (decide (un s=un n));obtain ⟨d,hd⟩:=KZ6 (decide (un s∈yl (un n)));rw [←ha,←hb,←hc,←hd] at hdef;rw [←ha] at HS;simp only [←hb] at HN;rw [←hc] at hq;simp only [←hd] at HSF;have HDEF:=KZ9 hdef;have HBB:=KZ9 hB;clear ha hb hc hd hdef e2 hsf hB;go_enter Tryz.func140,Tryz.ntmps140
 go_wp2_with fail
 refine HS.out.mono ?_;rintro e w1 ⟨rfl,hb1⟩;have HB1:=KZ9 hb1;clear hb1 HS;cases a
 ·go_wp2
  all_goals try omega
  go_ret;rw [HDEF.out];exact ⟨rfl,HB1.out⟩
 go_wp2_with fail
 all_goals try omega
 refine (HN.out _ (HBB.out.below HB1.out)).mono ?_;rintro e w2 ⟨rfl,hb2⟩;have HB2:=KZ9 (HB1.out.trans (hb2.mono HB1.out.size));clear hb2 HN;cases b
 ·go_wp2
  all_goals try omega
  go_ret;rw [HDEF.out];exact ⟨rfl,HB2.out⟩
 cases c
 ·go_wp2_with fail
  all_goals try omega
  refine (HSF.out _).mono ?_;rintro e w3 ⟨rfl,rfl⟩;go_wp2
  all_goals try omega
  go_ret;rw [HDEF.out];exact ⟨rfl,HB2.out⟩
 go_wp2
 all_goals try omega
 go_ret;rw [HDEF.out];exact ⟨rfl,HB2.out⟩
theorem Qe (s:ByteArray) (w:World):Calls Tryz.prog 75 #[.string s] w fun e w'=>e= .returned (.func (.func 118) #[] #[.pointer (some ⟨w.heap.size,0,none⟩)])∧w'=w.alloc (.cells #[.string s] 9):=by
 go_enter Tryz.func75,Tryz.ntmps75
 go_wp2;go_ret;exact ⟨rfl,rfl⟩
theorem vQ (s:ByteArray) (w:World) (hs:s.size≤100000):Calls Tryz.prog 7 #[.string s] w fun e w'=>e= .returned (.bool (zJ (un s)))∧Below w.heap.size w w':=by
 have hdef:zJ (un s)=(decide ((un s).length≤253)&& !(yq (un s))&&(zi 46 (un s)).all ya):=rfl;have HNU:=KZ9 (sR s w (by omega));have HSP:=KZ9 (fun W=>sQ s 46 W (by omega));have hdl:=yJ 46 (un s);rw [zb] at hdef hdl;have h0:un s=[]↔s.size=0:=by rw [←zb];exact List.length_eq_zero_iff.symm
 have he:s.toList.isEmpty=decide (s.size=0):=by
  rw [zl,←zb];cases un s<;>simp
 obtain ⟨nu,hnu⟩:=KZ6 (yq (un s));rw [←hnu] at HNU hdef;by_cases hz:s.size=0
 ·rw [KZ7 hz] at he;have hfin:Hid (zJ (un s)=false):=KZ9 (by rw [h0.2 hz];decide);clear HNU HSP hdl h0 hdef hnu hz;go_enter Tryz.func7,Tryz.ntmps7
  go_wp2_with fail
  all_goals try omega
  go_ret;exact ⟨by rw [hfin.out];rfl,Below.refl _ _⟩
 rw [KZ8 hz] at he;by_cases hl:s.size≤253
 ·rw [KZ7 hl] at hdef;have g1:decide ((253:Int)<(s.size:Int))=false:=by simp;omega
  have HDEF:=KZ9 hdef;have HDL:=KZ9 hdl;clear hdef hnu h0 hdl;cases nu
  ·go_enter Tryz.func7,Tryz.ntmps7
   go_wp2_with fail
   all_goals try omega
   refine HNU.out.mono ?_;rintro e w1 ⟨rfl,hb1⟩;have HB1:=KZ9 hb1;clear hb1 HNU;go_wp2_with fail
   all_goals try omega
   refine (HSP.out w1).mono ?_;rintro e w2 ⟨v,rfl,hown,hb2⟩;have hst:Strs w2 v (zi 46 (un s)):=Row.owned hown;have HB2:=KZ9 (HB1.out.trans (hb2.mono HB1.out.size));clear hb2 HB1 HSP hown;generalize zi 46 (un s)=L at *;obtain ⟨a,cap,rfl,hn,hm,hc⟩:=hst.open;unfold maxLen at hm;have HC:=KZ9 hc;have HST:=KZ9 hst;clear hc hst;have hfin:Hid (zJ (un s)=L.all ya):=KZ9 (by rw [HDEF.out];simp);clear HDEF;go_wp2_with fail
   all_goals try omega
   go_loopw [4] (fun i wr=>∃ k:Nat,i= .int .i64 k∧k≤L.length∧Hid (Below w.heap.size w wr)∧Hid (Below w2.heap.size w2 wr)∧Hid (L.all ya=(L.drop k).all ya)) (fun i _=>L.length - (intOf i).toNat)
   case atStart=>exact ⟨0,rfl,by omega,HB2,KZ9 (Below.refl _ _),rfl⟩
   case round =>
    obtain ⟨k,rfl,hk,hbw,hb2,ha⟩:=hrel;by_cases hlt:k<L.length
    ·obtain ⟨b,off,rfl,hbl,hcell⟩:=HC.out (by omega);have hk':=((yA hb2.out).1 b (off+k) hbl).trans (hcell k hlt);have hsz:L[k].length≤s.size:=HDL.out _ (List.getElem_mem hlt);have hv:=fun W=>pF (mk L[k]) W (by rw [zh];omega);simp only [zj] at hv;have hd:Hid ((L.drop k).all ya=(ya L[k]&&(L.drop (k+1)).all ya)):=by
      rw [List.drop_eq_getElem_cons hlt,List.all_cons];rfl
     obtain ⟨t,ht⟩:=KZ6 (L[k]);rw [←ht] at hk' hd;simp only [←ht] at hv;obtain ⟨ok,hok⟩:=KZ6 (ya t);rw [←hok] at hd;simp only [←hok] at hv;have HV:=KZ9 hv;clear hcell hsz ht hv hok;go_wp2_with fail
     all_goals try omega
     refine (HV.out _).mono ?_;rintro e w3 ⟨rfl,hb3⟩;cases ok
     ·go_wp2_with fail
      all_goals try omega
      go_ret;refine ⟨?_,hbw.out.trans (hb3.mono hbw.out.size)⟩;rw [hfin.out,ha.out,hd.out];rfl
     go_wp2_with fail
     all_goals try omega
     go_round
     case rel =>
      refine ⟨k+1,by go_num,by omega,KZ9 (hbw.out.trans (hb3.mono hbw.out.size)),KZ9 (hb2.out.trans (hb3.mono hb2.out.size)),?_⟩;have e1:=ha.out;rw [hd.out,Bool.true_and] at e1;exact e1
     case measure=>simp [intOf];omega
    obtain rfl:k=L.length:=by omega
    have hfin2:Hid (L.all ya=true):=by
     have e1:=ha.out;rw [List.drop_length] at e1;exact e1
    go_wp2_with fail
    all_goals try omega
    go_ret;exact ⟨by rw [hfin.out,hfin2.out];rfl,hbw.out⟩
  have hfin:Hid (zJ (un s)=false):=KZ9 (by rw [HDEF.out];simp);clear HSP HDL HDEF;go_enter Tryz.func7,Tryz.ntmps7
  go_wp2_with fail
  all_goals try omega
  refine HNU.out.mono ?_;rintro e w1 ⟨rfl,hb1⟩;go_wp2_with fail
  all_goals try omega
  go_ret;exact ⟨by rw [hfin.out];rfl,hb1⟩
 have g1:decide ((253:Int)<(s.size:Int))=true:=by simp;omega
 rw [KZ8 hl] at hdef;have hfin:Hid (zJ (un s)=false):=KZ9 (by rw [hdef];simp);clear HNU HSP hdl hdef hnu h0;go_enter Tryz.func7,Tryz.ntmps7
 go_wp2_with fail
 all_goals try omega
 go_ret;exact ⟨by rw [hfin.out];rfl,Below.refl _ _⟩
theorem kg (s n:ByteArray) (w:World) (hs:s.size≤100000) (hn:n.size≤100000):Calls Tryz.prog 12 #[.string s,.string n] w fun e w'=>e= .returned (.bool (xM (un s) (un n)))∧Below w.heap.size w w':=by
 have hdef:xM (un s) (un n)=(zJ (un s)&&zJ (un n)&&(decide (un s=un n)||decide (un s∈yl (un n)))):=rfl;have HS:=KZ9 (vQ s w hs);have HN:=KZ9 (fun W=>vQ n W hn);have hq:(s.toList==n.toList)=decide (un s=un n):=by
  rw [zl,zl];by_cases h:un s=un n<;>simp [h]
 have hsz:s.size<n.size→(n.extract (n.size - s.size - 1) n.size).toList=(un n).drop ((un n).length - (un s).length - 1):=fun h=>by
  rw [zl,yP,←zb n,j9,zj,zb s]
 have hdot:((⟨#[46]⟩:ByteArray)++s).toList=46::un s:=by rw [zl,yo];rfl
 have hsup:decide (un s∈yl (un n))=(decide (s.size<n.size)&&((un n).drop ((un n).length - (un s).length - 1)==46::un s)):=by
  rw [Bool.eq_iff_iff];simp only [decide_eq_true_eq,Bool.and_eq_true,beq_iff_eq];have k1:=zb s;have k2:=zb n;rw [qg];constructor
  ·rintro ⟨p,hp⟩;have hl:=congrArg List.length hp;simp at hl;refine ⟨by omega,?_⟩;rw [←hp];have:(p++46::un s).length - (un s).length - 1=p.length:=by simp;omega
   rw [this];exact List.drop_left
  rintro ⟨h1,h2⟩;rw [←h2];exact List.drop_suffix _ _
 obtain ⟨a,ha⟩:=KZ6 (zJ (un s));obtain ⟨b,hb⟩:=KZ6 (zJ (un n));obtain ⟨c,hc⟩:=KZ6 (decide (un s=un n));obtain ⟨d,hd⟩:=KZ6 (decide (un s∈yl (un n)));rw [←ha,←hb,←hc,←hd] at hdef;rw [←ha] at HS;simp only [←hb] at HN;rw [←hc] at hq;rw [←hd] at hsup;have HDEF:=KZ9 hdef;have HSUP:=KZ9 hsup;have HSZ:=KZ9 hsz;have HDOT:=KZ9 hdot;clear ha hb hc hd hdef hsup hsz hdot;go_enter Tryz.func12,Tryz.ntmps12
 go_wp2_with fail
 refine HS.out.mono ?_;rintro e w1 ⟨rfl,hb1⟩;have HB1:=KZ9 hb1;clear hb1 HS;cases a
 ·clear hq;go_wp2_with fail
  all_goals try omega
  go_ret;exact ⟨by rw [HDEF.out];rfl,HB1.out⟩
 go_wp2_with fail
 all_goals try omega
 refine (HN.out _).mono ?_;rintro e w2 ⟨rfl,hb2⟩;have HB2:=KZ9 (HB1.out.trans (hb2.mono HB1.out.size));clear hb2 HN;cases b
 ·clear hq;go_wp2_with fail
  all_goals try omega
  go_ret;exact ⟨by rw [HDEF.out];rfl,HB2.out⟩
 cases c
 ·by_cases hlt:s.size<n.size
  ·have g1:decide ((s.size:Int)<(n.size:Int))=true:=by simp;omega
   have g2:(n.extract (n.size - s.size - 1) n.size).toList=(un n).drop ((un n).length - (un s).length - 1):=HSZ.out hlt;have hd2:((un n).drop ((un n).length - (un s).length - 1)==46::un s)=d:=by rw [HSUP.out,KZ7 hlt,Bool.true_and]
   have hdot:=HDOT.out;have g3:((n.extract (n.size - s.size - 1) n.size).toList==((⟨#[46]⟩:ByteArray)++s).toList)=d:=by rw [g2,hdot];exact hd2
   have g4:((s.size:Int)<(n.size:Int)):=by omega
   clear g2 hd2 hdot HSZ HDOT HSUP;go_wp2_with fail
   all_goals try omega
   go_ret;exact ⟨by rw [HDEF.out];rfl,HB2.out⟩
  have g1:decide ((s.size:Int)<(n.size:Int))=false:=by simp;omega
  have hd:d=false:=by rw [HSUP.out,KZ8 hlt];rfl
  subst hd;clear HSZ HDOT HSUP;go_wp2_with fail
  all_goals try omega
  go_ret;exact ⟨by rw [HDEF.out];rfl,HB2.out⟩
 clear HSZ HDOT HSUP;go_wp2_with fail
 all_goals try omega
 go_ret;exact ⟨by rw [HDEF.out];rfl,HB2.out⟩
end Go.Proofs.YtjbciamhhfcdoaaGreatDoor
