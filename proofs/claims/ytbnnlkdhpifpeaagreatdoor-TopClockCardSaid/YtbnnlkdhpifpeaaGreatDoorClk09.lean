/- What the proof of TopClock uses, part Clk09. -/
import Derived.Test.YtbnnlkdhpifpeaaGreatDoorClk08
import Derived.Lib.BufferWrite
set_option linter.unusedSimpArgs false
set_option linter.unusedVariables false
namespace Go.Proofs.YtbnnlkdhpifpeaaGreatDoor
open Go.RowKit Go.Shelf Hs
attribute [local go_sem] Oper.semAt_some
def sB (db doff cap m o a:Nat):Value:= .slice (some ⟨db,doff+(a - o),none⟩) (m - (a - o)) (cap - (a - o))
structure WrC (I:DK) (K:Nat→Prop) (n F o m db doff cap:Nat) (S C D:Bs) (w:World) (z y a:Nat) (G:Nat→Prop) (W:World):Prop where
 lo:o≤a
 hi:a≤o+m
 dk:∃ K',Disk I W K' n S (splice C (64*F+o) (D.take (a - o)))∧∀ k,K' k→(K k∨y+7≤k)∧k<W.heap.size∧¬ G k
 b0:Boxed W z 25 (.pointer (some ⟨I.dd,0,none⟩))
 b2:∃ v,Boxed W (z+2) 34 v∧(a<o+m→v=sB db doff cap m o a)
 b3:Boxed W (z+3) 30 (.int .i64 0)
 df:W.heap[y+5]? =some (.deferred (some []))
 but:But I.S w W
 own:∀ k,(G k∨k=y+6)→k<W.heap.size∧y+2≤k∧k≠y+5
def WrI (I:DK) (K:Nat→Prop) (n F o m db doff cap:Nat) (S C D:Bs) (w:World) (z y:Nat) (pre:List (Nat × Nat × Nat)) (G:Nat→Prop) (W:World):Prop :=
 ∃ a,pre++xl F a (o+m)=xl F o (o+m)∧WrC I K n F o m db doff cap S C D w z y a G W
variable {I : DK} {K : Nat → Prop} {n F o m db doff cap z y a : Nat} {S C D : Bs} {w A B : World} {G : Nat → Prop}
theorem WrC.turn {row:Option Nat} (h:WrC I K n F o m db doff cap S C D w z y a G A) (hz:z+2≤y) (hw:w.heap.size≤z) (hS:∀ k,I.S k→k<w.heap.size) (hK:∀ k,K k→k<w.heap.size) (hg:A.grownBy B row) (hr:∀ r,row=some r→G r∨r=y+6):WrC I K n F o m db doff cap S C D w z y a G B:=by
 have hlow:∀ r,row=some r→y+2≤r∧r≠y+5:=fun r e=>(h.own r (hr r e)).2;have ne:∀ j,j<y+2→some j≠row:=fun j hj e=>by have:=(hlow j e.symm).1;omega
 obtain ⟨K',hd,hk⟩:=h.dk;obtain ⟨v,hb,hv⟩:=h.b2;refine ⟨h.lo,h.hi,⟨K',hd.grown hg (fun r e=>⟨fun hs=>by have h1:=(hlow r e).1;have h2:=hS r hs;omega,fun hs=> ?_⟩),fun k hs=>⟨(hk k hs).1,Nat.lt_of_lt_of_le (hk k hs).2.1 hg.size,(hk k hs).2.2⟩⟩,h.b0.kept hg (ne _ (by omega)),⟨v,hb.kept hg (ne _ (by omega)),hv⟩,h.b3.kept hg (ne _ (by omega)),
  (hg.block _ (Array.getElem?_eq_some_iff.1 h.df).1 (fun e=>(hlow _ e.symm).2 rfl)).trans h.df,h.but.grown hg (fun k e=> .inr (by have:=(hlow k e).1;omega)),fun k hk=>⟨Nat.lt_of_lt_of_le (h.own k hk).1 hg.size,(h.own k hk).2⟩⟩
 rcases hr r e with h1 | h1
 ·exact (hk r hs).2.2 h1
 rcases (hk r hs).1 with h2 | h2
 ·have:=hK r h2;omega
 omega
theorem WrC.lay (h:WrC I K n F o m db doff cap S C D w z y a G A) (hz:z+2≤y) (hw:w.heap.size≤z) (hS:∀ k,I.S k→k<w.heap.size) (hK:∀ k,K k→k<w.heap.size) (hg:A.grownBy B none):WrC I K n F o m db doff cap S C D w z y a (fun k=>G k∨(A.heap.size≤k∧k<B.heap.size)) B:=by
 have hlt:=(Array.getElem?_eq_some_iff.1 h.df).1;obtain ⟨K',hd,hk⟩:=h.dk;have h':=h.turn hz hw hS hK hg (fun r e=>by cases e);refine ⟨h'.lo,h'.hi,⟨K',hd.grown hg (fun r e=>by cases e),fun k hs=>⟨(hk k hs).1,Nat.lt_of_lt_of_le (hk k hs).2.1 hg.size,fun e=> ?_⟩⟩,h'.b0,h'.b2,h'.b3,h'.df,h'.but,fun k hk=> ?_⟩
 ·rcases e with e | e
  ·exact (hk k hs).2.2 e
  have:=(hk k hs).2.1;omega
 rcases hk with (hk | ⟨h3,h4⟩) | hk
 ·exact h'.own k (.inl hk)
 ·exact ⟨h4,by omega,by omega⟩
 exact h'.own k (.inr hk)
theorem WrI.turn {pre:List (Nat × Nat × Nat)} {row:Option Nat} (h:WrI I K n F o m db doff cap S C D w z y pre G A) (hz:z+2≤y) (hw:w.heap.size≤z) (hS:∀ k,I.S k→k<w.heap.size) (hK:∀ k,K k→k<w.heap.size) (hg:A.grownBy B row) (hr:∀ r,row=some r→G r∨r=y+6):WrI I K n F o m db doff cap S C D w z y pre G B:=by
 obtain ⟨a,hp,h⟩:=h;exact ⟨a,hp,h.turn hz hw hS hK hg hr⟩
theorem WrI.lay {pre:List (Nat × Nat × Nat)} (h:WrI I K n F o m db doff cap S C D w z y pre G A) (hz:z+2≤y) (hw:w.heap.size≤z) (hS:∀ k,I.S k→k<w.heap.size) (hK:∀ k,K k→k<w.heap.size) (hg:A.grownBy B none):WrI I K n F o m db doff cap S C D w z y pre (fun k=>G k∨(A.heap.size≤k∧k<B.heap.size)) B:=by
 obtain ⟨a,hp,h⟩:=h;exact ⟨a,hp,h.lay hz hw hS hK hg⟩
theorem WrC.disk {K1:Nat→Prop} (h:WrC I K n F o m db doff cap S C D w z y a G A) (hz:z+2≤y) (hw:w.heap.size≤z) (hS:∀ k,I.S k→k<w.heap.size) (hb:But I.S A B) (hd:Disk I B K1 n S (splice C (64*F+o) (D.take (a - o)))) (hk:∀ k,K1 k→(K k∨y+7≤k)∧k<B.heap.size∧¬ G k):WrC I K n F o m db doff cap S C D w z y a G B:=by
 have ns:∀ k,z≤k→¬ I.S k:=fun k hk e=>by have:=hS k e;omega
 obtain ⟨v,hbx,hv⟩:=h.b2;exact ⟨h.lo,h.hi,⟨K1,hd,hk⟩,(hb.block _ h.b0.lt (ns _ (by omega))).trans h.b0,⟨v,(hb.block _ hbx.lt (ns _ (by omega))).trans hbx,hv⟩,(hb.block _ h.b3.lt (ns _ (by omega))).trans h.b3,
  (hb.block _ (Array.getElem?_eq_some_iff.1 h.df).1 (ns _ (by omega))).trans h.df,h.but.trans hb,fun k hk=>⟨Nat.lt_of_lt_of_le (h.own k hk).1 hb.size,(h.own k hk).2⟩⟩
theorem WrC.next {K1:Nat→Prop} {k:Nat} {v':Value} (h:WrC I K n F o m db doff cap S C D w z y a G A) (hz:z+2≤y) (hw:w.heap.size≤z) (hS:∀ k,I.S k→k<w.heap.size) (hK:∀ k,K k→k<w.heap.size) (hak:a+k≤o+m)
  (hb:But I.S A B) (hd:Disk I B K1 n S (splice C (64*F+o) (D.take (a - o+k)))) (hk:∀ k,K1 k→(K k∨y+7≤k)∧k<B.heap.size∧¬ G k) (hv':a+k<o+m→v'=sB db doff cap m o (a+k)) :
  (B.setCell ⟨z+2,0,none⟩ v').heap[y+6]? =A.heap[y+6]? ∧Keeps (fun k=>G k∨k<0) A (B.setCell ⟨z+2,0,none⟩ v')∧WrC I K n F o m db doff cap S C D w z y (a+k) G (B.setCell ⟨z+2,0,none⟩ v'):=by
 have ns:∀ k,z≤k→¬ I.S k:=fun k hk e=>by have:=hS k e;omega
 have hlo:=h.lo;have L6:=h.own (y+6) (.inr rfl);have hg:=xF B (z+2) 0 v';have keep:∀ j,j<A.heap.size→z≤j→j≠z+2→(B.setCell ⟨z+2,0,none⟩ v').heap[j]? =A.heap[j]? :=fun j hj h1 h2=>(hg.block j (Nat.lt_of_lt_of_le hj hb.size) (fun e=>h2 (Option.some.inj e))).trans (hb.block j hj (ns j h1));obtain ⟨v,hbx,hv⟩:=h.b2;refine ⟨keep _ L6.1 (by omega) (by omega),⟨hb.os,hb.tape,hb.output,Nat.le_trans hb.size hg.size,fun j hj hG=> ?_⟩,⟨by omega,hak,⟨K1,?_,fun k hs=>⟨(hk k hs).1,Nat.lt_of_lt_of_le (hk k hs).2.1 hg.size,(hk k hs).2.2⟩⟩,?_,⟨v',?_,hv'⟩,?_,?_,?_,?_⟩⟩
 ·rcases hG with hG | hG
  ·have:=(h.own j (.inl hG)).2.1;exact keep j hj (by omega) (by omega)
  omega
 ·rw [show a+k - o=a - o+k by omega];refine hd.grown hg (fun r e=> ?_);cases e;refine ⟨ns _ (by omega),fun hs=> ?_⟩;rcases (hk _ hs).1 with h2 | h2
  ·have:=hK _ h2;omega
  omega
 ·exact (keep _ h.b0.lt (Nat.le_refl _) (by omega)).trans h.b0
 ·have:Boxed B (z+2) 34 v:=(hb.block _ hbx.lt (ns _ (by omega))).trans hbx;exact this.set _
 ·exact (keep _ h.b3.lt (by omega) (by omega)).trans h.b3
 ·exact (keep _ (Array.getElem?_eq_some_iff.1 h.df).1 (by omega) (by omega)).trans h.df
 ·exact (h.but.trans hb).grown hg (fun r e=> .inr (by cases e;omega))
 intro j hj;exact ⟨Nat.lt_of_lt_of_le (h.own j hj).1 (Nat.le_trans hb.size hg.size),(h.own j hj).2⟩
theorem b8 {α:Type} (L d:List α) (o n:Nat) (h:o+d.length≤n) (hn:n≤L.length):(splice L o d).take n=splice (L.take n) o d:=by
 apply List.ext_getElem?;intro k;rw [List.getElem?_take,getElem?_splice _ _ _ (by omega),getElem?_splice _ _ _ (by rw [List.length_take];omega),List.getElem?_take]
 repeat' split
 all_goals first | (exfalso;omega) | rfl
set_option maxRecDepth 100000
set_option maxHeartbeats 4000000
theorem Yt (I:DK) (K:Nat→Prop) (n F N o:Nat) (S C D:Bs) (v:Value) (w:World) (h:Disk I w K n S C) (hN:1≤N) (hF:F+N≤n) (ho:o+D.length≤64*N) (hK:∀ k,K k→k<w.heap.size) (hv:Byts w v D) (hf:∀ k,v.ownBlock=some k→¬ I.S k) :
  Calls Tryz.prog 132 #[.pointer (some ⟨I.dd,0,none⟩),.agg #[.int .i64 (F:Int),.int .i64 (N:Int)],.int .i64 (o:Int),v] w fun e w'=>e= .returned (.int .i64 0)∧Disk I w' (fun k=>K k∨(w.heap.size≤k∧k<w'.heap.size)) n S (splice C (64*F+o) D)∧But I.S w w':=by
 have hn2:=h.n2;have hlc:=h.lc;have hS:∀ k,I.S k→k<w.heap.size:=h.lt;obtain ⟨m,hm⟩:=KZ6 D.length;obtain ⟨ad,cap,rfl,hmc,hcm,hcc⟩:=hv.open;unfold maxLen at hcm;have HV:=KZ9 hv;have HF:=KZ9 hf;have HM:=KZ9 hm;have hdb:Hid (∃ db doff,(0<m→ad=some ⟨db,doff,none⟩)):=by
  rcases Nat.eq_zero_or_pos m with h0 | h0
  ·exact ⟨0,0,fun h=>by omega⟩
  obtain ⟨b,off,e,_⟩:=hcc (by rw [←hm];exact h0);exact ⟨b,off,fun _=>e⟩
 obtain ⟨db,doff,hdb⟩:=hdb.out;have HDB:=KZ9 hdb;rw [←hm] at ho hmc HV HF ⊢;clear hv hf hcc hm hdb;refine (callsIn_wide (n:=9)).1 ?_;refine callsIn_of_wp_marks Tryz.func132 rfl trivial ?_ rfl;simp only [Tryz.ntmps132,List.size_toArray,List.length_cons,List.length_nil,Nat.reduceAdd,Nat.reduceSub,Array.replicate_succ,Array.replicate_zero,List.push_toArray,List.append_toArray,List.nil_append,List.cons_append];obtain ⟨W0,hW0⟩:=KZ6 ((((w.alloc (.cells #[.pointer (some ⟨I.dd,0,none⟩)] 25)).alloc (.cells #[.int .i64 (F:Int),.int .i64 (N:Int)] 143)).alloc (.cells #[.slice ad m cap] 34)).alloc (.cells #[.int .i64 0] 30))
 gi_wp2
 obtain ⟨z,hz⟩:=KZ6 w.heap.size;have hs0:W0.heap.size=z+4:=by rw [hW0,hz];simp
 have hb0:Below w.heap.size w W0:=by rw [hW0];exact ((((Below.refl _ w).alloc (Nat.le_refl _) _).alloc (by simp) _).alloc (by simp;omega) _).alloc (by simp;omega) _
 have x0:Boxed W0 z 25 (.pointer (some ⟨I.dd,0,none⟩)):=by rw [hW0,hz];exact (((Boxed.new w _ _).alloc _).alloc _).alloc _
 have x1:BlkL W0 (z+1) 143 (te F N):=by
  rw [hW0,hz];have:=((BlkL.new (w.alloc (.cells #[.pointer (some ⟨I.dd,0,none⟩)] 25)) 143 (te F N)).alloc (.cells #[.slice ad m cap] 34)).alloc (.cells #[.int .i64 0] 30)
  rwa [World.size_alloc] at this
 have x2:Boxed W0 (z+2) 34 (.slice ad m cap):=by
  rw [hW0,hz];have:=(Boxed.new ((w.alloc (.cells #[.pointer (some ⟨I.dd,0,none⟩)] 25)).alloc (.cells #[.int .i64 (F:Int),.int .i64 (N:Int)] 143)) 34 (.slice ad m cap)).alloc (.cells #[.int .i64 0] 30)
  simpa only [World.size_alloc] using this
 have x3:Boxed W0 (z+3) 30 (.int .i64 0):=by
  rw [hW0,hz];have:=Boxed.new (((w.alloc (.cells #[.pointer (some ⟨I.dd,0,none⟩)] 25)).alloc (.cells #[.int .i64 (F:Int),.int .i64 (N:Int)] 143)).alloc (.cells #[.slice ad m cap] 34)) 30 (.int .i64 0)
  simpa only [World.size_alloc] using this
 have hd0:=h.below hb0;rw [←hW0,←hz];rw [show z+1+1+1=z+3 from rfl,show z+1+1=z+2 from rfl];have hck:=Yv I K n F N o m S C W0 hd0 hN hF ho;have HZ:=KZ9 hz;have HD:=KZ9 h;have HB0:=KZ9 hb0;have HX0:=KZ9 x0;have HX1:=KZ9 x1;have HX2:=KZ9 x2;have HX3:=KZ9 x3;clear hW0 hz x0 x1 x2 x3 h hb0 hd0;refine ⟨trivial,?_⟩;refine (callsIn_wide.2 hck).mono ?_;rintro e w1 ⟨rfl,hb1⟩;have hz1:z+4≤w1.heap.size:=by have:=hb1.size;omega
 have HB1:=KZ9 hb1;have e0:=(HX1.out.below HX1.out.lt hb1).c 0 _ rfl;have e1:=(HX1.out.below HX1.out.lt hb1).c 1 _ rfl;have e2:w1.cell? ⟨z+2,0,none⟩=some (.slice ad m cap):=(show Boxed w1 (z+2) 34 (.slice ad m cap) from (hb1.block _ (by omega)).trans HX2.out).cell;obtain ⟨y,hy⟩:∃ y,w1.heap.size=y+2:=⟨w1.heap.size - 2,by omega⟩;have hyz:z+2≤y:=by omega
 clear hb1 hck
 gi_wp2
 all_goals try omega
 refine ⟨trivial,?_⟩;refine (callsIn_wide.2 (Yu F N o m _)).mono ?_;rintro e w3 ⟨rfl,rfl⟩
 gi_wp2
 rw [show y+2+1=y+3 from rfl,show y+2+2=y+4 from rfl];obtain ⟨W5,hW5⟩:=KZ6 (((w1.alloc (.cells #[.int .i64 (F:Int),.int .i64 (N:Int)] 143)).alloc (.cells #[.int .i64 (o:Int)] 3)).alloc (.cells #[.int .i64 (m:Int)] 3));have hS5:W5.heap.size=y+5:=by rw [hW5];simp [hy]
 have hB15:Below w1.heap.size w1 W5:=by rw [hW5];exact (((Below.refl _ w1).alloc (Nat.le_refl _) _).alloc (by simp) _).alloc (by simp;omega) _
 have pe:BlkL W5 (y+2) 143 (te F N):=by
  rw [hW5];have:=((BlkL.new w1 143 (te F N)).alloc (.cells #[.int .i64 (o:Int)] 3)).alloc (.cells #[.int .i64 (m:Int)] 3)
  rwa [hy] at this
 have po:Boxed W5 (y+3) 3 (.int .i64 (o:Int)):=by
  rw [hW5];have:=(Boxed.new (w1.alloc (.cells #[.int .i64 (F:Int),.int .i64 (N:Int)] 143)) 3 (.int .i64 (o:Int))).alloc (.cells #[.int .i64 (m:Int)] 3)
  simpa only [World.size_alloc,hy] using this
 have pn:Boxed W5 (y+4) 3 (.int .i64 (m:Int)):=by
  rw [hW5];have:=Boxed.new ((w1.alloc (.cells #[.int .i64 (F:Int),.int .i64 (N:Int)] 143)).alloc (.cells #[.int .i64 (o:Int)] 3)) 3 (.int .i64 (m:Int))
  simpa only [World.size_alloc,hy] using this
 rw [←hW5];clear hW5;have hent:=fun (a:Act) ps asg bd=>enter_outer (F:=Fence.wide) (P:=Tryz.prog) rfl W5 a ps asg bd;rw [hS5] at hent;have hps:=dp 8 (y+2) (y+3) (y+4) 0 F N o m W5 (by omega) pe po pn (by omega) (by omega) (by omega);have hb05:Below W0.heap.size W0 W5:=HB1.out.trans (hB15.mono HB1.out.size);have hbw5:Below w.heap.size w W5:=HB0.out.trans (hb05.mono HB0.out.size);have hwz:=Nat.le_of_eq HZ.out.symm;have HC5:=KZ9 (fun (o':Obj) (G:Nat→Prop) (hG:∀ k,G k→k=y+2∨k=y+3∨k=y+4)=>(⟨Nat.le_refl _,by omega,⟨K,by rw [Nat.sub_self,List.take_zero,jS];exact HD.out.below (hbw5.trans ((((Below.refl _ W5).alloc (Nat.le_refl _) (.deferred (some []))).alloc (by simp) o').mono hbw5.size)),fun k hk=>⟨.inl hk,by have:=hK k hk;have:=hbw5.size;simp;omega,fun h=>by have:=hK k hk;have:=hG k h;omega⟩⟩,((Boxed.alloc ((hb05.block z (by omega)).trans HX0.out) _).alloc _),
  ⟨_,((Boxed.alloc ((hb05.block (z+2) (by omega)).trans HX2.out) _).alloc _),fun h=>by unfold sB;rw [HDB.out (by omega),Nat.sub_self,Nat.add_zero,Nat.sub_zero,Nat.sub_zero]⟩,((Boxed.alloc ((hb05.block (z+3) (by omega)).trans HX3.out) _).alloc _),
  (Below.heap_alloc _ o' _ (by simp;omega)).trans (by have hd:=World.alloc_heap_new W5 (.deferred (some []));rw [hS5] at hd;exact hd),But.of_below _ (hbw5.trans ((((Below.refl _ W5).alloc (Nat.le_refl _) (.deferred (some []))).alloc (by simp) o').mono hbw5.size)),fun k hk=>by
   have hk2:k=y+2∨k=y+3∨k=y+4∨k=y+6:=by
    rcases hk with hk | hk
    ·have:=hG k hk;omega
    omega
   exact ⟨by simp;omega,by omega,by omega⟩⟩:WrC I K n F o m db doff cap S C D w z y o G ((W5.alloc (.deferred (some []))).alloc o')))
 clear pe po pn hB15 hb05 e0 e1 e2 HX0 HX1 HX2 HX3 HB0 HB1 hy;refine range_law (w₁:=W5.alloc (.deferred (some []))) (L:=y+6) (by omega) (by simp;omega) (hent _ _ _ _) (gf:=262) (lb:=#[.pointer (some ⟨y+3,0,none⟩),.pointer (some ⟨y+4,0,none⟩),.pointer (some ⟨y+2,0,none⟩)]) rfl trivial (enters_of Tryz.func262 (by kernel_rfl) rfl)
  hps ((Below.refl _ W5).alloc (Nat.le_refl _) _) (fun _=>rfl) (by omega) (by omega)
  (WrI I K n F o m db doff cap S C D w z y) (fun _ _ _ _=>False) (fun _ _ _ _ _ h hg hr=>h.turn hyz hwz hS hK hg hr) (fun _ _ _ _ h hg=>h.lay hyz hwz hS hK hg) (fun _ _ _ _ _ _ h _ _=>h) (fun _ _ _ _ _ h _=>h) ?start
  (fun x a' W'=>∃ pb,a'={ tmps:=#[.pointer (some ⟨I.dd,0,none⟩),.agg #[.int .i64 (F:Int),.int .i64 (N:Int)],.int .i64 (o:Int),.slice ad m cap,.pointer (some ⟨z,0,none⟩),.pointer (some ⟨z+1,0,none⟩),undef,.pointer (some ⟨z+2,0,none⟩),.pointer (some ⟨z+3,0,none⟩),.int .i64 0,.pointer (some ⟨pb,0,none⟩),undef,undef,undef,undef,undef,.pointer (some ⟨I.dd,0,none⟩),.agg #[.int .i64 (F:Int),.int .i64 (N:Int)],.int .i64 (o:Int),.slice ad m cap,.int .i64 (m:Int),.int .i64 0,.int .i64 0,.bool false,undef,.agg #[.int .i64 (F:Int),.int .i64 (N:Int)],.int .i64 (o:Int),.slice ad m cap,.int .i64 (m:Int),.func (.func 262) #[] #[.pointer (some ⟨y+3,0,none⟩),.pointer (some ⟨y+4,0,none⟩),.pointer (some ⟨y+2,0,none⟩)],.agg #[.int .i64 (x.1:Int),.int .i64 (x.2.1:Int),.int .i64 (x.2.2:Int)],undef,undef,undef,undef,undef,undef,undef,undef,undef,undef,undef,undef,undef,undef,undef,undef,undef,undef,undef,undef,undef,undef,undef,undef,undef,undef,undef,undef,undef,undef,undef,undef,undef,undef,undef,undef,undef,undef,undef,undef],defers:=[] }∧y+7≤pb∧BlkL W' pb 289 [.int .i64 (x.1:Int),.int .i64 (x.2.1:Int),.int .i64 (x.2.2:Int)]) (fun x a' A B row h hg hr=>by
   obtain ⟨pb,h1,h2,h3⟩:=h;exact ⟨pb,h1,h2,h3.grown hg (fun e=>by have:=hr _ e.symm;omega)⟩) ?assign ?body ?done ?stop
 case start =>
  intro o';exact ⟨o,rfl,HC5.out o' _ (fun k hk=>by rcases hk with h | h | h<;>omega)⟩
 case assign =>
  intro pre x G W' Kk hI hsp hKk
  dsimp only [WL]
  gi_wp2
  have hlt:y+6<W'.heap.size:=by
   obtain ⟨a,_,h⟩:=hI;exact (h.own _ (.inr rfl)).1
  refine hKk _ _ (Below.heap_alloc _ _ _ hlt) (Keeps.alloc _ _ _) (hI.turn hyz hwz hS hK (World.grownBy_alloc _ _ none) (fun r e=>by cases e)) ⟨W'.heap.size,rfl,by omega,BlkL.new W' 289 [.int .i64 (x.1:Int),.int .i64 (x.2.1:Int),.int .i64 (x.2.2:Int)]⟩
 case body =>
  rintro pre x G a' Wb ⟨r0,hr0⟩ hI ⟨pb,rfl,hpb,hpB⟩ ⟨post,hpost⟩;obtain ⟨a,hpa,hR⟩:=hI;have hy6:y+6<Wb.heap.size:=(Array.getElem?_eq_some_iff.1 hr0).1;have halt:a<o+m:=by
   refine Decidable.byContradiction fun h=> ?_;rw [rO _ _ _ h,List.append_nil] at hpa;rw [hpa,List.append_assoc] at hpost;simp at hpost
  have hx:x=(F+a / 64,a % 64,min 64 (a % 64+(o+m - a)))∧(pre++[x])++xl F (a+(min 64 (a % 64+(o+m - a)) - a % 64)) (o+m)=xl F o (o+m):=by
   rw [vq F a (o+m) halt] at hpa;have h2:=hpost.trans hpa.symm;rw [List.append_assoc] at h2;have h3:=List.append_cancel_left h2;simp only [List.singleton_append,List.cons.injEq] at h3;refine ⟨h3.1,?_⟩;rw [←hpa,h3.1];simp
  obtain ⟨hx,hnx⟩:=hx;obtain ⟨sx,fx,tx⟩:=x;simp only [Prod.mk.injEq] at hx;obtain ⟨hx1,hx2,hx3⟩:=hx;rw [←hx2] at hnx hx3;rw [←hx3] at hnx;have hlo:=hR.lo;have hsn:sx<n:=by omega
  have hft:fx<tx:=by omega
  have ht64:tx≤64:=by omega
  obtain ⟨k,hk⟩:=KZ6 (tx - fx);rw [←hk] at hnx;have hkf:tx=fx+k:=by omega
  have hk0:0<k:=by omega
  have hfk:fx+k≤64:=by omega
  have hpos:64*sx+fx=64*F+o+(a - o):=by omega
  have hat':a+k≤o+m:=by omega
  obtain ⟨q,hq⟩:=KZ6 (a - o);have hqk:q+k≤m:=by omega
  obtain ⟨K',hdk,hkk⟩:=hR.dk;obtain ⟨v,hvb,hvv⟩:=hR.b2;have hvl:=hvv halt;unfold sB at hvl;rw [←hq] at hvl hdk hpos;subst hvl;have ead:=HDB.out (by omega);subst ead;have hbW:Byts Wb (.slice (some ⟨db,doff,none⟩) m cap) D:=HV.out.but hR.but HF.out;have hlD:=HM.out;obtain ⟨d,hd⟩:=KZ6 ((D.drop q).take k);have hdl:d.length=k:=by rw [hd,List.length_take,List.length_drop];omega
  obtain ⟨C1,hC1⟩:=KZ6 (splice C (64*F+o) (D.take q));have hC1l:C1.length=64*n:=by rw [hC1,length_splice _ _ _ (by rw [List.length_take];omega)];exact hlc
  have hfin:splice C1 (64*sx+fx) d=splice C (64*F+o) (D.take (q+k)):=by
   have h1:=Zj (C:=C) (d:=D.take q) (e:=d) (o:=64*F+o) (by rw [hdl,List.length_take];omega);rw [List.length_take,show min q D.length=q by omega] at h1;rw [hC1,hpos,h1,hd,←List.take_add]
  rw [←hC1] at hdk;obtain ⟨p0,p1,p2⟩:=BlkL.cs3 hpB;have d0:=hR.b0.cell;have v0:=hvb.cell;have HNX:=KZ9 hnx;have HPOS:=KZ9 hpos;have HH:=KZ9 hR;have HPB:=KZ9 hpB;have HDK:=KZ9 hdk;have HKK:=KZ9 hkk;have HBW:=KZ9 hbW;have HDD:=KZ9 hd;have HFIN:=KZ9 hfin;have HQ:=KZ9 hq;have HC1:=KZ9 hC1
  dsimp only at p0 p1 p2
  have hk1:(tx:Int) - (fx:Int)=(k:Int):=by omega
  have HKF:=KZ9 hkf;have hr3:tx - fx=k:=by omega
  clear hkf;clear hx1 hx2 hx3 hnx hpos hpost hpa hpB hR hdk hkk hvb hvv hbW hlD hd hfin hq hC1 hk;have hcq:k≤cap - q:=by omega
  have ns:∀ k,z≤k→¬ I.S k:=fun k hk e=>by have:=hS k e;omega
  by_cases h64:k<64
  ·have HRD:=KZ9 (cF I Wb K' n sx S C1 HDK.out hsn)
   gi_wp2
   all_goals try omega
   refine ⟨trivial,?_⟩;refine (CallsIn.inRound _ (callsIn_wide.2 HRD.out)).mono ?_;rintro e w2 ⟨g,c,rfl,hown,hd2,hb2⟩;have hs2:=hb2.size;have hgb:=hown.lt g rfl;have hR2:=HH.out.disk hyz hwz hS hb2 (by rw [←HQ.out,←HC1.out];exact hd2) (fun k hk=>⟨(HKK.out k hk).1,Nat.lt_of_lt_of_le (HKK.out k hk).2.1 hb2.size,(HKK.out k hk).2.2⟩);have hpb2:=HPB.out.but hb2 (ns _ (by omega));have q1:=hpb2.c 1 _ rfl;have q2:=hpb2.c 2 _ rfl;have q0:=hpb2.c 0 _ rfl;have b0:=hR2.b0.cell;have hc64:64≤c:=by
    rcases hown.2 with ⟨e,_⟩ | ⟨g',cap',cur,e,_,_,h5,_⟩
    ·cases e
    injection e with _ _ e3
    omega
   obtain ⟨hrl,⟨e,_⟩ | ⟨g',cap',cur,e,_,hgg,_,hcm',hcs,htk⟩⟩:=id hown
   ·cases e
   injection e with e1 _ e2
   injection e1 with e1
   injection e1 with e1
   subst e1 e2;have hby2:Byts w2 (.slice (some ⟨db,doff,none⟩) m cap) D:=HBW.out.but hb2 HF.out;have hdB:Byts w2 (.slice (some ⟨db,doff+q,none⟩) k (cap - q)) d:=by
    have:=hby2.cut q k (cap - q) (by omega) hcq (by omega);rw [←HDD.out] at this;exact this
   have hsrc:∀ j u,(zc d)[j]? =some u→w2.cell? ((⟨db,doff+q,none⟩:Addr).add j)=some u:=by
    obtain ⟨_,a2,c2,he,_,_,h2⟩:=hdB;injection he with he _ _
    subst he;rcases h2 with h2 | ⟨b3,o3,he3,hl3,hc3⟩
    ·omega
    injection he3 with he3
    injection he3 with he4 he5
    subst he4 he5;intro j u hj;rw [pJ];exact hc3 j u hj
   have hcp:=run_copy_row (P:=Tryz.prog) w2 34 34 3 5 g fx k (c - fx) ⟨db,doff+q,none⟩ k (cap - q) cur 5 (zc d) Tryz.underlying34 qc hgg (by rw [zX,hdl];exact (Nat.min_self k).symm) hsrc (by rw [zX,hdl,hcs];omega) (xe d);rw [zX,hdl] at hcp;obtain ⟨w3,hw3⟩:=KZ6 (w2.setRow g (cur.toList.take fx++zc d++cur.toList.drop (fx+k)).toArray);rw [←hw3] at hcp;have hsl:=xE hC1l hsn;have hb3:But (fun j=>j=g) w2 w3:=by rw [hw3];exact (But.setRow (S:=fun j=>j=g) (But.refl _ w2) (.inl rfl) _)
   have hgS:∀ k,(Value.slice (some ⟨g,0,none⟩) 64 c).ownBlock=some k→¬ I.S k:=fun k e=>by
    have e2:g=k:=by simpa [Value.ownBlock] using e
    subst e2;exact ns _ (by omega)
   have hnl:(splice (sec C1 sx) fx d).length=64:=by rw [length_splice _ _ _ (by omega)];exact hsl
   have hrow3:Byts w3 (.slice (some ⟨g,0,none⟩) 64 c) (splice (sec C1 sx) fx d):=by
    refine Byts.owned (base:=0) ?_;rw [hnl];refine ⟨by simp [hnl],.inr ⟨g,c,_,rfl,Nat.zero_le _,by rw [hw3];exact setRow_heap w2 g _ _ _ _ hgg,hc64,hcm',?_,?_⟩⟩
    ·simp only [List.size_toArray,List.length_append,List.length_take,List.length_drop,Array.length_toList,zX,hdl,hcs];omega
    rw [←rB];have hct:zc (sec C1 sx)=cur.toList.take 64:=htk.symm;have h1:=b8 cur.toList (zc d) fx 64 (by rw [zX,hdl];exact hfk) (by rw [Array.length_toList,hcs];omega);rw [hct,←h1];unfold splice;rw [zX,hdl,List.append_assoc]
   have hgK:¬ K' g:=fun h=>by have:=(HKK.out g h).2.1;omega
   have hdk3:Disk I w3 K' n S C1:=hd2.kept hb3 (fun k hk e=>by subst e;exact ns _ (by omega) hk) (fun b cur hb _ _ e=>by subst e;exact hgK hb);have hbu3:But I.S Wb w3:=hb2.step hb3 (fun i e=> .inr (by have e2:i=g:=e;omega));have hR3:=HH.out.disk hyz hwz hS hbu3 (by rw [←HQ.out,←HC1.out];exact hdk3) (fun k hk=>⟨(HKK.out k hk).1,Nat.lt_of_lt_of_le (HKK.out k hk).2.1 hbu3.size,(HKK.out k hk).2.2⟩);have hpbl:=HPB.out.lt;have hpb3:=hpb2.but hb3 (by show ¬ pb=g;omega);have s0:=hpb3.c 0 _ rfl;have t0:=hR3.b0.cell;have HWR:=KZ9 (jU I w3 K' n sx S C1 _ _ hdk3 hsn hrow3 hnl hgS);have HL3:Hid (w3.heap[y+6]? =Wb.heap[y+6]?):=KZ9 (hbu3.block _ hy6 (ns _ (by omega)));have HK3:Hid (Keeps (fun k=>G k∨k<0) Wb w3):=KZ9 ⟨hbu3.os,hbu3.tape,hbu3.output,hbu3.size,fun j hj hG=>hbu3.block j hj (by rcases hG with hG | hG;exact ns j (by have:=(HH.out.own j (.inl hG)).2.1;omega);omega)⟩;have HR3:=KZ9 hR3
   have HBU3:=KZ9 hbu3;have hs3:=hbu3.size;try dsimp only at q0 q1 q2 s0
   have r1:((fx:Int)).toNat=fx:=by omega
   have r2:((tx:Int)).toNat=tx:=by omega
   have r4:¬ c=fx:=by omega
   have HGB:=KZ9 hgb;clear hown hd2 hb2 hR2 hpb2 hrl hgg hcm' hcs htk hby2 hdB hsrc hw3 hb3 hrow3 hdk3 hbu3 hR3 hpb3 HRD hgK hgS hnl hsl p0 p1 p2 d0 v0 hgb
   gi_wp2
   all_goals try omega
   refine ⟨trivial,?_⟩;refine (CallsIn.inRound _ (callsIn_wide.2 HWR.out)).mono ?_;rintro e w4 ⟨rfl,hd4,hb4⟩;have hN:=fun (v':Value) hv'=>HR3.out.next (B:=w4) (k:=k) (v':=v') hyz hwz hS hK hat' hb4 (by rw [←HQ.out,←HFIN.out];rw [Zi hC1l hsn (by rw [hdl];exact hfk)] at hd4;exact hd4) (fun j hj=>by
    rcases hj with hj | ⟨h1,h2⟩
    ·exact ⟨(HKK.out j hj).1,Nat.lt_of_lt_of_le (HKK.out j hj).2.1 (Nat.le_trans hs3 hb4.size),(HKK.out j hj).2.2⟩
    exact ⟨.inr (by omega),h2,fun hG=>by have:=(HR3.out.own j (.inl hG)).1;omega⟩) hv'
   obtain ⟨v3,hv3,hv3'⟩:=HR3.out.b2;have e3:=hv3' halt;unfold sB at e3;rw [←HQ.out] at e3;subst e3;have hv4:Boxed w4 (z+2) 34 (.slice (some ⟨db,doff+q,none⟩) (m - q) (cap - q)):=(hb4.block _ hv3.lt (ns _ (by omega))).trans hv3;have u4:=hv4.cell;have u5:=hv4.frozen;have HN2:=KZ9 hN;have r5:((fx:Int)+(k:Int) - (fx:Int))=(k:Int):=by omega
   have r6:(k:Int)≤((m - q:Nat):Int):=by omega
   have r7:((k:Int)).toNat=k:=by omega
   clear hd4 hb4 hN hv3 hv3' hv4 HWR
   gi_wp2
   all_goals try omega
   all_goals exact (show _∧_∧_ from ⟨(HN2.out _ (fun h=>by first | (exfalso;have:=HQ.out;omega) | (unfold sB;rw [show a+k - o=q+k by have:=HQ.out;omega];simp only [Nat.add_assoc,Nat.sub_sub]))).1.trans HL3.out,HK3.out.trans (HN2.out _ (fun h=>by first | (exfalso;have:=HQ.out;omega) | (unfold sB;rw [show a+k - o=q+k by have:=HQ.out;omega];simp only [Nat.add_assoc,Nat.sub_sub]))).2.1,_,HNX.out,(HN2.out _ (fun h=>by first | (exfalso;have:=HQ.out;omega) | (unfold sB;rw [show a+k - o=q+k by have:=HQ.out;omega];simp only [Nat.add_assoc,Nat.sub_sub]))).2.2⟩)
  obtain rfl:k=64:=by omega
  obtain rfl:fx=0:=by omega
  obtain rfl:tx=64:=by have:=HKF.out;omega
  clear hr3 hk1 hfk hft ht64 h64;have hby2:Byts Wb (.slice (some ⟨db,doff,none⟩) m cap) D:=HBW.out;have hdB:Byts Wb (.slice (some ⟨db,doff+q,none⟩) 64 (cap - q)) d:=by
   have:=hby2.cut q 64 (cap - q) (by omega) hcq (by omega);rw [←HDD.out] at this;exact this
  have HWR:=KZ9 (jU I Wb K' n sx S C1 d _ HDK.out hsn hdB hdl (fun j e=>HF.out j (by simpa [Value.ownBlock] using e)));clear hdB hby2
  gi_wp2
  all_goals try omega
  refine ⟨trivial,?_⟩;refine (CallsIn.inRound _ (callsIn_wide.2 HWR.out)).mono ?_;rintro e w4 ⟨rfl,hd4,hb4⟩;have hN:=fun (v':Value) hv'=>HH.out.next (B:=w4) (k:=64) (v':=v') hyz hwz hS hK hat' hb4 (by rw [←HQ.out,←HFIN.out];exact hd4) (fun j hj=>by
   rcases hj with hj | ⟨h1,h2⟩
   ·exact ⟨(HKK.out j hj).1,Nat.lt_of_lt_of_le (HKK.out j hj).2.1 hb4.size,(HKK.out j hj).2.2⟩
   exact ⟨.inr (by omega),h2,fun hG=>by have:=(HH.out.own j (.inl hG)).1;omega⟩) hv'
  have u4:w4.cell? ⟨z+2,0,none⟩=some (.slice (some ⟨db,doff+q,none⟩) (m - q) (cap - q)):=(hb4.cell (by have:=hy6;omega) (ns _ (by omega))).trans v0;have u5:w4.frozen? ⟨z+2,0,none⟩=false:=by
   obtain ⟨v3,hv3,_⟩:=HH.out.b2;exact (show Boxed w4 (z+2) 34 v3 from (hb4.block _ hv3.lt (ns _ (by omega))).trans hv3).frozen
  have HN2:=KZ9 hN;have HK3:Hid (Keeps (fun k=>G k∨k<0) Wb Wb):=KZ9 (Keeps.refl _ _);have r6:(64:Int)≤((m - q:Nat):Int):=by omega
  clear hd4 hb4 hN HWR v0 d0 p0 p1 p2
  gi_wp2
  all_goals try omega
  all_goals exact (show _∧_∧_ from ⟨(HN2.out _ (fun h=>by first | (exfalso;have:=HQ.out;omega) | (unfold sB;rw [show a+64 - o=q+64 by have:=HQ.out;omega];simp only [Nat.add_assoc,Nat.sub_sub]))).1.trans rfl,HK3.out.trans (HN2.out _ (fun h=>by first | (exfalso;have:=HQ.out;omega) | (unfold sB;rw [show a+64 - o=q+64 by have:=HQ.out;omega];simp only [Nat.add_assoc,Nat.sub_sub]))).2.1,_,HNX.out,(HN2.out _ (fun h=>by first | (exfalso;have:=HQ.out;omega) | (unfold sB;rw [show a+64 - o=q+64 by have:=HQ.out;omega];simp only [Nat.add_assoc,Nat.sub_sub]))).2.2⟩)
 case done =>
  rintro xs G W rfl ⟨a,hp,hR⟩;have hnl:¬ a<o+m:=fun h=>by
   rw [vq F a (o+m) h] at hp;have:=congrArg List.length hp;simp at this
  obtain rfl:a=o+m:=by have:=hR.hi;omega
  obtain ⟨K',hdk,hkk⟩:=hR.dk;rw [show o+m - o=m by omega,HM.out,List.take_length] at hdk;have b1:=hR.b3;have hd:=hR.df;have e1:=b1.cell;have f1:=b1.frozen;have HR4:=KZ9 hR;have HDK:=KZ9 hdk;have HKK:=KZ9 hkk;clear hp hnl hR hdk hkk
  gi_wp2
  have hd':(W.setCell ⟨z+3,0,none⟩ (.int .i64 0)).heap[y+5]? =some (.deferred (some [])):=(Below.heap_setCell _ _ _ _ (by simp;omega)).trans hd;have d1:=(b1.set (.int .i64 0)).kept (grownBy_putObj' _ (y+5) (.deferred none)) (by simp;omega);have g1:=grown_setCell W (z+3) 0 (.int .i64 0);have g3:=grownBy_putObj' (W.setCell ⟨z+3,0,none⟩ (.int .i64 0)) (y+5) (.deferred none);have sep:∀ j,z≤j→(∀ hj:y+7≤j,False)→¬ I.S j∧¬ K' j:=fun j hj hn=>⟨fun h=>by have:=hS j h;omega,fun h=>by
   rcases (HKK.out j h).1 with h2 | h2
   ·have:=hK j h2;omega
   exact hn h2⟩
  have hdk:=(HDK.out.grown g1 (fun r e=>by cases e;exact sep _ (by omega) (fun h=>by omega))).grown g3 (fun r e=>by cases e;exact sep _ (by omega) (fun h=>by omega));have hbt:=(HR4.out.but.grown g1 (fun k e=> .inr (by cases e;omega))).grown g3 (fun k e=> .inr (by cases e;omega));refine ⟨by simp,.inl ⟨_,_,rfl,run_takeDeferred hd',?_⟩⟩;refine ⟨.int .i64 0,?_,rfl,hdk.mono fun k hk=> ?_,hbt⟩
  ·have e1:=d1.cell;simp [results,Tryz.f132,go_sem,e1]
  have hs3:=Nat.le_trans g1.size g3.size;rcases (HKK.out k hk).1 with h2 | h2
  ·exact .inl h2
  exact .inr ⟨by omega,Nat.lt_of_lt_of_le (HKK.out k hk).2.1 hs3⟩
 case stop =>
  rintro c pre G W' _ h;exact h.elim
end Go.Proofs.YtbnnlkdhpifpeaaGreatDoor
namespace Go.Proofs.YtbnnlkdhpifpeaaGreatDoor
open Go.RowKit Hs
theorem WX:(Tryz.prog.info? 146).map (·.size)=some 9:=by kernel_rfl
def uW (cap h s:Nat):List Value:=[.int .i64 (cap:Int),.int .i64 2,.int .i64 (s:Int),.int .i64 ((2+h:Nat):Int),.int .i64 (s:Int),.int .i64 ((2+s:Nat):Int),.int .i64 ((h - s:Nat):Int),.int .i64 ((2+h+s:Nat):Int),.int .i64 ((h - s:Nat):Int)]
def DskE (I:DK) (w:World) (n:Nat) (S C:Bs):Prop:=∃ K:Nat→Prop,(∀ k,K k→k<w.heap.size)∧Disk I w K n S C
theorem DskE.lt {I:DK} {w:World} {n:Nat} {S C:Bs} (h:DskE I w n S C):∀ k,I.S k→k<w.heap.size:=by
 obtain ⟨K,hK,hd⟩:=h;exact hd.lt
theorem DskE.below {I:DK} {w w':World} {n:Nat} {S C:Bs} (h:DskE I w n S C) (hb:Below w.heap.size w w'):DskE I w' n S C:=by
 obtain ⟨K,hK,hd⟩:=h;exact ⟨K,fun k hk=>Nat.lt_of_lt_of_le (hK k hk) hb.size,hd.below hb⟩
theorem DskE.typed {I:DK} {w w':World} {n g:Nat} {S C:Bs} (h:DskE I w n S C) {cs:Array Value} {T:TypeId} {fz:Nat × Nat} (hg:w.heap[g]? =some (.cells cs T fz)) (hT:T≠5) (hD:T≠86) (hb:But (fun k=>k=g) w w'):DskE I w' n S C:=by
 obtain ⟨K,hK,hd⟩:=h;exact ⟨K,fun k hk=>Nat.lt_of_lt_of_le (hK k hk) hb.size,hd.typed hg hT hD hb⟩
theorem DskE.len {I:DK} {w:World} {n:Nat} {S C:Bs} (h:DskE I w n S C):C.length=64*n:=by
 obtain ⟨K,hK,hd⟩:=h;exact hd.lc
theorem DskE.other {I:DK} {w:World} {n g:Nat} {S C:Bs} (h:DskE I w n S C) {cs:List Value} {T:TypeId} (hg:BlkL w g T cs) (hT:T≠5) (hD:T≠86):¬ I.S g:=by
 obtain ⟨K,hK,⟨⟨cnt,D,e1,e2,e3⟩,e4,_⟩⟩:=h;unfold BlkL at hg e1 e4;rintro (rfl | rfl | rfl)
 ·rw [hg] at e1;simp at e1;exact hD e1.2
 ·rw [hg] at e4;simp at e4;exact hT e4.2
 obtain ⟨es,clock,hbk,_⟩:=e2;rw [hg] at hbk;cases hbk
theorem Byts.but {S:Nat→Prop} {w w':World} {v:Value} {l:Bs} (h:Byts w v l) (hb:But S w w') (hs:∀ k,v.ownBlock=some k→¬ S k):Byts w' v l:=Row.but h hb hs
theorem Zq (I:DK) (n F N o:Nat) (S C D:Bs) (v:Value) (w:World) (h:DskE I w n S C) (hN:1≤N) (hF:F+N≤n) (ho:o+D.length≤64*N) (hv:Byts w v D) (hf:∀ k,v.ownBlock=some k→¬ I.S k) :
  Calls Tryz.prog 132 #[.pointer (some ⟨I.dd,0,none⟩),.agg #[.int .i64 (F:Int),.int .i64 (N:Int)],.int .i64 (o:Int),v] w fun e w'=>e= .returned (.int .i64 0)∧DskE I w' n S (splice C (64*F+o) D)∧But I.S w w':=by
 obtain ⟨K,hK,hd⟩:=h;refine (Yt I K n F N o S C D v w hd hN hF ho hK hv hf).mono ?_;rintro e w1 ⟨rfl,hd1,hb1⟩;exact ⟨rfl,⟨_,fun k hk=>hk.elim (fun h=>Nat.lt_of_lt_of_le (hK k h) hb1.size) (fun h=>h.2),hd1⟩,hb1⟩
theorem Tz (I:DK) (w:World) (n i:Nat) (S C d:Bs) (v:Value) (h:DskE I w n S C) (hi:i<n) (hv:Byts w v d) (hd:d.length=64) (hf:∀ k,v.ownBlock=some k→¬ I.S k):Calls Tryz.prog 72 #[.pointer (some ⟨I.dd,0,none⟩),.int .i64 (i:Int),v] w fun e w'=>e= .returned (.int .i64 0)∧DskE I w' n S (splice C (64*i) d)∧But I.S w w':=by
 obtain ⟨K,hK,hdd⟩:=h;refine (jU I w K n i S C d v hdd hi hv hd hf).mono ?_;rintro e w1 ⟨rfl,hd1,hb1⟩;exact ⟨rfl,⟨_,fun k hk=>hk.elim (fun h=>Nat.lt_of_lt_of_le (hK k h) hb1.size) (fun h=>h.2),hd1⟩,hb1⟩
theorem WD (I:DK) (w:World) (n:Nat) (S C:Bs) (h:DskE I w n S C):Calls Tryz.prog 70 #[.pointer (some ⟨I.dd,0,none⟩)] w fun e w'=>e= .returned (.int .i64 0)∧DskE I w' n C C∧But I.S w w':=by
 obtain ⟨K,hK,hd⟩:=h;refine (cE I w K n S C hd).mono ?_;rintro e w1 ⟨rfl,hd1,hb1⟩;exact ⟨rfl,⟨K,fun k hk=>Nat.lt_of_lt_of_le (hK k hk) hb1.size,hd1⟩,hb1⟩
theorem Xk (d a:Option Addr) (m c:Nat) (cs:List Value) (w:World):Calls Tryz.prog 68 #[.pointer d,.agg cs.toArray,.int .i64 0,.slice a m c] w fun e w'=>e= .returned (.tuple #[.func (.func 131) #[] #[.pointer (some ⟨w.heap.size,0,none⟩),.pointer (some ⟨w.heap.size+1,0,none⟩),.pointer (some ⟨w.heap.size+2,0,none⟩),.pointer (some ⟨w.heap.size+3,0,none⟩)],.func (.func 133) #[] #[.pointer (some ⟨w.heap.size,0,none⟩),.pointer (some ⟨w.heap.size+1,0,none⟩),.pointer (some ⟨w.heap.size+2,0,none⟩)]])∧w'=(((w.alloc (.cells #[.pointer d] 25)).alloc (.cells cs.toArray 146)).alloc (.cells #[.int .i64 0] 3)).alloc (.cells #[.slice a m c] 34):=by
 go_enter Tryz.func68,Tryz.ntmps68
 go_wp2_with fail
 go_ret2;exact ⟨rfl,rfl⟩
set_option maxRecDepth 20000
set_option maxHeartbeats 4000000
theorem TH (I:DK) (n cap h s:Nat) (S C D:Bs) (v:Value) (z0 z1 z2 z3:Nat) (w:World) (hd:DskE I w n S C) (b0:BlkL w z0 25 [.pointer (some ⟨I.dd,0,none⟩)]) (b1:BlkL w z1 146 (uW cap h s)) (b2:BlkL w z2 3 [.int .i64 0]) (b3:BlkL w z3 34 [v]) (hv:Byts w v D) (hf:∀ k,v.ownBlock=some k→¬ I.S k) (hs:1≤s) (hn:2+s≤n) (hD:D.length≤64*s) :
  Calls Tryz.prog 131 #[.pointer (some ⟨z0,0,none⟩),.pointer (some ⟨z1,0,none⟩),.pointer (some ⟨z2,0,none⟩),.pointer (some ⟨z3,0,none⟩)] w fun e w'=>e= .returned (.int .i64 0)∧DskE I w' n S (splice C (64*2) D)∧But I.S w w':=by
 have hb:Below w.heap.size w w.drew:=(Below.refl _ w).drew;have HW:=KZ9 (Zq I n 2 s 0 S C D v w.drew (hd.below hb) hs hn (by omega) (hv.below hb) hf);have c0:=b0.drew.c 0 _ rfl;have c1:=b1.drew.c 1 _ rfl;have c2:=b1.drew.c 2 _ rfl;have c3:=b2.drew.c 0 _ rfl;have c4:=b3.drew.c 0 _ rfl;clear hd b0 b1 b2 b3 hv hf hb;go_enter Tryz.func131,Tryz.ntmps131
 go_upto_region 1 with fail
 go_region_with (go_at_call 132;refine HW.out.mono ?_;rintro e w1 ⟨rfl,hd1,hb1⟩)
 all_goals (
  have HD1:=KZ9 hd1;have HB1:=KZ9 hb1;clear hd1 hb1 c0 c1 c2 c3 c4;go_wp2;go_ret;exact ⟨rfl,HD1.out,(But.drew (But.refl I.S w)).trans HB1.out⟩)
theorem TG (I:DK) (n cap h s:Nat) (S C:Bs) (z0 z1 z2:Nat) (w:World) (hd:DskE I w n S C) (b0:BlkL w z0 25 [.pointer (some ⟨I.dd,0,none⟩)]) (b1:BlkL w z1 146 (uW cap h s)) (b2:BlkL w z2 3 [.int .i64 0]) (hs:s<h) (hn:2+h≤n) (h100:h≤100) :
  Calls Tryz.prog 133 #[.pointer (some ⟨z0,0,none⟩),.pointer (some ⟨z1,0,none⟩),.pointer (some ⟨z2,0,none⟩)] w fun e w'=>e= .returned (.int .i64 0)∧DskE I w' n S (splice C (64*(2+s)) (zs (64*(h - s))))∧But I.S w w':=by
 obtain ⟨iB0,iB⟩:=info_parts yD;have hb:Below w.heap.size w w.drew:=(Below.refl _ w).drew;have HS:Hid (Calls Tryz.prog 134 #[.agg #[.int .i64 ((2+s:Nat):Int),.int .i64 ((h - s:Nat):Int)]] w.drew fun e w'=>e= .returned (.int .i64 ((64*(h - s):Nat):Int))∧Below w.drew.heap.size w.drew w'):=KZ9 (qQ (2+s) (h - s) w.drew (by omega));have HW:=KZ9 (fun W v (hW:Below w.heap.size w W) (hv:Byts W v (zs (64*(h - s)))) (hf:∀ k,v.ownBlock=some k→¬ I.S k)=>Zq I n (2+s) (h - s) 0 S C (zs (64*(h - s))) v W (hd.below hW) (by omega) (by omega) (by rw [yV];omega) hv hf);have HLT:=KZ9 hd.lt;have HB0:=KZ9 (fun W (hW:Below w.heap.size w W)=>(b0.below b0.lt hW).c 0 _ rfl);have HB5:=KZ9 (fun W (hW:Below w.heap.size w W)=>(b1.below b1.lt hW).c 5 _ rfl);have HB6:=KZ9 (fun W (hW:Below w.heap.size w W)=>(b1.below b1.lt hW).c 6 _ rfl)
 have HB2:=KZ9 (fun W (hW:Below w.heap.size w W)=>(b2.below b2.lt hW).c 0 _ rfl);have n0:¬ I.S z0:=hd.other b0 (by decide) (by decide);have n1:¬ I.S z1:=hd.other b1 (by decide) (by decide);have n2:¬ I.S z2:=hd.other b2 (by decide) (by decide);have HX0:=KZ9 (fun (W W':World) (hW:Below w.heap.size w W) (hb:But I.S W W')=>((b0.below b0.lt hW).but hb n0).c 0 _ rfl);have HX5:=KZ9 (fun (W W':World) (hW:Below w.heap.size w W) (hb:But I.S W W')=>((b1.below b1.lt hW).but hb n1).c 5 _ rfl);have HX6:=KZ9 (fun (W W':World) (hW:Below w.heap.size w W) (hb:But I.S W W')=>((b1.below b1.lt hW).but hb n1).c 6 _ rfl);have HX2:=KZ9 (fun (W W':World) (hW:Below w.heap.size w W) (hb:But I.S W W')=>((b2.below b2.lt hW).but hb n2).c 0 _ rfl);obtain ⟨F,hF⟩:=KZ6 (2+s);obtain ⟨N,hN⟩:=KZ6 (h - s);obtain ⟨m,hm⟩:=KZ6 (64*N);rw [←hN,←hF] at HS HW;rw [←hF] at HB5 HX5;rw [←hN] at HB6 HX6;rw [←hF,←hN]
 rw [←hm] at HS HW ⊢;have hm1:0<m:=by omega
 have hm2:m≤10000:=by omega
 have c0:=HB0.out _ hb;have c5:=HB5.out _ hb;have c6:=HB6.out _ hb;have c2:=HB2.out _ hb;clear hd b0 b1 b2 hb hF hN hm;go_enter Tryz.func133,Tryz.ntmps133
 go_upto_region 1 with fail
 go_region_held3 (fun W=>W.cell? ⟨z0,0,none⟩=some (.pointer (some ⟨I.dd,0,none⟩))∧W.cell? ⟨z1,5,none⟩=some (.int .i64 (F:Int))∧W.cell? ⟨z1,6,none⟩=some (.int .i64 (N:Int))∧W.cell? ⟨z2,0,none⟩=some (.int .i64 0)) (first | go_keep | exact ⟨g0,g5,g6,g2⟩) (first
  | (go_at_call 134;refine HS.out.mono ?_;rintro e w1 ⟨rfl,hb1⟩;have hb1':Below w.heap.size w w1:=(Below.refl w.heap.size w).drew.trans hb1;have d0:=HB0.out w1 hb1';have d5:=HB5.out w1 hb1';have d6:=HB6.out w1 hb1';have d2:=HB2.out w1 hb1';obtain ⟨w2,hrun,hown2,hgrow2⟩:=run_make_full (P:=Tryz.prog) w1 w1.heap.size 34 5 iB0 (.int .u8 0) 1 Tryz.underlying34 iB.1 iB.2.1 iB.2.2.1 .i64 .i64 m (by rw [iB.2.2.2];omega) (by unfold maxLen;omega) (Nat.le_refl _);have hown3:=hown2;rw [bj] at hown3;have hby2:Byts w2 _ (zs m):=Byts.owned (by rw [yV];exact hown3);have hnf:∀ k,(Value.slice (some ⟨w1.heap.size,0,none⟩) m m).ownBlock=some k→¬ I.S k:=fun k hk hs=>(by have h8:=(hown2.lt k hk).1;have h9:=HLT.out k hs;have h7:=hb1'.size;omega);have hbz:Below w.heap.size w w2:=hb1'.trans ((Below.refl _ w1).grown hgrow2 hb1'.size (by simp));have g0:=HB0.out w2 hbz;have g5:=HB5.out w2 hbz;have g6:=HB6.out w2 hbz;have g2:=HB2.out w2 hbz)
  | (go_at_call 132;refine (HW.out w2 _ hbz hby2 hnf).mono ?_;rintro e w3 ⟨rfl,hd3,hb3⟩;have g0:=HX0.out w2 w3 hbz hb3;have g5:=HX5.out w2 w3 hbz hb3;have g6:=HX6.out w2 w3 hbz hb3;have g2:=HX2.out w2 w3 hbz hb3))
 all_goals (
  have HD1:=KZ9 hd3;have HB1:=KZ9 hb3;have HBZ:=KZ9 hbz;clear hd3 hb3 hbz hb1 hb1' hrun hown2 hown3 hgrow2 hby2 hnf c0 c5 c6 c2 d0 d5 d6 d2 g0 g5 g6 g2;go_wp2;go_ret;exact ⟨rfl,HD1.out,(But.of_below I.S HBZ.out).trans HB1.out⟩)
def Y6 (p0 p1 p2 p3 q1 q2 d:Value):List Value:=[.func (.func 131) #[] #[p0,p1,p2,p3],.func (.func 133) #[] #[p0,p1,p2],.func (.func 70) #[d] #[],.func (.func 71) #[] #[q1,q2],.func (.func 73) #[] #[q1],.func (.func 70) #[d] #[]]
theorem QW (g:Nat) (p0 p1 p2 p3 q1 q2 d:Value) (J:Nat→World→Prop) (w:World) (h0:J 0 w)
  (hg:∀ i W,J i W→BlkL W g 156 (Y6 p0 p1 p2 p3 q1 q2 d))
  (s0:∀ W,J 0 W→Calls Tryz.prog 131 #[p0,p1,p2,p3] W fun e w'=>e= .returned (.int .i64 0)∧J 1 w')
  (s1:∀ W,J 1 W→Calls Tryz.prog 133 #[p0,p1,p2] W fun e w'=>e= .returned (.int .i64 0)∧J 2 w')
  (s2:∀ W,J 2 W→Calls Tryz.prog 70 #[d] W fun e w'=>e= .returned (.int .i64 0)∧J 3 w')
  (s3:∀ W,J 3 W→Calls Tryz.prog 71 #[q1,q2] W fun e w'=>e= .returned (.int .i64 0)∧J 4 w')
  (s4:∀ W,J 4 W→Calls Tryz.prog 73 #[q1] W fun e w'=>e= .returned (.int .i64 0)∧J 5 w')
  (s5:∀ W,J 5 W→Calls Tryz.prog 70 #[d] W fun e w'=>e= .returned (.int .i64 0)∧J 6 w') :
  Calls Tryz.prog 69 #[.slice (some ⟨g,0,none⟩) 6 6] w fun e w'=>e= .returned (.int .i64 0)∧J 6 w':=by
 have HG:=KZ9 hg;have H0:=KZ9 s0;have H1:=KZ9 s1;have H2:=KZ9 s2;have H3:=KZ9 s3;have H4:=KZ9 s4;have H5:=KZ9 s5;have HJ:=KZ9 h0;clear hg s0 s1 s2 s3 s4 s5 h0;go_enter Tryz.func69,Tryz.ntmps69
 go_wp2_with fail
 go_loopw [8] (fun iv wr=>∃ j:Nat,iv= .int .i64 j∧j≤6∧Hid (J j wr)) (fun iv _=>6 - (intOf iv).toNat)
 case atStart=>exact ⟨0,rfl,by omega,HJ⟩
 case round =>
  obtain ⟨j,rfl,hj,hJ⟩:=hrel;have hB:=HG.out _ _ hJ.out;obtain ⟨k0,k1,k2,k3,k4,k5⟩:=BlkL.cs6 hB;clear hB;rcases (show j=0∨j=1∨j=2∨j=3∨j=4∨j=5∨j=6 by omega) with rfl | rfl | rfl | rfl | rfl | rfl | rfl
  ·go_wp2_with fail
   refine (H0.out _ hJ.out).mono ?_;rintro e w1 ⟨rfl,hJ1⟩;have HJ1:=KZ9 hJ1;clear hJ1 hJ k0 k1 k2 k3 k4 k5;go_wp2_with fail
   go_roundw
   case rel=>exact ⟨1,rfl,by omega,HJ1⟩
   case measure=>simp [intOf]
  ·go_wp2_with fail
   refine (H1.out _ hJ.out).mono ?_;rintro e w1 ⟨rfl,hJ1⟩;have HJ1:=KZ9 hJ1;clear hJ1 hJ k0 k1 k2 k3 k4 k5;go_wp2_with fail
   go_roundw
   case rel=>exact ⟨2,rfl,by omega,HJ1⟩
   case measure=>simp [intOf]
  ·go_wp2_with fail
   refine (H2.out _ hJ.out).mono ?_;rintro e w1 ⟨rfl,hJ1⟩;have HJ1:=KZ9 hJ1;clear hJ1 hJ k0 k1 k2 k3 k4 k5;go_wp2_with fail
   go_roundw
   case rel=>exact ⟨3,rfl,by omega,HJ1⟩
   case measure=>simp [intOf]
  ·go_wp2_with fail
   refine (H3.out _ hJ.out).mono ?_;rintro e w1 ⟨rfl,hJ1⟩;have HJ1:=KZ9 hJ1;clear hJ1 hJ k0 k1 k2 k3 k4 k5;go_wp2_with fail
   go_roundw
   case rel=>exact ⟨4,rfl,by omega,HJ1⟩
   case measure=>simp [intOf]
  ·go_wp2_with fail
   refine (H4.out _ hJ.out).mono ?_;rintro e w1 ⟨rfl,hJ1⟩;have HJ1:=KZ9 hJ1;clear hJ1 hJ k0 k1 k2 k3 k4 k5;go_wp2_with fail
   go_roundw
   case rel=>exact ⟨5,rfl,by omega,HJ1⟩
   case measure=>simp [intOf]
  ·go_wp2_with fail
   refine (H5.out _ hJ.out).mono ?_;rintro e w1 ⟨rfl,hJ1⟩;have HJ1:=KZ9 hJ1;clear hJ1 hJ k0 k1 k2 k3 k4 k5;go_wp2_with fail
   go_roundw
   case rel=>exact ⟨6,rfl,by omega,HJ1⟩
   case measure=>simp [intOf]
  clear k0 k1 k2 k3 k4 k5;go_wp2_with fail
  go_ret;exact ⟨rfl,hJ.out⟩
theorem Pf (x:Nat) (h:x<128):bits .and .u8 (x:Int) 127=(x:Int):=by
 have h1:∀ y:Fin 128,(bits .and .u8 ((y.val:Nat):Int) 127)=((y.val:Nat):Int):=by decide +kernel
 exact h1 ⟨x,h⟩
theorem RP (x:Nat) (h:x<128):bits .or .u64 0 (x:Int)=(x:Int):=by
 have h1:∀ y:Fin 128,(bits .or .u64 0 ((y.val:Nat):Int))=((y.val:Nat):Int):=by decide +kernel
 exact h1 ⟨x,h⟩
theorem jF (b:Value) (x:UInt8) (r:Bs) (w:World) (hb:Byts w b (x::r)) (hx:x.toNat<128) (hl:(x::r).length≤100000):Calls Tryz.prog 259 #[b] w fun e w'=>e= .returned (.tuple #[.int .u64 (x.toNat:Int),.int .i64 1,.int .i64 0])∧w=w':=by
 obtain ⟨a,cap,rfl,h1,h2,hc⟩:=hb.open;unfold maxLen at h2;obtain ⟨g,off,rfl,hg,hcell⟩:=hc (by simp);have c0:=hcell 0 (by simp);simp only [Nat.add_zero,List.getElem_cons_zero] at c0;have hlen:(x::r).length=r.length+1:=by simp
 rw [hlen] at hl h1 ⊢;obtain ⟨m,hm⟩:=KZ6 r.length;obtain ⟨y,hy⟩:=KZ6 x.toNat;rw [←hm] at hl h1 ⊢;rw [←hy] at hx c0 ⊢;clear hm hy hcell hlen hb hc;have q1:=Pf y hx;have q2:=RP y hx;go_enter Tryz.func259,Tryz.ntmps259
 go_wp2;go_loopw [5,8] (fun vv iv wr=>vv= .int .u64 0∧iv= .int .i64 0∧wr=w) (fun _ _ _=>0)
 case atStart=>exact ⟨rfl,rfl,rfl⟩
 case round =>
  obtain ⟨rfl,rfl,rfl⟩:=hrel;go_wp2
  all_goals try omega
  go_ret3
  exact ⟨rfl,rfl⟩
theorem QP (b:Value) (x:UInt8) (s r:Bs) (w:World) (hb:Byts w b (x::(s++r))) (hx:x.toNat<128) (hs:x.toNat=s.length) (h0:0<s.length) (hl:(x::(s++r)).length≤100000):Calls Tryz.prog 197 #[b] w fun e w'=>e= .returned (.tuple #[.string (mk s),.int .i64 ((s.length+1:Nat):Int),.int .i64 0])∧w=w':=by
 have HU:=KZ9 (jF b x (s++r) w hb hx hl);obtain ⟨a,cap,rfl,h1,h2,hc⟩:=hb.open;unfold maxLen at h2;obtain ⟨g,off,rfl,hg,hcell⟩:=hc (by simp);have hlen:(x::(s++r)).length=s.length+r.length+1:=by simp
 rw [hlen] at hl h1 hb ⊢;have hcut:=hb.cut 1 s.length (cap - 1) (by omega) (by omega) (by omega);have e1:((x::(s++r)).drop 1).take s.length=s:=by simp
 rw [e1] at hcut;have q1:=hcut.conv;rw [hlen] at HU;rw [hs] at HU hx;obtain ⟨n,hn⟩:=KZ6 s.length;obtain ⟨t,ht⟩:=KZ6 (mk s);obtain ⟨m,hm⟩:=KZ6 r.length;rw [←hm] at h1 hl HU;rw [←hn] at h1 hl HU hx q1 h0;rw [←hm,←hn];rw [←ht] at q1 ⊢;clear hn hm ht hcut hb hcell hc hs e1 hlen;go_enter Tryz.func197,Tryz.ntmps197
 go_wp2_with fail
 refine HU.out.mono ?_;rintro e w1 ⟨rfl,rfl⟩;go_wp2_with fail
 all_goals try omega
 go_ret3
 refine ⟨?_,rfl⟩;rw [show ((n+1:Nat):Int)=1+(n:Int) by omega];rfl
theorem RL:(Tryz.prog.info? 64).map (·.size)=some 3:=by kernel_rfl
theorem Xw (b:Value) (x sb ex:UInt8) (h:Bs) (w:World) (hB:Base w) (hb:Byts w b (x::(h++[sb,ex]))) (hx:x.toNat<128) (hs:x.toNat=h.length) (h0:0<h.length) (hsb:sb.toNat≤1) (hex:ex.toNat<128) (hok:zG h=true) :
  Calls Tryz.prog 196 #[b] w fun e w'=>e= .returned (.tuple #[.agg (zx ⟨h,sb.toNat==1,(ex.toNat:Int)⟩).toArray,.int .i64 ((h.length+3:Nat):Int),.int .i64 0])∧Below w.heap.size w w':=by
 obtain ⟨W0,hW0⟩:=KZ6 (w.alloc (.cells #[.string ⟨#[]⟩,.bool false,.int .i64 0] 64));have hbA:Below w.heap.size w W0:=by rw [hW0];exact (Below.refl _ w).alloc (Nat.le_refl _) _
 have hb0:BlkL W0 w.heap.size 64 [.string ⟨#[]⟩,.bool false,.int .i64 0]:=by rw [hW0];exact BlkL.new w _ _
 have HW0:Hid (w.alloc (.cells #[.string ⟨#[]⟩,.bool false,.int .i64 0] 64)=W0):=KZ9 hW0.symm;have hW0':=HW0.out;have hb1:=hb.below hbA;have HT:=KZ9 (QP b x h [sb,ex] W0 hb1 hx hs h0 (by simp;omega));obtain ⟨a,cap,rfl,h1,h2,hc⟩:=hb1.open;unfold maxLen at h2;obtain ⟨g,off,rfl,hg,hcell⟩:=hc (by simp);have hlen:(x::(h++[sb,ex])).length=h.length+3:=by simp
 rw [hlen] at h1 hb1 HT ⊢;have hc1:=hb1.cut (h.length+1) 2 (cap - (h.length+1)) (by omega) (by omega) (by omega);have hc2:=hb1.cut (h.length+2) 1 (cap - (h.length+2)) (by omega) (by omega) (by omega);have e1:((x::(h++[sb,ex])).drop (h.length+1)).take 2=[sb,ex]:=by simp
 have e2:((x::(h++[sb,ex])).drop (h.length+2)).take 1=[ex]:=by
  rw [show h.length+2=(h.length+1)+1 by rfl,List.drop_succ_cons,←List.drop_drop,List.drop_left];rfl
 rw [e1] at hc1;rw [e2] at hc2;have HU1:=KZ9 (jF _ sb [ex] W0 hc1 (by omega) (by simp));have HU2:=KZ9 (jF _ ex [] W0 hc2 (by omega) (by simp));have HV:=KZ9 (wD (mk h) W0 (hB.below hbA) (by rw [zi];omega));rw [zk,hok] at HV;have HBA:=KZ9 hbA;have HB0:=KZ9 hb0;simp only [zx];obtain ⟨n,hn⟩:=KZ6 h.length;rw [←hn] at h1 HT HU1 HU2 hs ⊢;obtain ⟨y1,hy1⟩:∃ y,y=sb.toNat:=⟨_,rfl⟩;obtain ⟨y2,hy2⟩:∃ y,y=ex.toNat:=⟨_,rfl⟩;rw [←hy1] at hsb HU1 ⊢;rw [←hy2] at hex HU2 ⊢;rw [hs] at hx;clear hn hy1 hy2 e1 e2 hc1 hc2 hlen hcell hb1 hW0 hb0 hbA hc hok h0 hs hb hB;go_enter Tryz.func196,Tryz.ntmps196
 go_wp2_with fail
 refine HT.out.mono ?_;rintro e w1 ⟨rfl,rfl⟩;go_wp2_with fail
 refine HU1.out.mono ?_;rintro e w1 ⟨rfl,rfl⟩;go_wp2_with fail
 all_goals try omega
 refine HU2.out.mono ?_;rintro e w1 ⟨rfl,rfl⟩;go_wp2_with fail
 all_goals try omega
 refine HV.out.mono ?_;rintro e w1 ⟨rfl,hb1⟩;have hs1:=hb1.size;have hsW:=HB0.out.lt;have hk1:=HB0.out.below hsW hb1;obtain ⟨c0,c1,c2⟩:=BlkL.cs3 hk1;have f0:=hk1.f 0;have f1:=hk1.f 1;have f2:=hk1.f 2;have HK1:=KZ9 hk1;have HB1:=KZ9 hb1;clear hk1 hb1 HW0 hW0';go_wp2_with fail
 all_goals try omega
 have hR:=((HK1.out.set 0 (by simp) (.string (mk h))).set 1 (by simp) (.bool ((y1:Int)==1))).set 2 (by simp) (.int .i64 (y2:Int));refine bodyPost_ret (Zu rfl _ _ w.heap.size 64 _ _ rfl hR Tryz.underlying64 rfl RL) rfl ?_;have hyy:((y1:Int)==1)=(y1==1):=by
  have:y1=0∨y1=1:=by omega
  rcases this with rfl | rfl<;>rfl
 rw [←hyy,show ((n+3:Nat):Int)=(n:Int)+1+1+1 by omega];refine ⟨rfl,?_⟩;exact ((HBA.out.trans (HB1.out.mono (by omega))).trans ((ze w1 w.heap.size 0 _ (by omega)).trans ((ze _ w.heap.size 1 _ (by omega)).trans (ze _ w.heap.size 2 _ (by omega)))))
theorem Wu:(Tryz.prog.info? 66).map (·.size)=some 4:=by kernel_rfl
theorem VH (b:Value) (x sb ex:UInt8) (h:Bs) (w:World) (hB:Base w) (hb:Byts w b (1::x::(h++[sb,ex]))) (hx:x.toNat<128) (hs:x.toNat=h.length) (h0:0<h.length) (hsb:sb.toNat≤1) (hex:ex.toNat<128) (hok:zG h=true) :
  Calls Tryz.prog 125 #[b] w fun e w'=>e= .returned (.tuple #[.agg (zW ⟨h,sb.toNat==1,(ex.toNat:Int)⟩).toArray,.int .i64 0])∧Below w.heap.size w w':=by
 obtain ⟨W0,hW0⟩:=KZ6 ((w.alloc (.cells #[.int .i64 0,.string ⟨#[]⟩,.bool false,.int .i64 0] 66)).alloc (.cells #[.int .i64 1,.string ⟨#[]⟩,.bool false,.int .i64 0] 66));have hbA:Below w.heap.size w W0:=by rw [hW0];exact ((Below.refl _ w).alloc (Nat.le_refl _) _).alloc (by simp) _
 have hb0:BlkL W0 w.heap.size 66 [.int .i64 0,.string ⟨#[]⟩,.bool false,.int .i64 0]:=by rw [hW0];exact (BlkL.new w _ _).alloc _
 have hb1:BlkL W0 (w.heap.size+1) 66 [.int .i64 1,.string ⟨#[]⟩,.bool false,.int .i64 0]:=by
  rw [hW0];have:=BlkL.new (w.alloc (.cells #[.int .i64 0,.string ⟨#[]⟩,.bool false,.int .i64 0] 66)) 66 [.int .i64 1,.string ⟨#[]⟩,.bool false,.int .i64 0]
  rwa [World.size_alloc] at this
 have hsz:W0.heap.size=w.heap.size+2:=by rw [hW0];simp
 have HW0:Hid ((w.alloc (.cells #[.int .i64 0,.string ⟨#[]⟩,.bool false,.int .i64 0] 66)).alloc (.cells #[.int .i64 1,.string ⟨#[]⟩,.bool false,.int .i64 0] 66)=W0):=KZ9 hW0.symm;have hW0':=HW0.out;have hbb:=hb.below hbA;obtain ⟨a,cap,rfl,h1,h2,hc⟩:=hb.open;unfold maxLen at h2;obtain ⟨g,off,rfl,hg,hcell⟩:=hc (by simp);have hlen:(1::x::(h++[sb,ex])).length=h.length+4:=by simp
 have k0:=hcell 0 (by simp);simp only [Nat.add_zero,List.getElem_cons_zero] at k0;have k1:w.cell? ⟨g,off,none⟩=some (.int .u8 1):=k0;clear k0;rw [hlen] at h1 hbb ⊢;have hc1:=hbb.cut 1 (h.length+3) (cap - 1) (by omega) (by omega) (by omega);have e1:((1::x::(h++[sb,ex])).drop 1).take (h.length+3)=x::(h++[sb,ex]):=by rw [List.drop_succ_cons,List.drop_zero,List.take_of_length_le];simp
 rw [e1] at hc1;have HD:=KZ9 (Xw _ x sb ex h W0 (hB.below hbA) hc1 hx hs h0 hsb hex hok);have hpk:xU ⟨h,sb.toNat==1,(ex.toNat:Int)⟩=true:=by unfold xU;rw [hok];simp;omega
 have HV:=KZ9 (fun W (hW:Below w.heap.size w W)=>jH ⟨h,sb.toNat==1,(ex.toNat:Int)⟩ W (hB.below hW) (by show h.length≤300;omega));rw [hpk] at HV;have HBA:=KZ9 hbA;have HB0:=KZ9 hb0;have HB1:=KZ9 hb1;have hnl:h.length<128:=by omega
 simp only [zW,zx] at HV HD ⊢;obtain ⟨n,hn⟩:=KZ6 h.length;obtain ⟨s1,hs1⟩:∃ y,y=(sb.toNat==1):=⟨_,rfl⟩;obtain ⟨y2,hy2⟩:∃ y,y=ex.toNat:=⟨_,rfl⟩;rw [←hn] at h1 HD hnl ⊢;rw [←hs1] at HD HV ⊢;rw [←hy2] at hex HD HV ⊢;clear hn hs1 hy2 e1 hc1 hlen hcell hbb hb0 hb1 hbA hc hok h0 hs hb hB hpk hx hsb;clear hW0 hW0';go_enter Tryz.func125,Tryz.ntmps125
 go_wp2_with fail
 all_goals try omega
 rw [HW0.out];refine HD.out.mono ?_;rintro e w1 ⟨rfl,hx1⟩;have hs1:=hx1.size;have hk1:=HB1.out.below HB1.out.lt hx1;obtain ⟨c0,c1,c2,c3⟩:=BlkL.cs4 hk1;have f1:=hk1.f 1;have f2:=hk1.f 2;have f3:=hk1.f 3;have HK1:=KZ9 ((((hk1.set 1 (by simp) (.string (mk h))).set 2 (by simp) (.bool s1)).set 3 (by simp) (.int .i64 (y2:Int))));have HL1:=KZ9 (HB0.out.below HB0.out.lt hx1);have HX1:=KZ9 (HBA.out.trans (hx1.mono (by omega)));clear hk1 hx1 HW0 HB0 HB1 HD k1;go_wp2_with fail
 all_goals try omega
 have HX2:=KZ9 (HX1.out.trans ((ze w1 (w.heap.size+1) 1 (.string (mk h)) (by omega:w.heap.size≤w.heap.size+1)).trans ((ze _ (w.heap.size+1) 2 (.bool s1) (by omega)).trans (ze _ (w.heap.size+1) 3 (.int .i64 (y2:Int)) (by omega)))));have HL2:=KZ9 (((HL1.out.other (p:=w.heap.size+1) (by omega) 1 (.string (mk h))).other (p:=w.heap.size+1) (by omega) 2 (.bool s1)).other (p:=w.heap.size+1) (by omega) 3 (.int .i64 (y2:Int)));have hsW:w.heap.size+2≤(((w1.setCell ⟨w.heap.size+1,1,none⟩ (.string (mk h))).setCell ⟨w.heap.size+1,2,none⟩ (.bool s1)).setCell ⟨w.heap.size+1,3,none⟩ (.int .i64 (y2:Int))).heap.size:=by simp;omega
 clear c0 c1 c2 c3 f1 f2 f3;generalize ((w1.setCell ⟨w.heap.size+1,1,none⟩ (.string (mk h))).setCell ⟨w.heap.size+1,2,none⟩ (.bool s1)).setCell ⟨w.heap.size+1,3,none⟩ (.int .i64 (y2:Int))=W2 at HX2 HL2 HK1 hsW ⊢;clear HX1 HL1;refine (HV.out W2 HX2.out).mono ?_;rintro e w3 ⟨rfl,hx3⟩;have hs3:=hx3.size;have hk3:=HK1.out.below HK1.out.lt hx3;have hl3:=HL2.out.below HL2.out.lt hx3;have HX3:=KZ9 (HX2.out.trans (hx3.mono (by omega)));obtain ⟨c0,c1,c2,c3⟩:=BlkL.cs4 hk3;obtain ⟨d0,d1,d2,d3⟩:=BlkL.cs4 hl3;have f0:=hl3.f 0;have f1:=hl3.f 1;have f2:=hl3.f 2;have f3:=hl3.f 3;have HL3:=KZ9 hl3;clear hk3 hl3 hx3 HX2 HL2 HK1 HV;go_wp2_with fail
 all_goals try omega
 have hR:=(((HL3.out.set 0 (by simp) (.int .i64 1)).set 1 (by simp) (.string (mk h))).set 2 (by simp) (.bool s1)).set 3 (by simp) (.int .i64 (y2:Int));refine bodyPost_ret (zf rfl _ _ w.heap.size 66 _ _ rfl hR Tryz.underlying66 rfl Wu) rfl ?_;refine ⟨rfl,?_⟩;exact (HX3.out.trans ((ze w3 w.heap.size 0 _ (by omega)).trans ((ze _ w.heap.size 1 _ (by omega)).trans ((ze _ w.heap.size 2 _ (by omega)).trans (ze _ w.heap.size 3 _ (by omega))))))
theorem Pq (W:World):Calls Tryz.prog 126 #[.slice none 0 0,.int .u64 0] W fun e w'=>∃ a c,e= .returned (.slice a 1 c)∧w'.ownsRow W.heap.size 5 1 (.slice a 1 c) 1 (zc [0])∧Below W.heap.size W w':=by
 have h:=vH (.slice none 0 0) [] 0 W (Row.nil _ _) (by simp) (by omega);rw [sg 0 (by omega)] at h;exact h
theorem Pp (W:World) (a:Option Addr) (c base:Nat) (h:W.ownsRow base 5 1 (.slice a 1 c) 1 (zc [0])):Calls Tryz.prog 126 #[.slice a 1 c,.int .u64 0] W fun e w'=>∃ a c,e= .returned (.slice a 2 c)∧w'.ownsRow W.heap.size 5 1 (.slice a 2 c) 2 (zc [0,0])∧Below W.heap.size W w':=by
 have h:=vH (.slice a 1 c) [0] 0 W (Row.owned h) (by simp) (by omega);rw [sg 0 (by omega)] at h;exact h
theorem VR (w:World) (hB:Base w):Calls Tryz.prog 65 #[.agg #[.int .i64 0,.slice none 0 0]] w fun e w'=>∃ a c,e= .returned (.tuple #[.slice a 2 c,.int .i64 0])∧w'.ownsRow w.heap.size 5 1 (.slice a 2 c) 2 (zc [0,0])∧Below w.heap.size w w':=by
 obtain ⟨W0,hW0⟩:=KZ6 (w.alloc (.cells #[.int .i64 0,.slice none 0 0] 49));have hb0:Below w.heap.size w W0:=by rw [hW0];exact (Below.refl _ w).alloc (Nat.le_refl _) _
 have hk0:BlkL W0 w.heap.size 49 [.int .i64 0,.slice none 0 0]:=by rw [hW0];exact BlkL.new w _ _
 have HW0:Hid (w.alloc (.cells #[.int .i64 0,.slice none 0 0] 49)=W0):=KZ9 hW0.symm;have HV:=KZ9 (xM 0 [] (.slice none 0 0) W0 (hB.below hb0) (Row.nil _ _) ⟨by omega,by omega,by simp,by simp⟩);have c0:=hk0.c 0 _ rfl;have c1:=hk0.c 1 _ rfl;have HK0:=KZ9 hk0;have HB0:=KZ9 hb0;clear hB hW0 hb0 hk0;have hW0':=HW0.out;go_enter Tryz.func65,Tryz.ntmps65
 go_wp2_with fail
 all_goals try omega
 refine HV.out.mono ?_;rintro e w1 ⟨rfl,hb1⟩;have hz0:=HK0.out.lt;have M2:=KZ9 (fun W (hW:Below w1.heap.size w1 W)=>(HK0.out.below hz0 hb1).below (by have:=hb1.size;omega) hW);have HB1:=KZ9 (HB0.out.trans (hb1.mono HB0.out.size));have q1:=(M2.out w1 (Below.refl _ _)).c 1 _ rfl;have q0:=(M2.out w1 (Below.refl _ _)).c 0 _ rfl;have hsz1:=HB1.out.size;have HT:=KZ9 (fun W=>Pq W);have HU:=KZ9 (fun W a c base h=>Pp W a c base h);clear hb1 HV hW0' c0 c1 hz0 HW0;go_upto_region 3 with fail
 all_goals try omega
 go_region_with (first
  | (go_at_call_of 126 (Value.slice none 0 0);refine (HT.out _).mono ?_;rintro e w2 ⟨a2,c2,rfl,ho2,hb2⟩;have hb2':=(Below.refl w1.heap.size w1).drew.trans hb2;have r2:=(M2.out w2 hb2').c 1 _ rfl;have K1:=HU.out w2 a2 c2 _ ho2)
  | (go_at_call_of 126 (Value.slice a2 1 c2);refine K1.mono ?_;rintro e w3 ⟨a3,c3,rfl,ho3,hb3⟩;have hb3':=hb2'.trans (hb3.mono hb2'.size);have r3:=(M2.out w3 hb3').c 1 _ rfl))
 all_goals (
  have HF:=KZ9 (show Below w.heap.size w w3 from HB1.out.trans (hb3'.mono hsz1));have HO:=KZ9 (vr ho3 (show w.heap.size≤_ by have:=hb2'.size;omega));clear hb3' hb2' ho2 ho3 hb2 hb3 q0 q1 r2;go_wp2;go_loopw [4,24] (fun bv iv wr=>bv= .slice a3 2 c3∧iv= .int .i64 0∧wr=w3) (fun _ _ _=>0)
  case atStart=>exact ⟨rfl,rfl,rfl⟩
  case round =>
   obtain ⟨rfl,rfl,rfl⟩:=hrel;go_wp2;go_ret2;exact ⟨a3,c3,rfl,HO.out,HF.out⟩)
theorem VS (b:Value) (w:World) (hB:Base w) (hb:Byts w b [0,0]):Calls Tryz.prog 193 #[b] w fun e w'=>e= .returned (.tuple #[.agg #[.int .i64 0,.slice none 0 0],.int .i64 0])∧Below w.heap.size w w':=by
 obtain ⟨W0,hW0⟩:=KZ6 (w.alloc (.cells #[.int .i64 0,.slice none 0 0] 49));have hb0:Below w.heap.size w W0:=by rw [hW0];exact (Below.refl _ w).alloc (Nat.le_refl _) _
 have hk0:BlkL W0 w.heap.size 49 [.int .i64 0,.slice none 0 0]:=by rw [hW0];exact BlkL.new w _ _
 have hsz:W0.heap.size=w.heap.size+1:=by rw [hW0];simp
 have HW0:Hid (w.alloc (.cells #[.int .i64 0,.slice none 0 0] 49)=W0):=KZ9 hW0.symm;have hbb:=hb.below hb0;obtain ⟨a,cap,rfl,h1,h2,hc⟩:=hb.open;unfold maxLen at h2;obtain ⟨g,off,rfl,hg,hcell⟩:=hc (by simp);have h1':2≤cap:=h1;have hc1:=hbb.cut 1 1 (cap - 1) (by simp) (by omega) (by omega);have e1:(([0,0]:Bs).drop 1).take 1=[0]:=rfl;rw [e1] at hc1;have HU1:=KZ9 (jF _ 0 [0] W0 hbb (by decide) (by simp));have HU2:=KZ9 (jF _ 0 [] W0 hc1 (by decide) (by simp));have HV:=KZ9 (fun W (hW:Below w.heap.size w W)=>xM 0 [] (.slice none 0 0) W (hB.below hW) (Row.nil _ _) ⟨by omega,by omega,by simp,by simp⟩);have HK0:=KZ9 hk0;have HB0:=KZ9 hb0;have e2:([0,0]:Bs).length=2:=rfl;have e3:((0:UInt8).toNat:Int)=0:=rfl;rw [e2] at HU1 ⊢;rw [e3] at HU1 HU2;clear hB hb0 hk0 hbb hc1 e1 e2 e3 hcell hc h1 hb hW0;have c0:=HK0.out.c 0 _ rfl;have c1:=HK0.out.c 1 _ rfl;have hW0':=HW0.out
 go_enter Tryz.func193,Tryz.ntmps193
 go_wp2_with fail
 refine HU1.out.mono ?_;rintro e w1 ⟨rfl,rfl⟩;go_wp2_with fail
 all_goals try omega
 refine HU2.out.mono ?_;rintro e w1 ⟨rfl,rfl⟩;go_wp2_with fail
 all_goals try omega
 go_loopw [5,9,45] (fun av pv iv wr=>av= .int .i64 2∧pv= .slice none 0 0∧iv= .int .u64 0∧wr=W0) (fun _ _ _ _=>0)
 case atStart=>exact ⟨rfl,rfl,rfl,rfl⟩
 case round =>
  obtain ⟨rfl,rfl,rfl,rfl⟩:=hrel;go_wp2_with fail
  all_goals try omega
  have HB2:=KZ9 (HB0.out.alloc (by omega) (.cells #[.int .i64 0,.slice none 0 0] 49));have HK2:=KZ9 (HK0.out.alloc (.cells #[.int .i64 0,.slice none 0 0] 49));have HL2:=KZ9 (BlkL.new wr 49 [.int .i64 0,.slice none 0 0]);rw [hsz] at HL2;refine (HV.out _ HB2.out).mono ?_;rintro e w1 ⟨rfl,hb1⟩;have hs1:=hb1.size;rw [World.size_alloc] at hs1;have hk1:=HK2.out.below HK2.out.lt hb1;have hl1:=HL2.out.below HL2.out.lt hb1;have c0:=hk1.c 0 _ rfl;have c1:=hk1.c 1 _ rfl;have f0:=hk1.f 0;have f1:=hk1.f 1;have d0:=hl1.c 0 _ rfl;have d1:=hl1.c 1 _ rfl;have HK3:=KZ9 hk1;have HB3:=KZ9 (HB2.out.trans (hb1.mono HB2.out.size));clear hb1 hk1 hl1 HK2 HL2 HB2 HV HW0 hW0' HK0;go_wp2_with fail
  all_goals try omega
  have hR:=(HK3.out.set 0 (by simp) (.int .i64 0)).set 1 (by simp) (.slice none 0 0);refine bodyPost_ret (zf rfl _ _ w.heap.size 49 _ _ rfl hR Tryz.underlying49 rfl xW) rfl ?_;refine ⟨rfl,?_⟩;exact (HB3.out.trans ((ze w1 w.heap.size 0 _ (by omega)).trans (ze _ w.heap.size 1 _ (by omega))))
theorem Zh {α:Type} {C d:List α} {o:Nat} {x:α} (h:o+d.length<C.length):(splice C o d).set (o+d.length) x=splice C o (d++[x]):=by
 apply List.ext_getElem?;intro k;rw [List.getElem?_set,getElem?_splice _ _ _ (by omega),getElem?_splice _ _ _ (by simp;omega),length_splice' _ _ _ (by omega)];simp only [List.length_append,List.length_cons,List.length_nil];by_cases h1:o+d.length=k
 ·subst h1;rw [if_pos rfl,if_pos h,if_neg (by omega),if_pos (by omega)];simp
 rw [if_neg h1];by_cases h2:k<o
 ·rw [if_pos h2,if_pos h2]
 rw [if_neg h2,if_neg h2];by_cases h3:k<o+d.length
 ·rw [if_pos h3,if_pos (by omega),List.getElem?_append_left (by omega)]
 rw [if_neg h3,if_neg (by omega)]
theorem QT (g o n m c v:Nat) (T:TypeId) (l:Bs) (w:World) (hg:BlkL w g T (zc l)) (hn:n≤8) (hm:n≤m) (hl:o+n≤l.length) (hmc:m≤100000) (hv:v<18446744073709551616) :
  Calls Tryz.prog 129 #[.slice (some ⟨g,o,none⟩) m c,.int .u64 (v:Int),.int .i64 (n:Int)] w fun e w'=>e= .returned (.tuple #[])∧BlkL w' g T (zc (splice l o (le n v)))∧But (fun k=>k=g) w w':=by
 have HG:=KZ9 hg;clear hg;go_enter Tryz.func129,Tryz.ntmps129
 go_wp2;go_loopw [8] (fun iv wr=>∃ j:Nat,iv= .int .i64 j∧j≤n∧Hid (BlkL wr g T (zc (splice l o (le j v))))∧Hid (But (fun k=>k=g) w wr)) (fun iv _=>n - (intOf iv).toNat)
 case atStart=>exact ⟨0,rfl,by omega,KZ9 (by simpa [le,jS] using HG.out),KZ9 (But.refl _ _)⟩
 case round =>
  obtain ⟨j,rfl,hj,hO,hB⟩:=hrel;by_cases hlt:j<n
  ·have hL:(splice l o (le j v)).length=l.length:=length_splice' _ _ _ (by rw [yW];omega);have hx:=hO.out.c (o+j) (.int .u8 ((splice l o (le j v))[o+j]'(by omega)).toNat) (by
    simp only [zc,List.getElem?_map];rw [List.getElem?_eq_getElem (by omega)];rfl)
   have hf:=hO.out.f (o+j);generalize ((splice l o (le j v))[o+j]'(by omega)).toNat=x at hx;go_wp2_with fail
   all_goals try omega
   have hle:le (j+1) v=le j v++[UInt8.ofNat (v / 256 ^ j % 256)]:=bw j v;have hval:((v:Int) / 2 ^ (8*j) % 256)=(((UInt8.ofNat (v / 256 ^ j % 256)).toNat:Nat):Int):=by
    rw [UInt8.toNat_ofNat_of_lt' (by have:=Nat.mod_lt (v / 256 ^ j) (show 0<256 by decide);exact this)];have:(2:Int) ^ (8*j)=((256 ^ j:Nat):Int):=by rw [show (256:Nat)=2 ^ 8 from rfl,←Nat.pow_mul];norm_cast
    rw [this]
    norm_cast
   refine ⟨⟨j+1,by go_num,by omega,KZ9 ?_,KZ9 (hB.out.set (.inl rfl) _ _)⟩,by simp [intOf];omega⟩;have h2:=hO.out.set (o+j) (by rw [zX];omega) (.int .u8 ((v:Int) / 2 ^ (8*j) % 256));rw [hval] at h2 ⊢;rw [hle];have e3:=Zh (C:=l) (d:=le j v) (o:=o) (x:=UInt8.ofNat (v / 256 ^ j % 256)) (by rw [yW];omega);rw [yW] at e3;rw [←e3];have e4:zc ((splice l o (le j v)).set (o+j) (UInt8.ofNat (v / 256 ^ j % 256)))=(zc (splice l o (le j v))).set (o+j) (.int .u8 ((UInt8.ofNat (v / 256 ^ j % 256)).toNat:Int)):=by simp [zc,List.map_set]
   rw [e4];exact h2
  obtain rfl:j=n:=by omega
  go_wp2
  all_goals try omega
  go_end0
  exact ⟨rfl,hO.out,hB.out⟩
theorem WG:∀ (l:Bs) (x:UInt8),rd (l++[x])=rd l+x.toNat*256 ^ l.length
 | [],x=>by simp [rd]
 | b::r,x=>by
  simp only [List.cons_append,rd,WG r x,List.length_cons,Nat.pow_succ];rw [Nat.mul_add,←Nat.mul_assoc,Nat.mul_comm (256 ^ r.length) 256,←Nat.mul_assoc,Nat.mul_comm 256 x.toNat];omega
theorem PF (v x k:Nat) (hv:v<256 ^ k) (hx:x<256) (hk:k<8):bits .or .u64 (v:Int) ((x*256 ^ k:Nat):Int)=((v+x*256 ^ k:Nat):Int):=by
 have hp:256 ^ k≤256 ^ 7:=Nat.pow_le_pow_right (by decide) (by omega);have hm:x*256 ^ k≤255*256 ^ 7:=Nat.mul_le_mul (by omega) hp;have e8:(256:Nat) ^ 7=72057594037927936:=by decide
 have h3:=u64_or_nat v (x*256 ^ k) (by omega) (by omega);have e:x*256 ^ k=x <<< (8*k):=by rw [Nat.shiftLeft_eq,Nat.pow_mul]
 have h2:v ||| x*256 ^ k=v+x*256 ^ k:=by
  rw [e,Nat.or_comm,←Nat.shiftLeft_add_eq_or_of_lt (by rw [Nat.pow_mul];exact hv),Nat.add_comm]
 rw [h2] at h3;exact h3
theorem TD (b:Value) (n:Nat) (l:Bs) (w:World) (hb:Byts w b l) (hn:n≤8) (hl:n≤l.length) (hm:l.length≤100000) :
  Calls Tryz.prog 258 #[b,.int .i64 (n:Int)] w fun e w'=>e= .returned (.int .u64 (rd (l.take n):Int))∧w=w':=by
 obtain ⟨a,cap,rfl,h1,h2,hc⟩:=hb.open;unfold maxLen at h2;have HC:=KZ9 hc;have HL:=KZ9 hl;clear hb hc;go_enter Tryz.func258,Tryz.ntmps258
 go_wp2;go_loopw [5,8] (fun vv iv wr=>∃ j:Nat,iv= .int .i64 j∧j≤n∧vv= .int .u64 (rd (l.take j):Int)∧wr=w) (fun _ iv _=>n - (intOf iv).toNat)
 case atStart=>exact ⟨0,rfl,by omega,rfl,rfl⟩
 case round =>
  obtain ⟨j,rfl,hj,rfl,rfl⟩:=hrel;by_cases hlt:j<n
  ·obtain ⟨g,off,rfl,hg,hcell⟩:=HC.out (by have:=HL.out;omega);have hx:=hcell j (by have:=HL.out;omega);obtain ⟨y,hy⟩:∃ y,y=l[j]'(by have:=HL.out;omega):=⟨_,rfl⟩;rw [←hy] at hx;have hs:=WG (l.take j) y;rw [hy,←List.take_succ_eq_append_getElem (by have:=HL.out;omega),←hy,List.length_take,Nat.min_eq_left (by have:=HL.out;omega)] at hs;have HS:=KZ9 hs;have hvl:=WH (l.take j);rw [List.length_take,Nat.min_eq_left (by have:=HL.out;omega)] at hvl;have ho:=PF (rd (l.take j)) y.toNat j hvl y.toNat_lt (by omega);have hxl:=y.toNat_lt;clear hcell hs hvl hy;generalize rd (l.take j)=V at ho HS ⊢;generalize y.toNat=x at ho HS hx hxl ⊢;go_wp2_with fail
   all_goals try omega
   refine ⟨⟨j+1,by go_num,by omega,?_,trivial⟩,by simp [intOf];omega⟩;have hp:(2:Int) ^ (8*j)=((256 ^ j:Nat):Int):=by rw [show (256:Nat)=2 ^ 8 from rfl,←Nat.pow_mul];norm_cast
   have hle:256 ^ j≤256 ^ 7:=Nat.pow_le_pow_right (by decide) (by omega);have hm2:x*256 ^ j≤255*256 ^ 7:=Nat.mul_le_mul (by omega) hle;have e8:(256:Nat) ^ 7=72057594037927936:=by decide
   have hw:IntKind.u64.wrap ((x:Int)*2 ^ (8*j))=((x*256 ^ j:Nat):Int):=by
    rw [hp,IntKind.wrap_u64];have:((x:Int)*((256 ^ j:Nat):Int))=((x*256 ^ j:Nat):Int):=by norm_cast
    rw [this];omega
   rw [hw,ho,HS.out]
  obtain rfl:j=n:=by omega
  go_wp2
  all_goals try omega
  go_ret;exact ⟨rfl,rfl⟩
theorem Byts.blk {w:World} {g:Nat} {T:TypeId} {l:Bs} (h:BlkL w g T (zc l)) (o n c:Nat) (h1:o+n≤l.length) (h2:n≤c) (h3:c≤maxLen):Byts w (.slice (some ⟨g,o,none⟩) n c) ((l.drop o).take n):=by
 have hll:((l.drop o).take n).length=n:=by rw [List.length_take,List.length_drop];omega
 refine ⟨by simp,_,_,by rw [hll],by omega,by omega,.inr ⟨g,o,rfl,h.lt,fun j v hj=> ?_⟩⟩;refine h.c (o+j) v ?_;simp only [zc,List.map_take,List.map_drop,List.getElem?_take] at hj;split at hj
 ·rw [List.getElem?_drop] at hj;exact hj
 cases hj
def scells (s:SupP):List Value:=[.int .u64 (s.gen:Int),.int .i64 (s.act:Int),.int .u32 (s.epoch:Int),.int .i64 (s.len:Int),.int .u32 (s.sum:Int)]
def YV (s:SupP):Prop:=s.gen<18446744073709551616∧s.act≤1∧s.epoch<4294967296∧s.len≤262144∧s.sum<4294967296
theorem TC (s:SupP) (w:World) (h:YV s):Calls Tryz.prog 128 #[.agg (scells s).toArray] w fun e w'=>e= .returned (.bool true)∧Below w.heap.size w w':=by
 obtain ⟨gen,act,ep,len,sum⟩:=s;obtain ⟨h0,h1,h2,h3,h4⟩:=h;simp only [scells] at h0 h1 h2 h3 h4 ⊢;have hk0:=BlkL.new w 155 [.int .u64 (gen:Int),.int .i64 (act:Int),.int .u32 (ep:Int),.int .i64 (len:Int),.int .u32 (sum:Int)];have HB0:=KZ9 ((Below.refl _ w).alloc (Nat.le_refl _) (.cells [.int .u64 (gen:Int),.int .i64 (act:Int),.int .u32 (ep:Int),.int .i64 (len:Int),.int .u32 (sum:Int)].toArray 155));have c1:=hk0.c 1 _ rfl;have c3:=hk0.c 3 _ rfl;clear hk0;have ha:act=0∨act=1:=by omega
 clear h1;rcases ha with rfl | rfl
 all_goals (
  go_enter Tryz.func128,Tryz.ntmps128
  go_wp2
  all_goals try omega
  go_ret;exact ⟨by first | rfl | (refine yH ?_;simp;omega),HB0.out⟩)
theorem gU (s:SupP) (w:World) (h:YV s):Calls Tryz.prog 66 #[.agg (scells s).toArray] w fun e w'=>∃ g,e= .returned (.tuple #[.slice (some ⟨g,0,none⟩) 64 64,.int .i64 0])∧w.heap.size≤g∧BlkL w' g 227 (zc (tk s))∧Below w.heap.size w w':=by
 have hk0:=BlkL.new w 155 (scells s);have hb0:=(Below.refl _ w).alloc (Nat.le_refl _) (.cells (scells s).toArray 155);have HV:=KZ9 (fun W=>TC s W h);obtain ⟨gen,act,ep,len,sum⟩:=s;obtain ⟨h0,h1,h2,h3,h4⟩:=h;simp only [scells] at h0 h1 h2 h3 h4 hk0 hb0 HV ⊢;obtain ⟨c0,c1,c2,c3,c4⟩:=BlkL.cs5 hk0;have HK0:=KZ9 hk0;have HB0:=KZ9 hb0;clear hk0 hb0;go_enter Tryz.func66,Tryz.ntmps66
 go_wp2_with fail
 refine (HV.out _).mono ?_;rintro e w1 ⟨rfl,hb1⟩;clear c0 c1 c2 c3 c4;go_upto_region 4 with fail
 all_goals try omega
 change Code.wp _ _ _ _ (w1.alloc (.cells (zc (zs 64)).toArray 227));have hb2:=hb1.alloc hb1.size (.cells (zc (zs 64)).toArray 227);have hk2:=BlkL.new w1 227 (zc (zs 64));obtain ⟨g,hg⟩:=KZ6 w1.heap.size;rw [←hg] at hk2 ⊢;have hbg:w.heap.size<g:=by rw [hg];have:=hb1.size;simp at this;omega
 generalize w1.alloc (.cells (zc (zs 64)).toArray 227)=w2 at hb2 hk2 ⊢;have hx2:=(HK0.out).below (HK0.out.lt) hb2;have HF2:=KZ9 (HB0.out.trans (hb2.mono (by simp)));clear hb1 hb2 hg HV HB0 HK0;obtain ⟨w3,hcp,hk3,hx3,hf3⟩:∃ w3,(Builtin.copy_ #[34,9] 3 #[.slice (some ⟨g,0,none⟩) 64 64,.string ⟨#[72,83,84,83]⟩]).run Tryz.prog w2= .ok (.int .i64 4) w3∧BlkL w3 g 227 (zc (splice (zs 64) 0 [72,83,84,83]))∧BlkL w3 w.heap.size 155 [.int .u64 (gen:Int),.int .i64 (act:Int),.int .u32 (ep:Int),.int .i64 (len:Int),.int .u32 (sum:Int)]∧Below w.heap.size w w3:=by
  refine ⟨_,Lib.run_copy_row_string (P:=Tryz.prog) w2 34 9 3 5 g 0 64 64 ⟨#[72,83,84,83]⟩ (zc (zs 64)).toArray 227 Tryz.underlying34 qc hk2 (by decide) (by decide),hk2.setRow (zc (splice (zs 64) 0 [72,83,84,83])),hx2.setRow_other (by omega) _,?_⟩;exact ((But.of_below (fun k=>k=g) HF2.out).setRow (.inl rfl) _).to_below (by rintro k rfl;omega) (Nat.le_refl _)
 have HF3:=KZ9 hf3;clear hk2 hx2 HF2 hf3;go_upto_region 5 with fail
 all_goals try omega
 have hwa:IntKind.u8.wrap (act:Int)=(act:Int):=by rw [IntKind.wrap_u8];omega
 have hua:((UInt8.ofNat act).toNat:Int)=(act:Int):=by rw [UInt8.toNat_ofNat_of_lt' (by show act<256;omega)]
 go_cut [] (fun wx=>BlkL wx g 227 (zc (((splice (zs 64) 0 [72,83,84,83]).set 4 1).set 5 (UInt8.ofNat act)))∧BlkL wx w.heap.size 155 [.int .u64 (gen:Int),.int .i64 (act:Int),.int .u32 (ep:Int),.int .i64 (len:Int),.int .u32 (sum:Int)]∧Hid (Below w.heap.size w wx))
 case first =>
  have q1:=hx3.c 1 _ rfl;have k4:=hk3.c 4 (.int .u8 0) rfl;have k5:=hk3.c 5 (.int .u8 0) rfl;have f4:=hk3.f 4;have f5:=hk3.f 5;have HK3:=KZ9 ((hk3.set 4 (by decide) (.int .u8 1)).set 5 (by decide) (.int .u8 (act:Int)));have HX3:=KZ9 ((hx3.other (p:=g) (by omega) 4 (.int .u8 1)).other (p:=g) (by omega) 5 (.int .u8 (act:Int)));have q1':=(hx3.drew.other (p:=g) (by omega) 4 (.int .u8 1)).c 1 _ rfl;have HG:=KZ9 (HF3.out.trans ((ze w3 g 4 (.int .u8 1) (by omega)).trans (ze _ g 5 (.int .u8 (act:Int)) (by omega))));have HEL:=KZ9 (show zc (((splice (zs 64) 0 [72,83,84,83]).set 4 1).set 5 (UInt8.ofNat act))=((zc (splice (zs 64) 0 [72,83,84,83])).set 4 (.int .u8 1)).set 5 (.int .u8 (act:Int)) by rw [←hua];rfl);clear hk3 hx3;go_region
  all_goals (go_wp2;go_meet;refine ⟨?_,HX3.out.drew,KZ9 (below_drewN HG.out 1)⟩;rw [HEL.out];exact HK3.out.drew)
 case rest =>
 obtain ⟨hk4,hx4,HF4⟩:=hcut;have HPUT:=KZ9 (fun o n m c v l W hg hn hm hl hmc hv=>QT g o n m c v 227 l W hg hn hm hl hmc hv);have wl:IntKind.u64.wrap (len:Int)=(len:Int):=by rw [IntKind.wrap_u64];omega
 have we:IntKind.u64.wrap (ep:Int)=(ep:Int):=by rw [IntKind.wrap_u64];omega
 have ws:IntKind.u64.wrap (sum:Int)=(sum:Int):=by rw [IntKind.wrap_u64];omega
 clear hwa hua;obtain ⟨L2,hL2⟩:=KZ6 (((splice (zs 64) 0 [72,83,84,83]).set 4 1).set 5 (UInt8.ofNat act));have hl2:L2.length=64:=by rw [hL2];rfl
 rw [←hL2] at hk4;have HL2:=KZ9 hL2;clear hL2 hcp;have q0:=(hx4.drew).c 0 _ rfl;have HX4:=KZ9 hx4.drew;have HP4:=KZ9 (HPUT.out 6 8 58 58 gen L2 wc.drew hk4.drew (by decide) (by decide) (by rw [hl2];decide) (by decide) (by omega));have HD4:=KZ9 (below_drewN HF4.out 1);clear hx4 hk4;go_upto_region 6 with fail
 all_goals try omega
 go_region_with (go_at_call 129;refine HP4.out.mono ?_;rintro e w5 ⟨rfl,hk5,hbt5⟩)
 have hx5:=HX4.out.but hbt5 (show ¬ w.heap.size=g by omega);have HF5:=KZ9 (((But.of_below (fun k=>k=g) HD4.out).step hbt5 (fun i hi=> .inl hi)).to_below (by rintro k rfl;omega) (Nat.le_refl _));obtain ⟨L3,hL3⟩:∃ x,x=splice L2 6 (le 8 gen):=⟨_,rfl⟩;have hl3:L3.length=64:=by rw [hL3,length_splice' _ _ _ (by rw [yW,hl2];decide),hl2]
 rw [←hL3] at hk5;have HL3:=KZ9 hL3;clear hL3 hbt5 HX4 HP4 HD4 q0;have q2:=(hx5.drew).c 2 _ rfl;have HX5:=KZ9 hx5.drew;have HP5:=KZ9 (HPUT.out 14 4 50 50 ep L3 w5.drew hk5.drew (by decide) (by decide) (by rw [hl3];decide) (by decide) (by omega));have HD5:=KZ9 (below_drewN HF5.out 1);clear hx5 hk5;go_upto_region 7 with fail
 all_goals try omega
 go_region_with (go_at_call 129;refine HP5.out.mono ?_;rintro e w6 ⟨rfl,hk6,hbt6⟩)
 have hx6:=HX5.out.but hbt6 (show ¬ w.heap.size=g by omega);have HF6:=KZ9 (((But.of_below (fun k=>k=g) HD5.out).step hbt6 (fun i hi=> .inl hi)).to_below (by rintro k rfl;omega) (Nat.le_refl _));obtain ⟨L4,hL4⟩:∃ x,x=splice L3 14 (le 4 ep):=⟨_,rfl⟩;have hl4:L4.length=64:=by rw [hL4,length_splice' _ _ _ (by rw [yW,hl3];decide),hl3]
 rw [←hL4] at hk6;have HL4:=KZ9 hL4;clear hL4 hbt6 HX5 HP5 HD5 q2;have q3:=(hx6.drew).c 3 _ rfl;have HX6:=KZ9 hx6.drew;have HP6:=KZ9 (HPUT.out 18 4 46 46 len L4 w6.drew hk6.drew (by decide) (by decide) (by rw [hl4];decide) (by decide) (by omega));have HD6:=KZ9 (below_drewN HF6.out 1);clear hx6 hk6;go_upto_region 8 with fail
 all_goals try omega
 go_region_with (go_at_call 129;refine HP6.out.mono ?_;rintro e w7 ⟨rfl,hk7,hbt7⟩)
 have hx7:=HX6.out.but hbt7 (show ¬ w.heap.size=g by omega);have HF7:=KZ9 (((But.of_below (fun k=>k=g) HD6.out).step hbt7 (fun i hi=> .inl hi)).to_below (by rintro k rfl;omega) (Nat.le_refl _));obtain ⟨L5,hL5⟩:∃ x,x=splice L4 18 (le 4 len):=⟨_,rfl⟩;have hl5:L5.length=64:=by rw [hL5,length_splice' _ _ _ (by rw [yW,hl4];decide),hl4]
 rw [←hL5] at hk7;have HL5:=KZ9 hL5;clear hL5 hbt7 HX6 HP6 HD6 q3;have q4:=(hx7.drew).c 4 _ rfl;have HX7:=KZ9 hx7.drew;have HP7:=KZ9 (HPUT.out 22 4 42 42 sum L5 w7.drew hk7.drew (by decide) (by decide) (by rw [hl5];decide) (by decide) (by omega));have HD7:=KZ9 (below_drewN HF7.out 1);clear hx7 hk7;go_upto_region 9 with fail
 all_goals try omega
 go_region_with (go_at_call 129;refine HP7.out.mono ?_;rintro e w8 ⟨rfl,hk8,hbt8⟩)
 have hx8:=HX7.out.but hbt8 (show ¬ w.heap.size=g by omega);have HF8:=KZ9 (((But.of_below (fun k=>k=g) HD7.out).step hbt8 (fun i hi=> .inl hi)).to_below (by rintro k rfl;omega) (Nat.le_refl _));obtain ⟨L6,hL6⟩:∃ x,x=splice L5 22 (le 4 sum):=⟨_,rfl⟩;have hl6:L6.length=64:=by rw [hL6,length_splice' _ _ _ (by rw [yW,hl5];decide),hl5]
 rw [←hL6] at hk8;have HL6:=KZ9 hL6;clear hL6 hbt8 HX7 HP7 HD7 q4;have hall:L6=t7 ⟨gen,act,ep,len,sum⟩++[0,0,0,0]:=by
  rw [HL6.out,HL5.out,HL4.out,HL3.out,HL2.out];rfl
 have ht:(L6.drop 0).take 60=t7 ⟨gen,act,ep,len,sum⟩:=by
  rw [hall,List.drop_zero,List.take_left' (vt _)]
 have hfin:∀ v,splice L6 60 (le 4 v)=t7 ⟨gen,act,ep,len,sum⟩++le 4 v:=by
  intro v;rw [hall];have e0:(t7 ⟨gen,act,ep,len,sum⟩).length=60:=vt _;unfold splice;rw [yW,List.take_left' e0,List.drop_of_length_le (by simp [e0]),List.append_nil]
 have hE:tk ⟨gen,act,ep,len,sum⟩=t7 ⟨gen,act,ep,len,sum⟩++le 4 (wX (t7 ⟨gen,act,ep,len,sum⟩)):=rfl;have hC:=tX _ _ w8.drew (Byts.blk hk8.drew 0 60 64 (by rw [hl6];decide) (by decide) (by unfold maxLen;omega)) (by rw [List.length_take];omega);rw [ht] at hC;have hcl:=qT (t7 ⟨gen,act,ep,len,sum⟩);have HE:=KZ9 hE;have HFI:=KZ9 (hfin (wX (t7 ⟨gen,act,ep,len,sum⟩)));generalize wX (t7 ⟨gen,act,ep,len,sum⟩)=q at hC hcl HE HFI;have HC:=KZ9 hC;have wq:IntKind.u64.wrap (q:Int)=(q:Int):=by rw [IntKind.wrap_u64];omega
 have HP:=KZ9 (HPUT.out 60 4 4 4 q L6 w8.drew hk8.drew (by decide) (by decide) (by rw [hl6];decide) (by decide) (by omega));have HD:=KZ9 (below_drewN HF8.out 1);clear hfin hE ht hall hC hk8 hx8;go_upto_region 10 with fail
 all_goals try omega
 go_region_with (first
  | (go_at_call 67;refine HC.out.mono ?_;rintro e w9 ⟨rfl,rfl⟩)
  | (go_at_call 129;refine HP.out.mono ?_;rintro e w9 ⟨rfl,hk9,hbt9⟩))
 all_goals (
  rw [HFI.out,←HE.out] at hk9;have HF9:=KZ9 (((But.of_below (fun k=>k=g) HD.out).step hbt9 (fun i hi=> .inl hi)).to_below (by rintro k rfl;omega) (Nat.le_refl _));have HK9:=KZ9 hk9;clear hk9 hbt9;go_wp2;go_ret2;exact ⟨g,rfl,by omega,HK9.out,HF9.out⟩)
theorem V2 (w:World):Calls Tryz.prog 63 #[.int .i64 40] w fun e w'=>e= .returned (.tuple #[.agg (uW 2 19 9).toArray,.int .i64 0])∧Below w.heap.size w w':=by
 obtain ⟨W0,hW0⟩:=KZ6 ((w.alloc (.cells #[.int .i64 0,.int .i64 0,.int .i64 0,.int .i64 0,.int .i64 0,.int .i64 0,.int .i64 0,.int .i64 0,.int .i64 0] 146)).alloc (.cells #[.int .i64 2,.int .i64 0,.int .i64 0,.int .i64 0,.int .i64 0,.int .i64 0,.int .i64 0,.int .i64 0,.int .i64 0] 146));have hb0:Below w.heap.size w W0:=by rw [hW0];exact ((Below.refl _ w).alloc (Nat.le_refl _) _).alloc (by simp) _
 have hx0:BlkL W0 w.heap.size 146 [.int .i64 0,.int .i64 0,.int .i64 0,.int .i64 0,.int .i64 0,.int .i64 0,.int .i64 0,.int .i64 0,.int .i64 0]:=by rw [hW0];exact (BlkL.new w _ _).alloc _
 have hy0:BlkL W0 (w.heap.size+1) 146 [.int .i64 2,.int .i64 0,.int .i64 0,.int .i64 0,.int .i64 0,.int .i64 0,.int .i64 0,.int .i64 0,.int .i64 0]:=by
  rw [hW0];have:=BlkL.new (w.alloc (.cells #[.int .i64 0,.int .i64 0,.int .i64 0,.int .i64 0,.int .i64 0,.int .i64 0,.int .i64 0,.int .i64 0,.int .i64 0] 146)) 146 [.int .i64 2,.int .i64 0,.int .i64 0,.int .i64 0,.int .i64 0,.int .i64 0,.int .i64 0,.int .i64 0,.int .i64 0]
  rwa [World.size_alloc] at this
 have HX0:=KZ9 hx0;have HY0:=KZ9 hy0;have HB0:=KZ9 hb0;have HW0:Hid ((w.alloc (.cells #[.int .i64 0,.int .i64 0,.int .i64 0,.int .i64 0,.int .i64 0,.int .i64 0,.int .i64 0,.int .i64 0,.int .i64 0] 146)).alloc (.cells #[.int .i64 2,.int .i64 0,.int .i64 0,.int .i64 0,.int .i64 0,.int .i64 0,.int .i64 0,.int .i64 0,.int .i64 0] 146)=W0):=KZ9 hW0.symm;clear hW0 hb0 hx0 hy0;have hmin:min (2:Int) 1000=2:=by decide
 go_enter Tryz.func63,Tryz.ntmps63
 go_wp2_with fail
 all_goals try omega
 rw [HW0.out];go_loopw [37] (fun iv wr=>((iv= .int .i64 0∧Hid (BlkL wr (w.heap.size+1) 146 [.int .i64 2,.int .i64 0,.int .i64 0,.int .i64 0,.int .i64 0,.int .i64 0,.int .i64 0,.int .i64 0,.int .i64 0]))∨(iv= .int .i64 1∧Hid (BlkL wr (w.heap.size+1) 146 [.int .i64 2,.int .i64 2,.int .i64 9,.int .i64 0,.int .i64 0,.int .i64 11,.int .i64 10,.int .i64 0,.int .i64 0]))∨(iv= .int .i64 2∧Hid (BlkL wr (w.heap.size+1) 146 [.int .i64 2,.int .i64 2,.int .i64 9,.int .i64 21,.int .i64 9,.int .i64 11,.int .i64 10,.int .i64 30,.int .i64 10])))∧Hid (BlkL wr w.heap.size 146 [.int .i64 0,.int .i64 0,.int .i64 0,.int .i64 0,.int .i64 0,.int .i64 0,.int .i64 0,.int .i64 0,.int .i64 0])∧Hid (Below w.heap.size w wr)) (fun iv _=>2 - (intOf iv).toNat)
 case atStart=>exact ⟨.inl ⟨rfl,HY0⟩,HX0,HB0⟩
 case round =>
  obtain ⟨hj,HX,HB⟩:=hrel;rcases hj with ⟨rfl,HY⟩ | ⟨rfl,HY⟩ | ⟨rfl,HY⟩
  ·have hlt:=HY.out.lt;have c0:=HY.out.c 1 _ rfl;have f0:=HY.out.f 1;have c1:=HY.out.c 2 _ rfl;have f1:=HY.out.f 2;have c2:=HY.out.c 5 _ rfl;have f2:=HY.out.f 5;have c3:=HY.out.c 6 _ rfl;have f3:=HY.out.f 6;go_wp2
   all_goals try omega
   go_roundw
   case rel =>
    refine ⟨.inr (.inl ⟨rfl,KZ9 ?_⟩),KZ9 ?_,KZ9 ?_⟩
    ·exact ((((HY.out.set 1 (by simp) (.int .i64 2)).set 2 (by simp) (.int .i64 9)).set 5 (by simp) (.int .i64 11)).set 6 (by simp) (.int .i64 10))
    ·exact ((((HX.out.other (p:=w.heap.size+1) (by omega) 1 (.int .i64 2)).other (p:=w.heap.size+1) (by omega) 2 (.int .i64 9)).other (p:=w.heap.size+1) (by omega) 5 (.int .i64 11)).other (p:=w.heap.size+1) (by omega) 6 (.int .i64 10))
    exact ((((HB.out.trans (ze _ (w.heap.size+1) 1 (.int .i64 2) (by omega))).trans (ze _ (w.heap.size+1) 2 (.int .i64 9) (by omega))).trans (ze _ (w.heap.size+1) 5 (.int .i64 11) (by omega))).trans (ze _ (w.heap.size+1) 6 (.int .i64 10) (by omega)))
   case measure=>simp [intOf]
  ·have hlt:=HY.out.lt;have c0:=HY.out.c 3 _ rfl;have f0:=HY.out.f 3;have c1:=HY.out.c 4 _ rfl;have f1:=HY.out.f 4;have c2:=HY.out.c 7 _ rfl;have f2:=HY.out.f 7;have c3:=HY.out.c 8 _ rfl;have f3:=HY.out.f 8;go_wp2
   all_goals try omega
   go_roundw
   case rel =>
    refine ⟨.inr (.inr ⟨rfl,KZ9 ?_⟩),KZ9 ?_,KZ9 ?_⟩
    ·exact ((((HY.out.set 3 (by simp) (.int .i64 21)).set 4 (by simp) (.int .i64 9)).set 7 (by simp) (.int .i64 30)).set 8 (by simp) (.int .i64 10))
    ·exact ((((HX.out.other (p:=w.heap.size+1) (by omega) 3 (.int .i64 21)).other (p:=w.heap.size+1) (by omega) 4 (.int .i64 9)).other (p:=w.heap.size+1) (by omega) 7 (.int .i64 30)).other (p:=w.heap.size+1) (by omega) 8 (.int .i64 10))
    exact ((((HB.out.trans (ze _ (w.heap.size+1) 3 (.int .i64 21) (by omega))).trans (ze _ (w.heap.size+1) 4 (.int .i64 9) (by omega))).trans (ze _ (w.heap.size+1) 7 (.int .i64 30) (by omega))).trans (ze _ (w.heap.size+1) 8 (.int .i64 10) (by omega)))
   case measure=>simp [intOf]
  have hlt:=HY.out.lt;have c0:=HY.out.c 0 _ rfl;have d0:=HX.out.c 0 _ rfl;have f0:=HX.out.f 0;have c1:=HY.out.c 1 _ rfl;have d1:=HX.out.c 1 _ rfl;have f1:=HX.out.f 1;have c2:=HY.out.c 2 _ rfl;have d2:=HX.out.c 2 _ rfl;have f2:=HX.out.f 2;have c3:=HY.out.c 3 _ rfl;have d3:=HX.out.c 3 _ rfl;have f3:=HX.out.f 3;have c4:=HY.out.c 4 _ rfl;have d4:=HX.out.c 4 _ rfl;have f4:=HX.out.f 4;have c5:=HY.out.c 5 _ rfl;have d5:=HX.out.c 5 _ rfl;have f5:=HX.out.f 5;have c6:=HY.out.c 6 _ rfl;have d6:=HX.out.c 6 _ rfl;have f6:=HX.out.f 6;have c7:=HY.out.c 7 _ rfl;have d7:=HX.out.c 7 _ rfl;have f7:=HX.out.f 7;have c8:=HY.out.c 8 _ rfl;have d8:=HX.out.c 8 _ rfl;have f8:=HX.out.f 8;go_wp2
  all_goals try omega
  have hR:=(((((((((HX.out.set 0 (by simp) (.int .i64 2)).set 1 (by simp) (.int .i64 2)).set 2 (by simp) (.int .i64 9)).set 3 (by simp) (.int .i64 21)).set 4 (by simp) (.int .i64 9)).set 5 (by simp) (.int .i64 11)).set 6 (by simp) (.int .i64 10)).set 7 (by simp) (.int .i64 30)).set 8 (by simp) (.int .i64 10));refine bodyPost_ret (zf rfl _ _ w.heap.size 146 _ _ rfl hR Tryz.underlying146 rfl WX) rfl ?_
  exact ⟨rfl,(((((((((HB.out.trans (ze _ w.heap.size 0 (.int .i64 2) (by omega))).trans (ze _ w.heap.size 1 (.int .i64 2) (by omega))).trans (ze _ w.heap.size 2 (.int .i64 9) (by omega))).trans (ze _ w.heap.size 3 (.int .i64 21) (by omega))).trans (ze _ w.heap.size 4 (.int .i64 9) (by omega))).trans (ze _ w.heap.size 5 (.int .i64 11) (by omega))).trans (ze _ w.heap.size 6 (.int .i64 10) (by omega))).trans (ze _ w.heap.size 7 (.int .i64 30) (by omega))).trans (ze _ w.heap.size 8 (.int .i64 10) (by omega)))⟩
theorem gY (w:World):Calls Tryz.prog 63 #[.int .i64 60] w fun e w'=>e= .returned (.tuple #[.agg (uW 3 29 14).toArray,.int .i64 0])∧Below w.heap.size w w':=by
 obtain ⟨W0,hW0⟩:=KZ6 ((w.alloc (.cells #[.int .i64 0,.int .i64 0,.int .i64 0,.int .i64 0,.int .i64 0,.int .i64 0,.int .i64 0,.int .i64 0,.int .i64 0] 146)).alloc (.cells #[.int .i64 3,.int .i64 0,.int .i64 0,.int .i64 0,.int .i64 0,.int .i64 0,.int .i64 0,.int .i64 0,.int .i64 0] 146));have hb0:Below w.heap.size w W0:=by rw [hW0];exact ((Below.refl _ w).alloc (Nat.le_refl _) _).alloc (by simp) _
 have hx0:BlkL W0 w.heap.size 146 [.int .i64 0,.int .i64 0,.int .i64 0,.int .i64 0,.int .i64 0,.int .i64 0,.int .i64 0,.int .i64 0,.int .i64 0]:=by rw [hW0];exact (BlkL.new w _ _).alloc _
 have hy0:BlkL W0 (w.heap.size+1) 146 [.int .i64 3,.int .i64 0,.int .i64 0,.int .i64 0,.int .i64 0,.int .i64 0,.int .i64 0,.int .i64 0,.int .i64 0]:=by
  rw [hW0];have:=BlkL.new (w.alloc (.cells #[.int .i64 0,.int .i64 0,.int .i64 0,.int .i64 0,.int .i64 0,.int .i64 0,.int .i64 0,.int .i64 0,.int .i64 0] 146)) 146 [.int .i64 3,.int .i64 0,.int .i64 0,.int .i64 0,.int .i64 0,.int .i64 0,.int .i64 0,.int .i64 0,.int .i64 0]
  rwa [World.size_alloc] at this
 have HX0:=KZ9 hx0;have HY0:=KZ9 hy0;have HB0:=KZ9 hb0;have HW0:Hid ((w.alloc (.cells #[.int .i64 0,.int .i64 0,.int .i64 0,.int .i64 0,.int .i64 0,.int .i64 0,.int .i64 0,.int .i64 0,.int .i64 0] 146)).alloc (.cells #[.int .i64 3,.int .i64 0,.int .i64 0,.int .i64 0,.int .i64 0,.int .i64 0,.int .i64 0,.int .i64 0,.int .i64 0] 146)=W0):=KZ9 hW0.symm;clear hW0 hb0 hx0 hy0;have hmin:min (3:Int) 1000=3:=by decide
 go_enter Tryz.func63,Tryz.ntmps63
 go_wp2_with fail
 all_goals try omega
 rw [HW0.out];go_loopw [37] (fun iv wr=>((iv= .int .i64 0∧Hid (BlkL wr (w.heap.size+1) 146 [.int .i64 3,.int .i64 0,.int .i64 0,.int .i64 0,.int .i64 0,.int .i64 0,.int .i64 0,.int .i64 0,.int .i64 0]))∨(iv= .int .i64 1∧Hid (BlkL wr (w.heap.size+1) 146 [.int .i64 3,.int .i64 2,.int .i64 14,.int .i64 0,.int .i64 0,.int .i64 16,.int .i64 15,.int .i64 0,.int .i64 0]))∨(iv= .int .i64 2∧Hid (BlkL wr (w.heap.size+1) 146 [.int .i64 3,.int .i64 2,.int .i64 14,.int .i64 31,.int .i64 14,.int .i64 16,.int .i64 15,.int .i64 45,.int .i64 15])))∧Hid (BlkL wr w.heap.size 146 [.int .i64 0,.int .i64 0,.int .i64 0,.int .i64 0,.int .i64 0,.int .i64 0,.int .i64 0,.int .i64 0,.int .i64 0])∧Hid (Below w.heap.size w wr)) (fun iv _=>2 - (intOf iv).toNat)
 case atStart=>exact ⟨.inl ⟨rfl,HY0⟩,HX0,HB0⟩
 case round =>
  obtain ⟨hj,HX,HB⟩:=hrel;rcases hj with ⟨rfl,HY⟩ | ⟨rfl,HY⟩ | ⟨rfl,HY⟩
  ·have hlt:=HY.out.lt;have c0:=HY.out.c 1 _ rfl;have f0:=HY.out.f 1;have c1:=HY.out.c 2 _ rfl;have f1:=HY.out.f 2;have c2:=HY.out.c 5 _ rfl;have f2:=HY.out.f 5;have c3:=HY.out.c 6 _ rfl;have f3:=HY.out.f 6;go_wp2
   all_goals try omega
   go_roundw
   case rel =>
    refine ⟨.inr (.inl ⟨rfl,KZ9 ?_⟩),KZ9 ?_,KZ9 ?_⟩
    ·exact ((((HY.out.set 1 (by simp) (.int .i64 2)).set 2 (by simp) (.int .i64 14)).set 5 (by simp) (.int .i64 16)).set 6 (by simp) (.int .i64 15))
    ·exact ((((HX.out.other (p:=w.heap.size+1) (by omega) 1 (.int .i64 2)).other (p:=w.heap.size+1) (by omega) 2 (.int .i64 14)).other (p:=w.heap.size+1) (by omega) 5 (.int .i64 16)).other (p:=w.heap.size+1) (by omega) 6 (.int .i64 15))
    exact ((((HB.out.trans (ze _ (w.heap.size+1) 1 (.int .i64 2) (by omega))).trans (ze _ (w.heap.size+1) 2 (.int .i64 14) (by omega))).trans (ze _ (w.heap.size+1) 5 (.int .i64 16) (by omega))).trans (ze _ (w.heap.size+1) 6 (.int .i64 15) (by omega)))
   case measure=>simp [intOf]
  ·have hlt:=HY.out.lt;have c0:=HY.out.c 3 _ rfl;have f0:=HY.out.f 3;have c1:=HY.out.c 4 _ rfl;have f1:=HY.out.f 4;have c2:=HY.out.c 7 _ rfl;have f2:=HY.out.f 7;have c3:=HY.out.c 8 _ rfl;have f3:=HY.out.f 8;go_wp2
   all_goals try omega
   go_roundw
   case rel =>
    refine ⟨.inr (.inr ⟨rfl,KZ9 ?_⟩),KZ9 ?_,KZ9 ?_⟩
    ·exact ((((HY.out.set 3 (by simp) (.int .i64 31)).set 4 (by simp) (.int .i64 14)).set 7 (by simp) (.int .i64 45)).set 8 (by simp) (.int .i64 15))
    ·exact ((((HX.out.other (p:=w.heap.size+1) (by omega) 3 (.int .i64 31)).other (p:=w.heap.size+1) (by omega) 4 (.int .i64 14)).other (p:=w.heap.size+1) (by omega) 7 (.int .i64 45)).other (p:=w.heap.size+1) (by omega) 8 (.int .i64 15))
    exact ((((HB.out.trans (ze _ (w.heap.size+1) 3 (.int .i64 31) (by omega))).trans (ze _ (w.heap.size+1) 4 (.int .i64 14) (by omega))).trans (ze _ (w.heap.size+1) 7 (.int .i64 45) (by omega))).trans (ze _ (w.heap.size+1) 8 (.int .i64 15) (by omega)))
   case measure=>simp [intOf]
  have hlt:=HY.out.lt;have c0:=HY.out.c 0 _ rfl;have d0:=HX.out.c 0 _ rfl;have f0:=HX.out.f 0;have c1:=HY.out.c 1 _ rfl;have d1:=HX.out.c 1 _ rfl;have f1:=HX.out.f 1;have c2:=HY.out.c 2 _ rfl;have d2:=HX.out.c 2 _ rfl;have f2:=HX.out.f 2;have c3:=HY.out.c 3 _ rfl;have d3:=HX.out.c 3 _ rfl;have f3:=HX.out.f 3;have c4:=HY.out.c 4 _ rfl;have d4:=HX.out.c 4 _ rfl;have f4:=HX.out.f 4;have c5:=HY.out.c 5 _ rfl;have d5:=HX.out.c 5 _ rfl;have f5:=HX.out.f 5;have c6:=HY.out.c 6 _ rfl;have d6:=HX.out.c 6 _ rfl;have f6:=HX.out.f 6;have c7:=HY.out.c 7 _ rfl;have d7:=HX.out.c 7 _ rfl;have f7:=HX.out.f 7;have c8:=HY.out.c 8 _ rfl;have d8:=HX.out.c 8 _ rfl;have f8:=HX.out.f 8;go_wp2
  all_goals try omega
  have hR:=(((((((((HX.out.set 0 (by simp) (.int .i64 3)).set 1 (by simp) (.int .i64 2)).set 2 (by simp) (.int .i64 14)).set 3 (by simp) (.int .i64 31)).set 4 (by simp) (.int .i64 14)).set 5 (by simp) (.int .i64 16)).set 6 (by simp) (.int .i64 15)).set 7 (by simp) (.int .i64 45)).set 8 (by simp) (.int .i64 15));refine bodyPost_ret (zf rfl _ _ w.heap.size 146 _ _ rfl hR Tryz.underlying146 rfl WX) rfl ?_
  exact ⟨rfl,(((((((((HB.out.trans (ze _ w.heap.size 0 (.int .i64 3) (by omega))).trans (ze _ w.heap.size 1 (.int .i64 2) (by omega))).trans (ze _ w.heap.size 2 (.int .i64 14) (by omega))).trans (ze _ w.heap.size 3 (.int .i64 31) (by omega))).trans (ze _ w.heap.size 4 (.int .i64 14) (by omega))).trans (ze _ w.heap.size 5 (.int .i64 16) (by omega))).trans (ze _ w.heap.size 6 (.int .i64 15) (by omega))).trans (ze _ w.heap.size 7 (.int .i64 45) (by omega))).trans (ze _ w.heap.size 8 (.int .i64 15) (by omega)))⟩
def wF (n:Nat):Bs:=tk wU++zs (64*n - 64)
theorem gS (N o m:Nat) (h:o+m≤N):splice (zs N) o (zs m)=zs N:=by
 simp only [splice,zs,List.take_replicate,List.drop_replicate,List.length_replicate,List.replicate_append_replicate]
 congr 1
 omega
theorem Y7 (n:Nat) (h:1≤n):splice (zs (64*n)) (64*0) (tk wU)=wF n:=by
 simp only [splice,wF,zs,List.drop_replicate,yf,Nat.mul_zero,List.take_zero,List.nil_append,Nat.zero_add]
theorem Y8 (n:Nat) (h:2≤n):splice (wF n) (64*1) (zs 64)=wF n:=by
 have hl:=yf wU;apply List.ext_getElem?;intro k;rw [getElem?_splice _ _ _ (by simp [wF,hl,yV];omega)];rw [yV];by_cases h1:k<64*1
 ·rw [if_pos h1]
 rw [if_neg h1];by_cases h2:k<64*1+64
 ·rw [if_pos h2];simp only [wF];rw [List.getElem?_append_right (by omega),hl];simp only [zs,List.getElem?_replicate];rw [if_pos (by omega),if_pos (by omega)]
 rw [if_neg h2]
def Gnd (I:DK) (B w:World):Prop:=Base6 B∧(∀ k,I.S k→B.heap.size≤k)∧Below B.heap.size B w
theorem Gnd.base {I:DK} {B w:World} (h:Gnd I B w):Base6 w:=h.1.below h.2.2
theorem Gnd.but {I:DK} {B w w':World} {T:Nat→Prop} (h:Gnd I B w) (hb:But T w w') (hT:∀ k,T k→B.heap.size≤k):Gnd I B w':=⟨h.1,h.2.1,h.2.2.trans (hb.to_below hT h.2.2.size)⟩
theorem Gnd.step {I:DK} {B w w':World} (h:Gnd I B w) (hb:But I.S w w'):Gnd I B w':=h.but hb h.2.1
theorem Gnd.below {I:DK} {B w w':World} (h:Gnd I B w) (hb:Below w.heap.size w w'):Gnd I B w':=⟨h.1,h.2.1,h.2.2.trans (hb.mono h.2.2.size)⟩
theorem jY (I:DK) (w:World) (n:Nat) (S C:Bs) (h:DskE I w n S C):Calls Tryz.prog 64 #[.pointer (some ⟨I.dd,0,none⟩)] w fun e w'=>e= .returned (.int .i64 (n:Int))∧w=w':=by
 obtain ⟨K,hK,hd⟩:=h;exact tq I w K n S C hd
theorem RB (I:DK) (n:Nat) (S C D:Bs) (v:Value) (z0 z1:Nat) (w:World) (hd:DskE I w n S C) (b0:BlkL w z0 25 [.pointer (some ⟨I.dd,0,none⟩)]) (b1:BlkL w z1 34 [v]) (hv:Byts w v D) (hf:∀ k,v.ownBlock=some k→¬ I.S k) (hn:1≤n) (hD:D.length=64) :
  Calls Tryz.prog 71 #[.pointer (some ⟨z0,0,none⟩),.pointer (some ⟨z1,0,none⟩)] w fun e w'=>e= .returned (.int .i64 0)∧DskE I w' n S (splice C (64*0) D)∧But I.S w w':=by
 have HW:=KZ9 (Tz I w n 0 S C D v hd hn hv hD hf);have c0:=b0.c 0 _ rfl;have c1:=b1.c 0 _ rfl;clear hd b0 b1 hv hf hD;go_enter Tryz.func71,Tryz.ntmps71
 go_wp2_with fail
 refine HW.out.mono ?_;rintro e w1 ⟨rfl,hd1,hb1⟩;have HD1:=KZ9 hd1;have HB1:=KZ9 hb1;clear hd1 hb1 HW;go_wp2_with fail
 go_ret;exact ⟨rfl,HD1.out,HB1.out⟩
theorem RA (I:DK) (n:Nat) (S C:Bs) (z0:Nat) (w:World) (hd:DskE I w n S C) (b0:BlkL w z0 25 [.pointer (some ⟨I.dd,0,none⟩)]) (hn:2≤n) :
  Calls Tryz.prog 73 #[.pointer (some ⟨z0,0,none⟩)] w fun e w'=>e= .returned (.int .i64 0)∧DskE I w' n S (splice C (64*1) (zs 64))∧But I.S w w':=by
 obtain ⟨iB0,iB⟩:=info_parts yD;have n0:¬ I.S z0:=hd.other b0 (by decide) (by decide);obtain ⟨w2,hrun,hown2,hgrow2⟩:=run_make_full (P:=Tryz.prog) w.drew w.heap.size 34 5 iB0 (.int .u8 0) 1 Tryz.underlying34 iB.1 iB.2.1 iB.2.2.1 .i64 .i64 64 (by rw [iB.2.2.2];omega) (by unfold maxLen;omega) (Nat.le_refl _);have hbz:Below w.heap.size w w2:=(Below.refl _ w).drew.grown hgrow2 (Nat.le_refl _) (by simp);have hby2:Byts w2 (.slice (some ⟨w.heap.size,0,none⟩) 64 64) (zs 64):=by
  rw [bj] at hown2;exact Byts.owned (by rw [yV];exact hown2)
 have hnf:∀ k,(Value.slice (some ⟨w.heap.size,0,none⟩) 64 64).ownBlock=some k→¬ I.S k:=fun k hk hs=>by
  have h8:=(hown2.lt k hk).1;have h9:=hd.lt k hs;omega
 have HW:=KZ9 (Tz I w2 n 1 S C (zs 64) _ (hd.below hbz) (by omega) hby2 (yV 64) hnf);have hrun':(Instr.makeSlice 34 (.int .i64 64) (.int .i64 64)).run Tryz.prog w.drew= .ok (.slice (some ⟨w.heap.size,0,none⟩) 64 64) w2:=hrun;have HBZ:=KZ9 hbz;have HX:=KZ9 (fun W' (hb:But I.S w2 W')=>((b0.below b0.lt hbz).but hb n0).c 0 _ rfl);have c0:=b0.drew.c 0 _ rfl;have g0:=(b0.below b0.lt hbz).c 0 _ rfl;clear hd b0 hown2 hgrow2 hby2 hnf hbz hrun n0;go_enter Tryz.func73,Tryz.ntmps73
 go_upto_region 1 with fail
 go_region_held3 (fun W=>W.cell? ⟨z0,0,none⟩=some (.pointer (some ⟨I.dd,0,none⟩))) (go_keep) (first
  | (go_at_call 72;refine HW.out.mono ?_;rintro e w3 ⟨rfl,hd3,hb3⟩;have g3:=HX.out w3 hb3))
 all_goals (
  have HD1:=KZ9 hd3;have HB1:=KZ9 hb3;clear hd3 hb3 HW hrun' c0 g0 g3 HX;go_wp2;go_ret;exact ⟨rfl,HD1.out,(But.of_below I.S HBZ.out).trans HB1.out⟩)
theorem WA:YV wU:=by refine ⟨?_,?_,?_,?_,qT _⟩<;>simp [wU]
theorem Rw (W:World):Calls Tryz.prog 66 #[.agg #[.int .u64 1,.int .i64 0,.int .u32 1,.int .i64 2,.int .u32 (wX [0,0]:Int)]] W fun e w'=>∃ g,e= .returned (.tuple #[.slice (some ⟨g,0,none⟩) 64 64,.int .i64 0])∧W.heap.size≤g∧BlkL w' g 227 (zc (tk wU))∧Below W.heap.size W w':=gU wU W WA
theorem QV (I:DK) (n cap h s:Nat) (A:World) (a:Option Addr) (c g3 z0 z1 z2 z3 zd zq ga:Nat) (hd:DskE I A n (zs (64*n)) (zs (64*n)))
  (b0:BlkL A z0 25 [.pointer (some ⟨I.dd,0,none⟩)]) (b1:BlkL A z1 146 (uW cap h s)) (b2:BlkL A z2 3 [.int .i64 0]) (b3:BlkL A z3 34 [.slice a 2 c])
  (bd:BlkL A zd 25 [.pointer (some ⟨I.dd,0,none⟩)]) (bq:BlkL A zq 34 [.slice (some ⟨g3,0,none⟩) 64 64])
  (hv:Byts A (.slice a 2 c) [0,0]) (hvn:∀ k,(Value.slice a 2 c).ownBlock=some k→¬ I.S k) (hk3:BlkL A g3 227 (zc (tk wU)))
  (bg:BlkL A ga 156 (Y6 (.pointer (some ⟨z0,0,none⟩)) (.pointer (some ⟨z1,0,none⟩)) (.pointer (some ⟨z2,0,none⟩)) (.pointer (some ⟨z3,0,none⟩)) (.pointer (some ⟨zd,0,none⟩)) (.pointer (some ⟨zq,0,none⟩)) (.pointer (some ⟨I.dd,0,none⟩))))
  (hs:1≤s) (hsh:s<h) (hn:2+h≤n) (h100:h≤100) :
  Calls Tryz.prog 69 #[.slice (some ⟨ga,0,none⟩) 6 6] A fun e w'=>e= .returned (.int .i64 0)∧DskE I w' n (wF n) (wF n)∧But I.S A w':=by
 have n0:¬ I.S z0:=hd.other b0 (by decide) (by decide);have n1:¬ I.S z1:=hd.other b1 (by decide) (by decide);have n2:¬ I.S z2:=hd.other b2 (by decide) (by decide);have n3:¬ I.S z3:=hd.other b3 (by decide) (by decide);have nd:¬ I.S zd:=hd.other bd (by decide) (by decide);have nq:¬ I.S zq:=hd.other bq (by decide) (by decide);have ng3:¬ I.S g3:=hd.other hk3 (by decide) (by decide);have nga:¬ I.S ga:=hd.other bg (by decide) (by decide);have hv3:∀ W,But I.S A W→Byts W (.slice (some ⟨g3,0,none⟩) 64 64) (tk wU):=fun W hb=>by
  have:=Byts.blk (hk3.but hb ng3) 0 64 64 (by rw [yf];decide) (Nat.le_refl _) (by unfold maxLen;omega)
  rwa [List.drop_zero,List.take_of_length_le (by rw [yf];exact Nat.le_refl _)] at this
 refine (QW ga _ _ _ _ _ _ _ (fun i W=>But I.S A W∧DskE I W n (if i<6 then zs (64*n) else wF n) (if i<4 then zs (64*n) else wF n)) A ⟨But.refl _ _,hd⟩ (fun i W hJ=>bg.but hJ.1 nga) ?_ ?_ ?_ ?_ ?_ ?_).mono ?_
 ·rintro W ⟨hb,hD⟩;refine (TH I n cap h s _ _ [0,0] (.slice a 2 c) z0 z1 z2 z3 W hD (b0.but hb n0) (b1.but hb n1) (b2.but hb n2) (b3.but hb n3) (hv.but hb hvn) hvn hs (by omega) (by simp;omega)).mono ?_;rintro e w' ⟨rfl,h1,h2⟩;refine ⟨rfl,hb.trans h2,?_⟩;have h3:DskE I w' n (zs (64*n)) (splice (zs (64*n)) (64*2) (zs 2)):=h1;rw [gS _ _ _ (by omega)] at h3;exact h3
 ·rintro W ⟨hb,hD⟩;refine (TG I n cap h s _ _ z0 z1 z2 W hD (b0.but hb n0) (b1.but hb n1) (b2.but hb n2) hsh hn h100).mono ?_;rintro e w' ⟨rfl,h1,h2⟩;refine ⟨rfl,hb.trans h2,?_⟩;have h3:DskE I w' n (zs (64*n)) (splice (zs (64*n)) (64*(2+s)) (zs (64*(h - s)))):=h1;rw [gS _ _ _ (by omega)] at h3;exact h3
 ·rintro W ⟨hb,hD⟩;refine (WD I W n _ _ hD).mono ?_;rintro e w' ⟨rfl,h1,h2⟩;exact ⟨rfl,hb.trans h2,h1⟩
 ·rintro W ⟨hb,hD⟩;refine (RB I n _ _ (tk wU) _ zd zq W hD (bd.but hb nd) (bq.but hb nq) (hv3 W hb) (fun k hk=>by injection hk with hk;subst hk;exact ng3) (by omega) (yf _)).mono ?_;rintro e w' ⟨rfl,h1,h2⟩;refine ⟨rfl,hb.trans h2,?_⟩;have h3:DskE I w' n (zs (64*n)) (splice (zs (64*n)) (64*0) (tk wU)):=h1;rw [Y7 n (by omega)] at h3;exact h3
 ·rintro W ⟨hb,hD⟩;refine (RA I n _ _ zd W hD (bd.but hb nd) (by omega)).mono ?_;rintro e w' ⟨rfl,h1,h2⟩;refine ⟨rfl,hb.trans h2,?_⟩;have h3:DskE I w' n (zs (64*n)) (splice (wF n) (64*1) (zs 64)):=h1;rw [Y8 n (by omega)] at h3;exact h3
 ·rintro W ⟨hb,hD⟩;refine (WD I W n _ _ hD).mono ?_;rintro e w' ⟨rfl,h1,h2⟩;exact ⟨rfl,hb.trans h2,h1⟩
 rintro e w' ⟨rfl,h1,h2⟩;exact ⟨rfl,h2,h1⟩
end Go.Proofs.YtbnnlkdhpifpeaaGreatDoor
