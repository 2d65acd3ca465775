/- What the proof of TopClock uses, part Clk13. -/
import Derived.Test.YtbnnlkdhpifpeaaGreatDoorClk12
set_option linter.unusedSimpArgs false
set_option linter.unusedVariables false
namespace Go.Proofs.YtbnnlkdhpifpeaaGreatDoor
open Go.RowKit Go.Shelf Hs HsR
attribute [local go_sem] Oper.semAt_some
def FInv (w:World) (z:Nat) (LL:List (Bs × Bool)) (pre:List (Bs × Bool)) (G:Nat→Prop) (W:World):Prop :=
 ∃ (D:List Fld) (v:Value),Hid (∀ rest,wJ (pre++rest) []=wJ rest D)∧D.length≤100 ∧
  Boxed W z 104 (.slice none 0 0)∧Boxed W (z+1) 30 (.int .i64 0)∧Boxed W (z+2) 104 v ∧
  W.ownsRow z 168 2 v D.length (wm D)∧W.heap[z+4]? =some (.deferred (some []))∧Below z w W ∧
  (∀ k,(G k∨k=z+5)→k<W.heap.size∧z+3≤k∧k≠z+4∧v.ownBlock≠some k)
def FOut (w:World) (z:Nat) (c:Code) (pre:List (Bs × Bool)) (G:Nat→Prop) (W:World):Prop :=
 c= .ret∧∃ (e:Int),Hid (∀ rest,wJ (pre++rest) []=([],e)) ∧
  Boxed W z 104 (.slice none 0 0)∧Boxed W (z+1) 30 (.int .i64 e)∧W.heap[z+4]? =some (.deferred (some []))∧Below z w W ∧
  (∀ k,(G k∨k=z+5)→k<W.heap.size∧z+3≤k∧k≠z+4)
theorem vY {w:World} {base:Nat} {e:TypeId} {size n:Nat} {v:Value} {xs:List Value} (h:w.ownsRow base e size v n xs):∃ a cap,v= .slice a n cap:=by
 rcases h.2 with ⟨rfl,rfl⟩ | ⟨g,cap,cur,rfl,_⟩
 ·exact ⟨none,0,rfl⟩
 exact ⟨_,cap,rfl⟩
theorem rU {w:World} {base:Nat} {e:TypeId} {size n:Nat} {v:Value} {xs:List Value} {k:Nat} {ds:Option (List Deferred)} (hd:w.heap[k]? =some (.deferred ds)) (h:w.ownsRow base e size v n xs):v.ownBlock≠some k:=by
 rcases h.2 with ⟨rfl,rfl⟩ | ⟨g,cap,cur,rfl,_,hg,_⟩
 ·simp [Value.ownBlock]
 intro e;have e2:g=k:=by simpa [Value.ownBlock] using e
 subst e2;rw [hd] at hg;cases hg
theorem xC {v:Value} {r:Option Nat} (h:∀ k,r=some k→v.ownBlock≠some k):v.ownBlock=none∨v.ownBlock≠r:=by
 cases hv:v.ownBlock with
 | none=>exact .inl rfl
 | some b=>exact .inr (fun e=>h b e.symm hv)
theorem FInv.turn {w:World} {z:Nat} {LL pre:List (Bs × Bool)} {G:Nat→Prop} {A B:World} {row:Option Nat} (h:FInv w z LL pre G A) (hz:z≤w.heap.size) (hg:A.grownBy B row) (hr:∀ r,row=some r→G r∨r=z+5):FInv w z LL pre G B:=by
 obtain ⟨D,v,h1,h2,b0,b1,b2,ho,hd,hb,hk⟩:=h;have ne:∀ j,j<z+3∨j=z+4→some j≠row:=fun j hj e=>by
  have:=hk j (hr j e.symm);omega
 exact ⟨D,v,h1,h2,b0.kept hg (ne _ (by omega)),b1.kept hg (ne _ (by omega)),b2.kept hg (ne _ (by omega)),ho.kept hg (xC fun k e=>(hk k (hr k e)).2.2.2),
  (hg.block _ (Array.getElem?_eq_some_iff.1 hd).1 (ne _ (.inr rfl))).trans hd,hb.grown hg (Nat.le_trans hz hb.size) (fun k e=>by have:=(hk k (hr k e));omega),
  fun k h=>⟨by have:=(hk k h).1;have:=hg.size;omega,(hk k h).2⟩⟩
theorem FInv.lay {w:World} {z:Nat} {LL pre:List (Bs × Bool)} {G:Nat→Prop} {A B:World} (h:FInv w z LL pre G A) (hz:z≤w.heap.size) (hg:A.grownBy B none):FInv w z LL pre (fun k=>G k∨(A.heap.size≤k∧k<B.heap.size)) B:=by
 obtain ⟨D,v,h1,h2,b0,b1,b2,ho,hd,hb,hk⟩:=h.turn hz hg (fun r e=>by cases e);obtain ⟨D',v',_,_,a0,a1,a2,ao,ad,_,ak⟩:=h;have hdl:=(Array.getElem?_eq_some_iff.1 ad).1;have hv:v'=v:=by
  have e1:=a2.kept hg (by simp);have e2:=e1.cell.symm.trans b2.cell;exact Option.some.inj e2
 subst hv;refine ⟨D,v',h1,h2,b0,b1,b2,ho,hd,hb,fun k h=> ?_⟩;rcases h with (h | ⟨h3,h4⟩) | h
 ·exact hk k (.inl h)
 ·exact ⟨h4,by omega,by omega,fun e=>by have:=(ao.lt k e).2;omega⟩
 exact hk k (.inr h)
theorem FOut.turn {w:World} {z:Nat} {c:Code} {pre:List (Bs × Bool)} {G:Nat→Prop} {A B:World} {row:Option Nat} (h:FOut w z c pre G A) (hz:z≤w.heap.size) (hg:A.grownBy B row) (hr:∀ r,row=some r→G r∨r=z+5):FOut w z c pre G B:=by
 obtain ⟨hc,e,h1,b0,b1,hd,hb,hk⟩:=h;have ne:∀ j,j<z+3∨j=z+4→some j≠row:=fun j hj e=>by
  have:=hk j (hr j e.symm);omega
 exact ⟨hc,e,h1,b0.kept hg (ne _ (by omega)),b1.kept hg (ne _ (by omega)),
  (hg.block _ (Array.getElem?_eq_some_iff.1 hd).1 (ne _ (.inr rfl))).trans hd,hb.grown hg (Nat.le_trans hz hb.size) (fun k e=>by have:=(hk k (hr k e));omega),
  fun k h=>⟨by have:=(hk k h).1;have:=hg.size;omega,(hk k h).2⟩⟩
theorem FOut.lay {w:World} {z:Nat} {c:Code} {pre:List (Bs × Bool)} {G:Nat→Prop} {A B:World} (h:FOut w z c pre G A) (hz:z≤w.heap.size) (hg:A.grownBy B none):FOut w z c pre (fun k=>G k∨(A.heap.size≤k∧k<B.heap.size)) B:=by
 obtain ⟨hc,e,h1,b0,b1,hd,hb,hk⟩:=h.turn hz hg (fun r e=>by cases e);obtain ⟨_,_,_,_,_,ad,_,_⟩:=h;have hdl:=(Array.getElem?_eq_some_iff.1 ad).1;refine ⟨hc,e,h1,b0,b1,hd,hb,fun k h=> ?_⟩;rcases h with (h | ⟨h3,h4⟩) | h
 ·exact hk k (.inl h)
 ·exact ⟨h4,by omega,by omega⟩
 exact hk k (.inr h)
theorem FInv.out {w:World} {z:Nat} {LL pre0 pre:List (Bs × Bool)} {G:Nat→Prop} {A:World} {e:Int} (h:FInv w z LL pre0 G A) (hz:z≤w.heap.size) (hr:Hid (∀ rest,wJ (pre++rest) []=([],e))) :
  ((A.setCell ⟨z,0,none⟩ (.slice none 0 0)).setCell ⟨z+1,0,none⟩ (.int .i64 e)).heap[z+5]? =A.heap[z+5]? ∧FOut w z .ret pre G ((A.setCell ⟨z,0,none⟩ (.slice none 0 0)).setCell ⟨z+1,0,none⟩ (.int .i64 e)):=by
 obtain ⟨D,v,h1,h2,b0,b1,b2,ho,hd,hb,hk⟩:=h;have hh:∀ j,z+1<j→((A.setCell ⟨z,0,none⟩ (.slice none 0 0)).setCell ⟨z+1,0,none⟩ (.int .i64 e)).heap[j]? =A.heap[j]? :=fun j hj =>
  (Below.heap_setCell _ _ _ _ (by simp;omega)).trans (Below.heap_setCell _ _ _ _ (by simp;omega))
 exact ⟨hh _ (by omega),rfl,e,hr,(b0.set _).other (by omega) _,(b1.other (by omega) _).set _,(hh _ (by omega)).trans hd,(hb.setCell (by simp) _).setCell (by simp) _,
  fun k h=>⟨by have:=(hk k h).1;simp;omega,(hk k h).2.1,(hk k h).2.2.1⟩⟩
theorem FInv.size {w:World} {z:Nat} {LL pre:List (Bs × Bool)} {G:Nat→Prop} {A:World} (h:FInv w z LL pre G A):z<A.heap.size:=by
 obtain ⟨_,_,_,_,b0,_⟩:=h;exact b0.lt
theorem rm (w:World) (a b:Value) (T:TypeId) (n:Nat) (hn:n=w.heap.size):∀ j u,[a,b][j]? =some u→(w.alloc (.cells #[a,b] T)).cell? ((⟨n,0,none⟩:Addr).add j)=some u:=by
 subst hn;intro j u hj;have hadd:(⟨w.heap.size,0,none⟩:Addr).add j=⟨w.heap.size,j,none⟩:=by unfold Addr.add;split<;>simp_all
 rw [hadd,World.cell?_alloc_mark]
 simpa using hj
theorem FInv.appended {w:World} {z:Nat} {LL pre pre':List (Bs × Bool)} {G:Nat→Prop} {A A1:World} {D:List Fld} {v r2:Value} {f:Fld} {o:Obj} {g cap:Nat} (h:FInv w z LL pre G A) (hz:z≤w.heap.size)
  (ho:A.ownsRow z 168 2 v D.length (wm D)) (b2:Boxed A (z+2) 104 v) (hD:D.length≠100) (hr:Hid (∀ rest,wJ (pre'++rest) []=wJ rest (D++[f])))
  (hown:A1.ownsRow z 168 2 (.slice (some ⟨g,0,none⟩) (D.length+1) cap) (D.length+1) (wm D++[.string (mk f.1),.string (mk f.2)])) (hg:(A.alloc o).grownBy A1 v.ownBlock) (hat:v.ownBlock=some g∨g=(A.alloc o).heap.size) :
  Boxed A1 (z+2) 104 v∧(A1.setCell ⟨z+2,0,none⟩ (.slice (some ⟨g,0,none⟩) (D.length+1) cap)).heap[z+5]? =A.heap[z+5]? ∧
   HsR.Keeps (fun k=>G k∨k<z) A (A1.setCell ⟨z+2,0,none⟩ (.slice (some ⟨g,0,none⟩) (D.length+1) cap))∧FInv w z LL pre' G (A1.setCell ⟨z+2,0,none⟩ (.slice (some ⟨g,0,none⟩) (D.length+1) cap)):=by
 obtain ⟨D',v',h1,h2,b0,b1,b2',ho',hd,hb,hk⟩:=h;have hv:v'=v:=Option.some.inj (b2'.cell.symm.trans b2.cell);subst hv;have hDD:D'.length=D.length:=by
  obtain ⟨_,_,e1⟩:=vY ho;obtain ⟨_,_,e2⟩:=vY ho';rw [e1] at e2;injection e2 with _ e3 _
  exact e3.symm
 have hsz:=hg.size;rw [World.size_alloc] at hsz;have hgA:A.grownBy A1 v'.ownBlock:=⟨hg.os,hg.tape,hg.output,by omega,fun k hk hne=>(hg.block k (by simp;omega) hne).trans (Below.heap_alloc A o k hk)⟩;have hne0:=b0.not_row (by decide) ho;have hne1:=b1.not_row (by decide) ho;have hne2:=b2'.not_row (by decide) ho;have hne4:=rU hd ho;have a0:=b0.kept hgA hne0;have a1:=b1.kept hgA hne1;have a2:=b2'.kept hgA hne2;have a4:=(hgA.block _ (Array.getElem?_eq_some_iff.1 hd).1 (fun e=>hne4 e.symm)).trans hd;have hL:=(hk _ (.inr rfl));have a5:=hgA.block _ hL.1 (fun e=>hL.2.2.2 e.symm);have hlow:∀ k,(G k∨k<z)→v'.ownBlock≠some k∧k≠z+2:=fun k h=>by
  rcases h with h | h
  ·exact ⟨(hk k (.inl h)).2.2.2,by have:=(hk k (.inl h)).2.1;omega⟩
  exact ⟨fun e=>by have:=(ho.lt k e).1;omega,by omega⟩
 refine ⟨a2,(Below.heap_setCell _ _ _ _ (by simp)).trans a5,(HsR.Keeps.of_grown hgA (fun r e hr=>(hlow r hr).1 e)).trans (.setCell _ _ _ (fun h=>(hlow _ h).2 rfl) _),?_⟩;refine ⟨D++[f],.slice (some ⟨g,0,none⟩) (D.length+1) cap,hr,by simp;omega,a0.other (by omega) _,a1.other (by omega) _,a2.set _,?_,(Below.heap_setCell _ _ _ _ (by simp)).trans a4,?_,?_⟩
 ·have:=hown.kept (HsR.grown_setCell A1 (z+2) 0 (.slice (some ⟨g,0,none⟩) (D.length+1) cap)) (xC fun k e=>by cases e;exact fun e=>(a2.not_row (by decide) hown) e.symm);rw [List.length_append,←Yq];exact this
 ·exact (hb.grown hgA (Nat.le_trans hz hb.size) (fun k e=>(ho.lt k e).1)).setCell (by simp) _
 intro k h;obtain ⟨k1,k2,k3,k4⟩:=hk k h;refine ⟨by simp;omega,k2,k3,fun e=> ?_⟩;have e':g=k:=by simpa [Value.ownBlock] using e
 rcases hat with hat | hat
 ·exact k4 (by rw [hat,e'])
 rw [World.size_alloc] at hat;omega
set_option maxRecDepth 100000
set_option maxHeartbeats 2000000
theorem gH (v:Value) (s:ByteArray) (w:World) (hv:Row w v 1 s.size (zc (un s))) (hs:s.size≤16384) (hm:MaxOk w) :
  Calls Tryz.prog 38 #[v] w fun e w'=>∃ u,e= .returned (.tuple #[u,.int .i64 (rR (un s)).2])∧w'.ownsRow w.heap.size 168 2 u (rR (un s)).1.length (wm (rR (un s)).1)∧Below w.heap.size w w':=by
 obtain ⟨iF0,iF⟩:=info_parts R4;obtain ⟨LL,hLL⟩:=KZ6 (yL (un s));have hpar:=cO (un s) (by rw [za];omega);rw [hpar,←hLL];have HLL:=KZ9 hLL;clear hpar hLL;have hv':=hv;obtain ⟨hbl,a,cap,rfl,hn,hcap,zj⟩:=hv';have hml:=hm.lt;obtain ⟨W3,hW3⟩:=KZ6 (((w.alloc (.cells #[.slice none 0 0] 104)).alloc (.cells #[.int .i64 0] 30)).alloc (.cells #[.slice none 0 0] 104));have hB3:Below w.heap.size w W3:=by rw [hW3];exact (((Below.refl _ w).alloc (Nat.le_refl _) _).alloc (by simp) _).alloc (by simp;omega) _
 have hS3:W3.heap.size=w.heap.size+3:=by rw [hW3];simp
 have b0:Boxed W3 w.heap.size 104 (.slice none 0 0):=by rw [hW3];exact ((Boxed.new w _ _).alloc _).alloc _
 have b1:Boxed W3 (w.heap.size+1) 30 (.int .i64 0):=by
  have:=(Boxed.new (w.alloc (.cells #[.slice none 0 0] 104)) 30 (.int .i64 0)).alloc (.cells #[.slice none 0 0] 104);rw [World.size_alloc] at this;rw [hW3];exact this
 have b2:Boxed W3 (w.heap.size+2) 104 (.slice none 0 0):=by
  have:=Boxed.new ((w.alloc (.cells #[.slice none 0 0] 104)).alloc (.cells #[.int .i64 0] 30)) 104 (.slice none 0 0);simp only [World.size_alloc] at this;rw [hW3];exact this
 have hcv:(convert 34 9 (.slice a s.size cap)).run Tryz.prog W3= .ok (.string s) W3:=by
  have:=yP (P:=Tryz.prog) (hv.below hB3) (src:=34) (dst:=9) Tryz.underlying34 Tryz.underlying5 Tryz.underlying9;rw [x8] at this;exact this
 rw [hW3] at hcv;have hlim:((s.size:Int)≤16384):=by omega
 have hlen:¬ ((16384:Int)<(s.size:Int)):=by omega
 have HW3:=KZ9 hW3;clear hW3;refine (callsIn_wide (n:=5)).1 ?_;refine callsIn_of_wp_marks Tryz.func38 rfl trivial ?_ rfl;simp only [Tryz.ntmps38,List.size_toArray,List.length_cons,List.length_nil,Nat.reduceAdd,Nat.reduceSub,Array.replicate_succ,Array.replicate_zero,List.push_toArray,List.append_toArray,List.nil_append,List.cons_append]
 gi_wp2
 refine ⟨trivial,?_⟩;refine (callsIn_wide.2 (Qi s _)).mono ?_;rintro e w1 ⟨rfl,rfl⟩
 gi_wp2
 rw [←HW3.out];clear hcv HW3;obtain ⟨W4,hW4⟩:=KZ6 (W3.alloc (.cells #[.string s] 9));have hS4:W4.heap.size=w.heap.size+4:=by rw [hW4];simp;omega
 have hB4:Below w.heap.size w W4:=by rw [hW4];exact hB3.alloc (by omega) _
 have c0:Boxed W4 w.heap.size 104 (.slice none 0 0):=by rw [hW4];exact b0.alloc _
 have c1:Boxed W4 (w.heap.size+1) 30 (.int .i64 0):=by rw [hW4];exact b1.alloc _
 have c2:Boxed W4 (w.heap.size+2) 104 (.slice none 0 0):=by rw [hW4];exact b2.alloc _
 have c3:Boxed W4 (w.heap.size+3) 9 (.string s):=by rw [hW4];have:=Boxed.new W3 9 (.string s);rw [hS3] at this;exact this
 have hmx:MaxOk W4:=hm.below hB4 hml;rw [←hW4];clear hW4 b0 b1 b2 hB3 hS3;obtain ⟨z,hz⟩:=KZ6 w.heap.size;simp only [←hz] at hS4 hB4 c0 c1 c2 c3 hml ⊢;have hzz:=Nat.le_of_eq hz;have HZ:=KZ9 hz;clear W3 hz;rw [show z+1+1+1=z+3 from rfl,show z+1+1=z+2 from rfl];have hent:=fun (a:Act) ps asg bd=>HsR.enter_outer (F:=Fence.wide) (P:=Tryz.prog) rfl W4 a ps asg bd;rw [hS4] at hent;refine HsR.range_law (w₁:=W4.alloc (.deferred (some []))) (L:=z+5) (by omega) (by simp;omega) (hent _ _ _ _) (gf:=142) (lb:=#[.pointer (some ⟨z+3,0,none⟩)]) rfl trivial (enters_of Tryz.func142 (by kernel_rfl) rfl)
  (Ux 4 (z+3) z s W4 (by omega) c3 (by omega) hmx hml (by omega) (by omega)) ((Below.refl _ W4).alloc (Nat.le_refl _) _) (fun _=>rfl) (by omega) (by omega)
  (FInv w z LL) (FOut w z) (fun _ _ _ _ _ h hg hr=>h.turn hzz hg hr) (fun _ _ _ _ h hg=>h.lay hzz hg) (fun _ _ _ _ _ _ h hg hr=>h.turn hzz hg hr) (fun _ _ _ _ _ h hg=>h.lay hzz hg) ?start
  (fun x a' W=>a'={ tmps:=#[.slice a s.size cap,undef,.pointer (some ⟨z,0,none⟩),.pointer (some ⟨z+1,0,none⟩),.pointer (some ⟨z+2,0,none⟩),.string (mk x.1),.bool x.2,undef,undef,undef,
   .slice a s.size cap,.int .i64 s.size,.bool false,.slice a s.size cap,.string s,.func (.func 142) #[] #[.pointer (some ⟨z+3,0,none⟩)],.string (mk x.1),.bool x.2,undef,undef,undef,undef,undef,undef,undef,undef,undef,undef,undef,undef,undef,undef,undef,
     undef,undef,undef,undef,undef,undef,undef,undef,undef,undef,undef,undef,undef,undef,undef,undef,undef,undef,undef,undef],defers:=[] }) (fun _ _ _ _ _ h _ _=>h) ?assign ?body ?done ?stop
 case start =>
  intro o;refine ⟨[],.slice none 0 0,fun rest=>rfl,by simp,(c0.alloc _).alloc _,(c1.alloc _).alloc _,(c2.alloc _).alloc _,World.ownsRow_nil _ _ _ _,?_,(hB4.alloc (by omega) _).alloc (by simp;omega) _,?_⟩
  ·have h1:=World.alloc_heap_new W4 (.deferred (some []));rw [hS4] at h1;exact (Below.heap_alloc _ o _ (by simp;omega)).trans h1
  rintro k (rfl | rfl)<;>simp [Value.ownBlock]<;>omega
 case assign =>
  intro pre x G W K hI hsp hK
  gi_wp2
  exact hK _ _ rfl (HsR.Keeps.refl _ _) hI rfl
 case body =>
  rintro pre ⟨t,ok⟩ G a' W ⟨r0,hr0⟩ hI rfl ⟨post,hpost⟩;have htl:t.length≤20000:=by
   have:=XK (un s) (t,ok) (by rw [←hpost];simp);rw [za] at this;show (t,ok).1.length≤_;omega
  clear hpost;have hmW:MaxOk W:=by obtain ⟨_,_,_,_,_,_,_,_,_,hb,_⟩:=hI;exact hm.below hb hml
  gi_wp2
  refine ⟨trivial,?_⟩;rcases Zf t 58 with ⟨n,vv,e,hne⟩ | hno
  ·have hfo:=bJ n vv hne;rw [←e] at hfo;have HFO:=KZ9 hfo;have hnl:n.length≤20000:=by have:=congrArg List.length e;simp at this;omega
   have hvl:vv.length≤20000:=by have:=congrArg List.length e;simp at this;omega
   have hcut:=Vs (mk t) n vv 58 W hmW (by rw [zi];omega) (by rw [zk];exact e) hne;clear e hne hfo;refine (CallsIn.inRound _ (callsIn_wide.2 hcut)).mono ?_;rintro e w1 ⟨rfl,hb1⟩;have hI1:=hI.turn hzz (HsR.grown_of_below hb1) (fun r e=>by cases e);have hL1:w1.heap[z+5]? =W.heap[z+5]? :=hb1.block _ (Array.getElem?_eq_some_iff.1 hr0).1;have hmW1:MaxOk w1:=hmW.below hb1 hmW.lt;clear hI hcut;obtain ⟨D,v,hrun,hD,b0,b1,b2,ho,hd,hb,hk⟩:=id hI1;obtain ⟨ao,co,rfl⟩:=vY ho;have e0:=b0.cell;have f0:=b0.frozen;have e1:=b1.cell;have f1:=b1.frozen;have e2:=b2.cell;have f2:=b2.frozen;cases ok
   ·have hr5:Hid (∀ rest,wJ ((pre++[(t,false)])++rest) []=([],5)):=fun rest=>by rw [List.append_assoc,hrun.out,List.singleton_append,j6]
    gi_wp2
    exact (show _∧_ from ⟨(hI1.out hzz hr5).1.trans hL1,(hI1.out hzz hr5).2⟩)
   by_cases h100:D.length=100
   ·have h100':((D.length:Int)==100)=true:=by simp;omega
    have H100:=KZ9 h100;clear h100;have hr3:Hid (∀ rest,wJ ((pre++[(t,true)])++rest) []=([],3)):=fun rest=>by rw [List.append_assoc,hrun.out,List.singleton_append,j7 _ _ _ H100.out]
    gi_wp2
    exact (show _∧_ from ⟨(hI1.out hzz hr3).1.trans hL1,(hI1.out hzz hr3).2⟩)
   have h100':((D.length:Int)==100)=false:=by simp;omega
   have H100:=KZ9 h100;clear h100;have hT:=Qg (mk n) w1 (by rw [zi];omega);rw [zk] at hT;cases htok:tj n
   ·rw [htok] at hT;have HT:=KZ9 hT;have hr4:Hid (∀ rest,wJ ((pre++[(t,true)])++rest) []=([],4)):=fun rest=>by rw [List.append_assoc,hrun.out,List.singleton_append,sj _ _ _ H100.out (by rw [HFO.out,if_neg (by simp [htok])])]
    clear hT htok
    gi_wp2
    refine ⟨trivial,?_⟩;refine (CallsIn.inRound _ (callsIn_wide.2 HT.out)).mono ?_;rintro e w' ⟨rfl,rfl⟩
    gi_wp2
    refine ⟨trivial,?_⟩
    gi_wp2
    exact (show _∧_ from ⟨(hI1.out hzz hr4).1.trans hL1,(hI1.out hzz hr4).2⟩)
   rw [htok] at hT;have HT:=KZ9 hT;have hV:=Qf (mk vv) w1 (by rw [zi];omega);rw [zk] at hV;cases hval:vv.all x9
   ·rw [hval] at hV;have HV:=KZ9 hV;have hr4:Hid (∀ rest,wJ ((pre++[(t,true)])++rest) []=([],4)):=fun rest=>by rw [List.append_assoc,hrun.out,List.singleton_append,sj _ _ _ H100.out (by rw [HFO.out,if_neg (by simp [hval])])]
    clear hT htok hV hval
    gi_wp2
    refine ⟨trivial,?_⟩;refine (CallsIn.inRound _ (callsIn_wide.2 HT.out)).mono ?_;rintro e w' ⟨rfl,rfl⟩
    gi_wp2
    refine ⟨trivial,?_⟩;refine (CallsIn.inRound _ (callsIn_wide.2 HV.out)).mono ?_;rintro e w' ⟨rfl,rfl⟩
    gi_wp2
    exact (show _∧_ from ⟨(hI1.out hzz hr4).1.trans hL1,(hI1.out hzz hr4).2⟩)
   rw [hval] at hV;have HV:=KZ9 hV;have hrn:Hid (∀ rest,wJ ((pre++[(t,true)])++rest) []=wJ rest (D++[(zt n,sh vv)])):=fun rest=>by rw [List.append_assoc,hrun.out,List.singleton_append,Xi _ _ _ _ H100.out (by rw [HFO.out,if_pos ⟨htok,hval⟩])]
   clear hT htok hV hval
   gi_wp2
   refine ⟨trivial,?_⟩;refine (CallsIn.inRound _ (callsIn_wide.2 HT.out)).mono ?_;rintro e w' ⟨rfl,rfl⟩
   gi_wp2
   refine ⟨trivial,?_⟩;refine (CallsIn.inRound _ (callsIn_wide.2 HV.out)).mono ?_;rintro e w' ⟨rfl,rfl⟩
   gi_wp2
   have hmix:Tryz.prog.follows .mixedOrders=true:=by kernel_rfl
   have hLow:=fun W=>yw (mk n) W (by rw [zi];omega);have hTrm:=fun W=>Wl (mk vv) W (by rw [zi];omega);simp only [zk] at hLow hTrm;have HLow:=KZ9 hLow;have HTrm:=KZ9 hTrm;clear hLow hTrm;refine up (F:=Fence.wide) rfl hmix (by kernel_rfl) ?_;refine wpAnyIn_take (i:=1) (v:= .string (mk n)) rfl rfl (by kernel_rfl) (by kernel_rfl) (by kernel_rfl) (fun _ _ _ h=>h) ⟨Or.inl ⟨by rfl,by intro w;go_simp⟩,fun _=>rfl⟩ ?_;refine wpAnyIn_take (i:=3) (v:= .string (mk vv)) rfl rfl (by kernel_rfl) (by kernel_rfl) (by kernel_rfl) (fun _ _ _ h=>h) ⟨Or.inl ⟨by rfl,by intro w;go_simp⟩,fun _=>rfl⟩ ?_;refine wpAnyIn_ready (rs:=[0,2]) (by kernel_rfl) (by simp) ?_;refine AllReadyIn.cons rfl (fun K hK=> ?_) (AllReadyIn.cons rfl (fun K hK=> ?_) AllReadyIn.nil)
   ·go_simp
    refine hK _ _ ?_;clear hK K;refine wpAnyIn_ready (rs:=[2]) (by kernel_rfl) (by simp) ?_;refine AllReadyIn.cons rfl (fun K hK=> ?_) AllReadyIn.nil;go_simp
    refine ⟨trivial,?_⟩;refine (callsIn_wide.2 (HLow.out _)).mono ?_;rintro e w2 ⟨rfl,hb2⟩;have hg2:w1.grownBy w2 none:=⟨hb2.os,hb2.tape,hb2.output,hb2.size,fun k hk _=>hb2.block k hk⟩;have hI2:=hI1.turn hzz hg2 (fun r e=>by cases e);have hB2:=hb2.size;have e2':=(b2.kept hg2 (by simp)).cell;have e2'':=((b2.kept hg2 (by simp)).alloc (.cells #[.string (mk (zt n)),.string (mk (sh vv))] 168)).cell;have ho2:=ho.kept hg2 (xC fun k e=>by cases e);refine hK _ _ ?_;clear hK K;refine wpAnyIn_ready (rs:=[4]) (by kernel_rfl) (by simp) ?_;refine AllReadyIn.cons rfl (fun K hK=> ?_) AllReadyIn.nil;go_simp
    refine ⟨trivial,?_⟩;refine (callsIn_wide.2 (HTrm.out _)).mono ?_;rintro e w' ⟨rfl,rfl⟩;refine hK _ _ ?_;clear hK K;refine wpAnyIn_take (i:=5) (v:= .agg #[.string (mk (zt n)),.string (mk (sh vv))]) rfl rfl (by kernel_rfl) (by kernel_rfl) (by kernel_rfl) (fun _ _ _ h=>h) ⟨Or.inl ⟨by rfl,by intro w;go_simp⟩,fun _=>rfl⟩ ?_;refine wpAnyIn_ready (rs:=[6]) (by kernel_rfl) (by simp) ?_;refine AllReadyIn.cons rfl (fun K hK=> ?_) AllReadyIn.nil;go_simp
    refine hK _ _ ?_;clear hK K;refine wpAnyIn_ready (rs:=[7]) (by kernel_rfl) (by simp) ?_;refine AllReadyIn.cons rfl (fun K hK=> ?_) AllReadyIn.nil;refine zU _ rfl (.tmp 44) (.tmp 50) 104 rfl z 168 iF0 (.agg #[.string ⟨#[]⟩,.string ⟨#[]⟩]) 2 32 Tryz.underlying104 iF.1 iF.2.1 iF.2.2.1 iF.2.2.2 rfl (by decide) _ _ _ rfl (ho2.alloc _) ⟨w2.heap.size,0,none⟩ 1 1 [.string (mk (zt n)),.string (mk (sh vv))] rfl rfl (rm _ _ _ _ _ rfl) (by intro u hu;simp at hu;rcases hu with rfl | rfl<;>rfl) (by unfold maxLen;omega) (by omega) (by have:=hI2.size;simp;omega) (by omega) ?_;intro g cap w5 hown5 hgrow5 hat5;have hI5:=hI2.appended hzz (r2:= .string (mk (zt n))) ho2 (b2.kept hg2 (by simp)) H100.out hrn hown5 hgrow5 hat5;have e2w:=hI5.1.cell;have f2w:=hI5.1.frozen;refine hK _ _ ?_;clear hK K;refine wpAnyIn_ready (rs:=[8]) (by kernel_rfl) (by simp) ?_;refine AllReadyIn.cons rfl (fun K hK=> ?_) AllReadyIn.nil;go_simp
    refine hK _ _ ?_;clear hK K;refine wpAnyIn_done (by kernel_rfl) ?_ _;have hL2:w2.heap[z+5]? =w1.heap[z+5]? :=hg2.block _ (hk _ (.inr rfl)).1 (by simp);exact (show _∧_∧_ from ⟨hI5.2.1.trans (hL2.trans hL1),(HsR.Keeps.of_grown (HsR.grown_of_below hb1) (fun r e=>by cases e)).trans ((HsR.Keeps.of_grown hg2 (fun r e=>by cases e)).trans hI5.2.2.1),hI5.2.2.2⟩)
   go_simp
   refine ⟨trivial,?_⟩;refine (callsIn_wide.2 (HLow.out _)).mono ?_;rintro e w2 ⟨rfl,hb2⟩;have hg2:w1.grownBy w2 none:=⟨hb2.os,hb2.tape,hb2.output,hb2.size,fun k hk _=>hb2.block k hk⟩;have hI2:=hI1.turn hzz hg2 (fun r e=>by cases e);have hB2:=hb2.size;have e2':=(b2.kept hg2 (by simp)).cell;have e2'':=((b2.kept hg2 (by simp)).alloc (.cells #[.string (mk (zt n)),.string (mk (sh vv))] 168)).cell;have ho2:=ho.kept hg2 (xC fun k e=>by cases e);refine hK _ _ ?_;clear hK K;refine wpAnyIn_ready (rs:=[0,4]) (by kernel_rfl) (by simp) ?_;refine AllReadyIn.cons rfl (fun K hK=> ?_) (AllReadyIn.cons rfl (fun K hK=> ?_) AllReadyIn.nil)
   ·go_simp
    refine hK _ _ ?_;clear hK K;refine wpAnyIn_ready (rs:=[4]) (by kernel_rfl) (by simp) ?_;refine AllReadyIn.cons rfl (fun K hK=> ?_) AllReadyIn.nil;go_simp
    refine ⟨trivial,?_⟩;refine (callsIn_wide.2 (HTrm.out _)).mono ?_;rintro e w' ⟨rfl,rfl⟩;refine hK _ _ ?_;clear hK K;refine wpAnyIn_take (i:=5) (v:= .agg #[.string (mk (zt n)),.string (mk (sh vv))]) rfl rfl (by kernel_rfl) (by kernel_rfl) (by kernel_rfl) (fun _ _ _ h=>h) ⟨Or.inl ⟨by rfl,by intro w;go_simp⟩,fun _=>rfl⟩ ?_;refine wpAnyIn_ready (rs:=[6]) (by kernel_rfl) (by simp) ?_;refine AllReadyIn.cons rfl (fun K hK=> ?_) AllReadyIn.nil;go_simp
    refine hK _ _ ?_;clear hK K;refine wpAnyIn_ready (rs:=[7]) (by kernel_rfl) (by simp) ?_;refine AllReadyIn.cons rfl (fun K hK=> ?_) AllReadyIn.nil;refine zU _ rfl (.tmp 44) (.tmp 50) 104 rfl z 168 iF0 (.agg #[.string ⟨#[]⟩,.string ⟨#[]⟩]) 2 32 Tryz.underlying104 iF.1 iF.2.1 iF.2.2.1 iF.2.2.2 rfl (by decide) _ _ _ rfl (ho2.alloc _) ⟨w2.heap.size,0,none⟩ 1 1 [.string (mk (zt n)),.string (mk (sh vv))] rfl rfl (rm _ _ _ _ _ rfl) (by intro u hu;simp at hu;rcases hu with rfl | rfl<;>rfl) (by unfold maxLen;omega) (by omega) (by have:=hI2.size;simp;omega) (by omega) ?_;intro g cap w5 hown5 hgrow5 hat5;have hI5:=hI2.appended hzz (r2:= .string (mk (zt n))) ho2 (b2.kept hg2 (by simp)) H100.out hrn hown5 hgrow5 hat5;have e2w:=hI5.1.cell;have f2w:=hI5.1.frozen;refine hK _ _ ?_;clear hK K;refine wpAnyIn_ready (rs:=[8]) (by kernel_rfl) (by simp) ?_;refine AllReadyIn.cons rfl (fun K hK=> ?_) AllReadyIn.nil;go_simp
    refine hK _ _ ?_;clear hK K;refine wpAnyIn_done (by kernel_rfl) ?_ _;have hL2:w2.heap[z+5]? =w1.heap[z+5]? :=hg2.block _ (hk _ (.inr rfl)).1 (by simp);exact (show _∧_∧_ from ⟨hI5.2.1.trans (hL2.trans hL1),(HsR.Keeps.of_grown (HsR.grown_of_below hb1) (fun r e=>by cases e)).trans ((HsR.Keeps.of_grown hg2 (fun r e=>by cases e)).trans hI5.2.2.1),hI5.2.2.2⟩)
   go_simp
   refine ⟨trivial,?_⟩;refine (callsIn_wide.2 (HTrm.out _)).mono ?_;rintro e w' ⟨rfl,rfl⟩;refine hK _ _ ?_;clear hK K;refine wpAnyIn_take (i:=5) (v:= .agg #[.string (mk (zt n)),.string (mk (sh vv))]) rfl rfl (by kernel_rfl) (by kernel_rfl) (by kernel_rfl) (fun _ _ _ h=>h) ⟨Or.inl ⟨by rfl,by intro w;go_simp⟩,fun _=>rfl⟩ ?_;refine wpAnyIn_ready (rs:=[0,6]) (by kernel_rfl) (by simp) ?_;refine AllReadyIn.cons rfl (fun K hK=> ?_) (AllReadyIn.cons rfl (fun K hK=> ?_) AllReadyIn.nil)
   ·go_simp
    refine hK _ _ ?_;clear hK K;refine wpAnyIn_ready (rs:=[6]) (by kernel_rfl) (by simp) ?_;refine AllReadyIn.cons rfl (fun K hK=> ?_) AllReadyIn.nil;go_simp
    refine hK _ _ ?_;clear hK K;refine wpAnyIn_ready (rs:=[7]) (by kernel_rfl) (by simp) ?_;refine AllReadyIn.cons rfl (fun K hK=> ?_) AllReadyIn.nil;refine zU _ rfl (.tmp 44) (.tmp 50) 104 rfl z 168 iF0 (.agg #[.string ⟨#[]⟩,.string ⟨#[]⟩]) 2 32 Tryz.underlying104 iF.1 iF.2.1 iF.2.2.1 iF.2.2.2 rfl (by decide) _ _ _ rfl (ho2.alloc _) ⟨w2.heap.size,0,none⟩ 1 1 [.string (mk (zt n)),.string (mk (sh vv))] rfl rfl (rm _ _ _ _ _ rfl) (by intro u hu;simp at hu;rcases hu with rfl | rfl<;>rfl) (by unfold maxLen;omega) (by omega) (by have:=hI2.size;simp;omega) (by omega) ?_;intro g cap w5 hown5 hgrow5 hat5;have hI5:=hI2.appended hzz (r2:= .string (mk (zt n))) ho2 (b2.kept hg2 (by simp)) H100.out hrn hown5 hgrow5 hat5;have e2w:=hI5.1.cell;have f2w:=hI5.1.frozen;refine hK _ _ ?_;clear hK K;refine wpAnyIn_ready (rs:=[8]) (by kernel_rfl) (by simp) ?_;refine AllReadyIn.cons rfl (fun K hK=> ?_) AllReadyIn.nil;go_simp
    refine hK _ _ ?_;clear hK K;refine wpAnyIn_done (by kernel_rfl) ?_ _;have hL2:w2.heap[z+5]? =w1.heap[z+5]? :=hg2.block _ (hk _ (.inr rfl)).1 (by simp);exact (show _∧_∧_ from ⟨hI5.2.1.trans (hL2.trans hL1),(HsR.Keeps.of_grown (HsR.grown_of_below hb1) (fun r e=>by cases e)).trans ((HsR.Keeps.of_grown hg2 (fun r e=>by cases e)).trans hI5.2.2.1),hI5.2.2.2⟩)
   go_simp
   refine hK _ _ ?_;clear hK K;refine wpAnyIn_ready (rs:=[0]) (by kernel_rfl) (by simp) ?_;refine AllReadyIn.cons rfl (fun K hK=> ?_) AllReadyIn.nil;go_simp
   refine hK _ _ ?_;clear hK K;refine wpAnyIn_ready (rs:=[7]) (by kernel_rfl) (by simp) ?_;refine AllReadyIn.cons rfl (fun K hK=> ?_) AllReadyIn.nil;refine zU _ rfl (.tmp 44) (.tmp 50) 104 rfl z 168 iF0 (.agg #[.string ⟨#[]⟩,.string ⟨#[]⟩]) 2 32 Tryz.underlying104 iF.1 iF.2.1 iF.2.2.1 iF.2.2.2 rfl (by decide) _ _ _ rfl (ho2.alloc _) ⟨w2.heap.size,0,none⟩ 1 1 [.string (mk (zt n)),.string (mk (sh vv))] rfl rfl (rm _ _ _ _ _ rfl) (by intro u hu;simp at hu;rcases hu with rfl | rfl<;>rfl) (by unfold maxLen;omega) (by omega) (by have:=hI2.size;simp;omega) (by omega) ?_;intro g cap w5 hown5 hgrow5 hat5;have hI5:=hI2.appended hzz (r2:= .string (mk (zt n))) ho2 (b2.kept hg2 (by simp)) H100.out hrn hown5 hgrow5 hat5;have e2w:=hI5.1.cell;have f2w:=hI5.1.frozen;refine hK _ _ ?_;clear hK K;refine wpAnyIn_ready (rs:=[8]) (by kernel_rfl) (by simp) ?_;refine AllReadyIn.cons rfl (fun K hK=> ?_) AllReadyIn.nil;go_simp
   refine hK _ _ ?_;clear hK K;refine wpAnyIn_done (by kernel_rfl) ?_ _;have hL2:w2.heap[z+5]? =w1.heap[z+5]? :=hg2.block _ (hk _ (.inr rfl)).1 (by simp);exact (show _∧_∧_ from ⟨hI5.2.1.trans (hL2.trans hL1),(HsR.Keeps.of_grown (HsR.grown_of_below hb1) (fun r e=>by cases e)).trans ((HsR.Keeps.of_grown hg2 (fun r e=>by cases e)).trans hI5.2.2.1),hI5.2.2.2⟩)
  have hfo:=KZ9 (Yp t hno);have hcut:=SJ (mk t) 58 W hmW (by rw [zi];omega) (by rw [zk];exact hno);clear hno;refine (CallsIn.inRound _ (callsIn_wide.2 hcut)).mono ?_;rintro e w1 ⟨rfl,hb1⟩;have hI1:=hI.turn hzz (HsR.grown_of_below hb1) (fun r e=>by cases e);have hL1:w1.heap[z+5]? =W.heap[z+5]? :=hb1.block _ (Array.getElem?_eq_some_iff.1 hr0).1;clear hI hcut;obtain ⟨D,v,hrun,hD,b0,b1,b2,ho,hd,hb,hk⟩:=id hI1;obtain ⟨ao,co,rfl⟩:=vY ho;have e0:=b0.cell;have f0:=b0.frozen;have e1:=b1.cell;have f1:=b1.frozen;have e2:=b2.cell;have f2:=b2.frozen;cases ok
  ·have hr5:Hid (∀ rest,wJ ((pre++[(t,false)])++rest) []=([],5)):=fun rest=>by rw [List.append_assoc,hrun.out,List.singleton_append,j6]
   gi_wp2
   exact (show _∧_ from ⟨(hI1.out hzz hr5).1.trans hL1,(hI1.out hzz hr5).2⟩)
  by_cases h100:D.length=100
  ·have h100':((D.length:Int)==100)=true:=by simp;omega
   have H100:=KZ9 h100;clear h100;have hr3:Hid (∀ rest,wJ ((pre++[(t,true)])++rest) []=([],3)):=fun rest=>by rw [List.append_assoc,hrun.out,List.singleton_append,j7 _ _ _ H100.out]
   gi_wp2
   exact (show _∧_ from ⟨(hI1.out hzz hr3).1.trans hL1,(hI1.out hzz hr3).2⟩)
  have h100':((D.length:Int)==100)=false:=by simp;omega
  have H100:=KZ9 h100;clear h100;have hr4:Hid (∀ rest,wJ ((pre++[(t,true)])++rest) []=([],4)):=fun rest=>by rw [List.append_assoc,hrun.out,List.singleton_append,sj _ _ _ H100.out hfo.out]
  gi_wp2
  refine ⟨trivial,?_⟩
  gi_wp2
  refine ⟨trivial,?_⟩
  gi_wp2
  exact (show _∧_ from ⟨(hI1.out hzz hr4).1.trans hL1,(hI1.out hzz hr4).2⟩)
 case done =>
  rintro xs G W rfl ⟨D,v,hrun,hD,b0,b1,b2,ho,hd,hb,hk⟩;obtain ⟨ao,co,rfl⟩:=vY ho;have e0:=b0.cell;have f0:=b0.frozen;have e1:=b1.cell;have f1:=b1.frozen;have e2:=b2.cell;have f2:=b2.frozen;have hfin:Hid (wJ LL []=(D,0)):=by rw [HLL.out,←List.append_nil (yL (un s)),hrun.out];rfl
  gi_wp2
  have hd':((W.setCell ⟨z,0,none⟩ (.slice ao D.length co)).setCell ⟨z+1,0,none⟩ (.int .i64 0)).heap[z+4]? =some (.deferred (some [])) :=
   ((Below.heap_setCell _ _ _ _ (by simp)).trans (Below.heap_setCell _ _ _ _ (by simp))).trans hd
  have d0:=((b0.set (.slice ao D.length co)).other (B':=z+1) (by omega) (.int .i64 0)).kept (grownBy_putObj' _ (z+4) (.deferred none)) (by simp);have d1:=((b1.other (B':=z) (by omega) (.slice ao D.length co)).set (.int .i64 0)).kept (grownBy_putObj' _ (z+4) (.deferred none)) (by simp);have hrow:=((ho.kept (HsR.grown_setCell _ z 0 (.slice ao D.length co)) (xC fun k e=>by cases e;exact fun e=>(b0.not_row (by decide) ho) e.symm)).kept (HsR.grown_setCell _ (z+1) 0 (.int .i64 0)) (xC fun k e=>by cases e;exact fun e=>(b1.not_row (by decide) ho) e.symm)).kept (grownBy_putObj' _ (z+4) (.deferred none)) (xC fun k e=>by cases e;exact rU hd ho);have hbl:=((hb.setCell (p:=⟨z,0,none⟩) (by simp) (.slice ao D.length co)).setCell (p:=⟨z+1,0,none⟩) (by simp) (.int .i64 0)).grown (grownBy_putObj' _ (z+4) (.deferred none)) (by have:=hb.size;simp;omega) (fun k e=>by cases e;omega)
  refine ⟨by simp,.inl ⟨_,_,rfl,run_takeDeferred hd',?_⟩⟩;refine ⟨.tuple #[.slice ao D.length co,.int .i64 0],?_,.slice ao D.length co,?_,?_,?_⟩
  ·have e0:=d0.cell;have e1:=d1.cell;simp [results,Tryz.f38,go_sem,e0,e1]
  ·rw [hfin.out]
  ·rw [hfin.out,←HZ.out];exact hrow
  rw [←HZ.out];exact hbl
 case stop =>
  rintro c pre G W ⟨post,hpost⟩ ⟨rfl,e,hrun,b0,b1,hd,hb,hk⟩;have e0:=b0.cell;have f0:=b0.frozen;have e1:=b1.cell;have f1:=b1.frozen;have hfin:Hid (wJ LL []=([],e)):=by rw [HLL.out,←hpost,hrun.out];rfl
  gi_wp2
  have d0:=b0.kept (grownBy_putObj' _ (z+4) (.deferred none)) (by simp);have d1:=b1.kept (grownBy_putObj' _ (z+4) (.deferred none)) (by simp);have hbl:=hb.grown (grownBy_putObj' _ (z+4) (.deferred none)) (by have:=hb.size;omega) (fun k e=>by cases e;omega);refine ⟨by simp,.inl ⟨_,_,rfl,run_takeDeferred hd,?_⟩⟩;refine ⟨.tuple #[.slice none 0 0,.int .i64 e],?_,.slice none 0 0,?_,?_,?_⟩
  ·have e0:=d0.cell;have e1:=d1.cell;simp [results,Tryz.f38,go_sem,e0,e1]
  ·rw [hfin.out]
  ·rw [hfin.out];exact World.ownsRow_nil _ _ _ _
  rw [←HZ.out];exact hbl
attribute [local go_sem] Oper.semAt_some
theorem Qh (a:Option Addr) (m c:Nat) (s:ByteArray) (w:World):Calls Tryz.prog 82 #[.slice a m c,.string s] w fun e w'=>e= .returned (.func (.func 147) #[] #[.pointer (some ⟨w.heap.size,0,none⟩),.pointer (some ⟨w.heap.size+1,0,none⟩)])∧w'=(w.alloc (.cells #[.slice a m c] 104)).alloc (.cells #[.string s] 9):=by
 go_enter Tryz.func82,Tryz.ntmps82
 go_wp2;go_ret;exact ⟨rfl,rfl⟩
theorem ZQ (l:List Fld) (n:Bs) (k:Nat) (h:k<l.length):xm (l.take (k+1)) n=xm (l.take k) n++(if zt l[k].1==zt n then [l[k].2] else []):=by
 rw [List.take_succ_eq_append_getElem h,rx]
 congr 1
 unfold xm;by_cases h:(zt l[k].1==zt n)=true
 ·simp [h]
 simp [h]
theorem gw (l:List Fld) (n:Bs) (k:Nat):xm (l.take k) n <+: xm l n:=by
 refine ⟨xm (l.drop k) n,?_⟩;rw [←rx,List.take_append_drop]
theorem Us (n c1 c2 n₀:Nat) (s:ByteArray) (v:Value) (l:List Fld) (w:World) (hn:1≤n) (hb1:Boxed w c1 104 v) (hb2:Boxed w c2 9 (.string s)) (hs:s.size≤100000) (hl:l.length≤1000) (hls:∀ x∈l,x.1.length≤100000)
  (hv:∃ a cap,v= .slice a l.length cap∧(0<l.length→∃ b off,a=some ⟨b,off,none⟩∧b<n₀∧∀ j (hj:j<l.length),w.cell? ⟨b,off+j*2,none⟩=some (.string (mk l[j].1))∧w.cell? ⟨b,off+j*2+1,none⟩=some (.string (mk l[j].2)))) (hn₀:n₀≤w.heap.size) :
  HsR.Seq Fence.wide n Tryz.prog 147 #[.pointer (some ⟨c1,0,none⟩),.pointer (some ⟨c2,0,none⟩)] (fun x:Bs=>#[.string (mk x)]) (fun k=>k=c1∨k=c2) n₀ (fun xs=>xs=xm l (un s)) (fun pre=>pre <+: xm l (un s)) w:=fun ll J Jx W hW hJ hJx hY h0=>by
 obtain ⟨a,cap,rfl,hc⟩:=hv;have HC:=KZ9 hc;have HLS:=KZ9 hls;clear hc hls;have hW1:Boxed W c1 104 (.slice a l.length cap):=(hW.block c1 hb1.lt).trans hb1;have hW2:Boxed W c2 9 (.string s):=(hW.block c2 hb2.lt).trans hb2;have hWs:=hW.size;have ec1:=hW1.cell;refine callsIn_of_wp Tryz.func147 rfl trivial ?_ rfl;simp only [Tryz.ntmps147,List.size_toArray,List.length_cons,List.length_nil,Nat.reduceAdd,Nat.reduceSub,Array.replicate_succ,Array.replicate_zero,List.push_toArray,List.append_toArray,List.nil_append,List.cons_append]
 gi_wp2
 gi_loopw [8] (fun iv wr=>∃ (k:Nat) (G:Nat→Prop),iv= .int .i64 k∧k≤l.length∧J (xm (l.take k) (un s)) G wr∧G c1∧G c2∧Boxed wr c2 9 (.string s)∧Below n₀ W wr) (fun iv _=>l.length - (intOf iv).toNat)
 case atStart=>exact ⟨0,_,rfl,by omega,h0,.inl rfl,.inr rfl,hW2,Below.refl _ _⟩
 case round =>
  obtain ⟨k,G,rfl,hk,hJs,hG1,hG2,hbs,hbl⟩:=hrel;have ec2:=hbs.cell;by_cases hlt:k<l.length
  ·obtain ⟨b,off,rfl,hb,hcell⟩:=HC.out (by omega);obtain ⟨x0,x1⟩:=hcell k hlt;have hbW:b<w.heap.size:=by omega
   have c0:=(hbl.cell (p:=⟨b,off+k*2,none⟩) hb).trans ((hW.cell (p:=⟨b,off+k*2,none⟩) hbW).trans x0);have d0:=(hbl.cell (p:=⟨b,off+k*2+1,none⟩) hb).trans ((hW.cell (p:=⟨b,off+k*2+1,none⟩) hbW).trans x1);clear hcell x0 x1;have hstep:=KZ9 (ZQ l (un s) k hlt);have hpre:=KZ9 (gw l (un s) (k+1));have hnl:=HLS.out l[k] (List.getElem_mem hlt);obtain ⟨x,hx⟩:=KZ6 (l[k]);rw [←hx] at c0 d0 hstep hnl;clear hx;obtain ⟨xn,xv⟩:=x;simp only at c0 d0 hstep hnl;have heq:=fun W=>jo (mk xn) s W (by rw [zi];omega) (by omega);rw [zk] at heq;have ec2':=(hbs.alloc (.cells #[.string (mk xn),.string (mk xv)] 168)).cell;have hgx:∀ w1,Below (wr.alloc (.cells #[.string (mk xn),.string (mk xv)] 168)).heap.size (wr.alloc (.cells #[.string (mk xn),.string (mk xv)] 168)) w1→Below wr.heap.size wr w1:=fun w1 h=>((Below.refl _ wr).alloc (Nat.le_refl _) _).trans (h.mono (by simp))
   have B2:=Blk2.new wr 168 (.string (mk xn)) (.string (mk xv));cases hm:(zt xn==zt (un s))
   ·rw [hm] at heq hstep;have hst:Hid (xm (l.take (k+1)) (un s)=xm (l.take k) (un s)):=by rw [hstep.out];simp [Hid]
    have HEQ:=KZ9 heq;clear heq hstep hpre hm
    gi_wp2
    refine ⟨trivial,?_⟩;refine (callsIn_wide.2 (HEQ.out _)).mono ?_;rintro e w1 ⟨rfl,hb1'⟩;have hbx:=hgx w1 hb1'
    gi_wp2
    refine ⟨fun _ h=>(by cases h),?_⟩
    gi_wp2
    go_roundw
    case rel=>exact ⟨k+1,G,by go_num,by omega,by rw [hst.out];exact hJ.turn _ _ _ _ _ hJs (HsR.grown_of_below hbx) (fun r e=>by cases e),hG1,hG2,hbs.kept (HsR.grown_of_below hbx) (by simp),hbl.trans (hbx.mono (by have:=hbl.size;omega))⟩
    case measure=>simp [intOf];omega
   rw [hm] at heq hstep;have hst:Hid (xm (l.take (k+1)) (un s)=xm (l.take k) (un s)++[xv]):=by rw [hstep.out];simp [Hid]
   have hpre':Hid (xm (l.take k) (un s)++[xv] <+: xm l (un s)):=by rw [←hst.out];exact hpre.out
   have HEQ:=KZ9 heq;clear heq hstep hpre hm
   gi_wp2
   refine ⟨trivial,?_⟩;refine (callsIn_wide.2 (HEQ.out _)).mono ?_;rintro e w1 ⟨rfl,hb1'⟩;have hbx:=hgx w1 hb1';have B2':=B2.below hb1';have z1:=B2'.c1;obtain ⟨fn,tmps,assign,body,hy,hR⟩:=hY (xm (l.take k) (un s)) xv G w1 (hJ.turn _ _ _ _ _ hJs (HsR.grown_of_below hbx) (fun r e=>by cases e)) hpre'.out
   gi_wp2
   refine hR.mono ?_;rintro e W3 (⟨rfl,hJ3,hk3⟩ | ⟨rfl,hJx3⟩)
   ·have hb3:=hk3.block c2 ((hbs.kept (HsR.grown_of_below hbx) (by simp)).lt) (.inl hG2)
    gi_wp2
    go_roundw
    case rel=>exact ⟨k+1,G,by go_num,by omega,by rw [hst.out];exact hJ3,hG1,hG2,hb3.trans (hbs.kept (HsR.grown_of_below hbx) (by simp)),(hbl.trans (hbx.mono (by have:=hbl.size;omega))).trans (HsR.Keeps.below (hk3.mono fun k hk=> .inr hk) (by have:=hbl.size;have:=hbx.size;omega))⟩
    case measure=>simp [intOf];omega
   gi_wp2
   refine bodyPost_ret (results_none rfl _ _ _) rfl ?_;exact ⟨⟨_,rfl⟩,.inr ⟨_,G,hpre'.out,hJx3⟩⟩
  obtain rfl:k=l.length:=by omega
  rw [List.take_length] at hJs
  gi_wp2
  go_end0
  exact ⟨⟨_,rfl⟩,.inl ⟨_,G,rfl,hJs⟩⟩
attribute [local go_sem] Oper.semAt_some
def AInv (w:World) (z:Nat) (pre:List Bs) (G:Nat→Prop) (W:World):Prop :=
 ∃ v,Boxed W z 43 v∧W.ownsRow z 9 1 v pre.length (Hs.scells pre)∧W.heap[z+3]? =some (.deferred (some []))∧Below z w W ∧
  (∀ k,(G k∨k=z+4)→k<W.heap.size∧z+1≤k∧k≠z+3∧v.ownBlock≠some k)
theorem AInv.turn {w:World} {z:Nat} {pre:List Bs} {G:Nat→Prop} {A B:World} {row:Option Nat} (h:AInv w z pre G A) (hz:z≤w.heap.size) (hg:A.grownBy B row) (hr:∀ r,row=some r→G r∨r=z+4):AInv w z pre G B:=by
 obtain ⟨v,b0,ho,hd,hb,hk⟩:=h;have ne:∀ j,j<z+1∨j=z+3→some j≠row:=fun j hj e=>by
  have:=hk j (hr j e.symm);omega
 exact ⟨v,b0.kept hg (ne _ (by omega)),ho.kept hg (xC fun k e=>(hk k (hr k e)).2.2.2),
  (hg.block _ (Array.getElem?_eq_some_iff.1 hd).1 (ne _ (.inr rfl))).trans hd,hb.grown hg (Nat.le_trans hz hb.size) (fun k e=>by have:=(hk k (hr k e));omega),
  fun k h=>⟨by have:=(hk k h).1;have:=hg.size;omega,(hk k h).2⟩⟩
theorem AInv.lay {w:World} {z:Nat} {pre:List Bs} {G:Nat→Prop} {A B:World} (h:AInv w z pre G A) (hz:z≤w.heap.size) (hg:A.grownBy B none):AInv w z pre (fun k=>G k∨(A.heap.size≤k∧k<B.heap.size)) B:=by
 obtain ⟨v,b0,ho,hd,hb,hk⟩:=h.turn hz hg (fun r e=>by cases e);obtain ⟨v',a0,ao,ad,_,ak⟩:=h;have hdl:=(Array.getElem?_eq_some_iff.1 ad).1;have hv:v'=v:=Option.some.inj ((a0.kept hg (by simp)).cell.symm.trans b0.cell);subst hv;refine ⟨v',b0,ho,hd,hb,fun k h=> ?_⟩;rcases h with (h | ⟨h3,h4⟩) | h
 ·exact hk k (.inl h)
 ·exact ⟨h4,by omega,by omega,fun e=>by have:=(ao.lt k e).2;omega⟩
 exact hk k (.inr h)
theorem AInv.size {w:World} {z:Nat} {pre:List Bs} {G:Nat→Prop} {A:World} (h:AInv w z pre G A):z<A.heap.size:=by
 obtain ⟨_,b0,_⟩:=h;exact b0.lt
theorem AInv.appended {w:World} {z:Nat} {pre:List Bs} {x:Bs} {G:Nat→Prop} {A A1:World} {v:Value} {o:Obj} {g cap:Nat} (h:AInv w z pre G A) (hz:z≤w.heap.size) (b0:Boxed A z 43 v)
  (hown:A1.ownsRow z 9 1 (.slice (some ⟨g,0,none⟩) (pre.length+1) cap) (pre.length+1) (Hs.scells pre++[.string (mk x)])) (hg:(A.alloc o).grownBy A1 v.ownBlock) (hat:v.ownBlock=some g∨g=(A.alloc o).heap.size) :
  (A1.setCell ⟨z,0,none⟩ (.slice (some ⟨g,0,none⟩) (pre.length+1) cap)).heap[z+4]? =A.heap[z+4]? ∧
   HsR.Keeps (fun k=>G k∨k<z) A (A1.setCell ⟨z,0,none⟩ (.slice (some ⟨g,0,none⟩) (pre.length+1) cap))∧AInv w z (pre++[x]) G (A1.setCell ⟨z,0,none⟩ (.slice (some ⟨g,0,none⟩) (pre.length+1) cap)):=by
 obtain ⟨v',b0',ho',hd,hb,hk⟩:=h;have hv:v'=v:=Option.some.inj (b0'.cell.symm.trans b0.cell);subst hv;have hsz:=hg.size;rw [World.size_alloc] at hsz;have hgA:A.grownBy A1 v'.ownBlock:=⟨hg.os,hg.tape,hg.output,by omega,fun k hk hne=>(hg.block k (by simp;omega) hne).trans (Below.heap_alloc A o k hk)⟩;have a0:=b0.kept hgA (b0.not_row (by decide) ho');have hne4:=rU hd ho';have a4:=(hgA.block _ (Array.getElem?_eq_some_iff.1 hd).1 (fun e=>hne4 e.symm)).trans hd;have hL:=(hk _ (.inr rfl));have a5:=hgA.block _ hL.1 (fun e=>hL.2.2.2 e.symm);have hlow:∀ k,(G k∨k<z)→v'.ownBlock≠some k∧k≠z:=fun k h=>by
  rcases h with h | h
  ·exact ⟨(hk k (.inl h)).2.2.2,by have:=(hk k (.inl h)).2.1;omega⟩
  exact ⟨fun e=>by have:=(ho'.lt k e).1;omega,by omega⟩
 refine ⟨(Below.heap_setCell _ _ _ _ (by simp)).trans a5,(HsR.Keeps.of_grown hgA (fun r e hr=>(hlow r hr).1 e)).trans (.setCell _ _ _ (fun h=>(hlow _ h).2 rfl) _),?_⟩;refine ⟨.slice (some ⟨g,0,none⟩) (pre.length+1) cap,a0.set _,?_,(Below.heap_setCell _ _ _ _ (by simp)).trans a4,?_,?_⟩
 ·have:=hown.kept (HsR.grown_setCell A1 z 0 (.slice (some ⟨g,0,none⟩) (pre.length+1) cap)) (xC fun k e=>by cases e;exact fun e=>(a0.not_row (by decide) hown) e.symm);rw [List.length_append,vf];exact this
 ·exact (hb.grown hgA (Nat.le_trans hz hb.size) (fun k e=>(ho'.lt k e).1)).setCell (by simp) _
 intro k h;obtain ⟨k1,k2,k3,k4⟩:=hk k h;refine ⟨by simp;omega,k2,k3,fun e=> ?_⟩;have e':g=k:=by simpa [Value.ownBlock] using e
 rcases hat with hat | hat
 ·exact k4 (by rw [hat,e'])
 rw [World.size_alloc] at hat;omega
def BInv (w:World) (z:Nat) (pre:List Bs) (G:Nat→Prop) (W:World):Prop :=
 pre=[]∧Boxed W z 9 (.string ⟨#[]⟩)∧Boxed W (z+1) 4 (.bool false)∧W.heap[z+4]? =some (.deferred (some []))∧Below z w W ∧
  (∀ k,(G k∨k=z+5)→k<W.heap.size∧z+2≤k∧k≠z+4)
def BOut (w:World) (z:Nat) (c:Code) (pre:List Bs) (G:Nat→Prop) (W:World):Prop :=
 c= .ret∧∃ x,pre=[x]∧Boxed W z 9 (.string (mk x))∧Boxed W (z+1) 4 (.bool true)∧W.heap[z+4]? =some (.deferred (some []))∧Below z w W ∧
  (∀ k,(G k∨k=z+5)→k<W.heap.size∧z+2≤k∧k≠z+4)
theorem SS {w:World} {z:Nat} {a b:Value} {G:Nat→Prop} {A B:World} {row:Option Nat} (h:Boxed A z 9 a∧Boxed A (z+1) 4 b∧A.heap[z+4]? =some (.deferred (some []))∧Below z w A ∧
  (∀ k,(G k∨k=z+5)→k<A.heap.size∧z+2≤k∧k≠z+4)) (hz:z≤w.heap.size) (hg:A.grownBy B row) (hr:∀ r,row=some r→G r∨r=z+5) :
  Boxed B z 9 a∧Boxed B (z+1) 4 b∧B.heap[z+4]? =some (.deferred (some []))∧Below z w B∧(∀ k,(G k∨k=z+5)→k<B.heap.size∧z+2≤k∧k≠z+4):=by
 obtain ⟨b0,b1,hd,hb,hk⟩:=h;have ne:∀ j,j<z+2∨j=z+4→some j≠row:=fun j hj e=>by
  have:=hk j (hr j e.symm);omega
 exact ⟨b0.kept hg (ne _ (by omega)),b1.kept hg (ne _ (by omega)),(hg.block _ (Array.getElem?_eq_some_iff.1 hd).1 (ne _ (.inr rfl))).trans hd,hb.grown hg (Nat.le_trans hz hb.size) (fun k e=>by have:=(hk k (hr k e));omega),
  fun k h=>⟨by have:=(hk k h).1;have:=hg.size;omega,(hk k h).2⟩⟩
theorem Px {w:World} {z:Nat} {a b:Value} {G:Nat→Prop} {A B:World} (h:Boxed A z 9 a∧Boxed A (z+1) 4 b∧A.heap[z+4]? =some (.deferred (some []))∧Below z w A ∧
  (∀ k,(G k∨k=z+5)→k<A.heap.size∧z+2≤k∧k≠z+4)) (hz:z≤w.heap.size) (hg:A.grownBy B none) :
  Boxed B z 9 a∧Boxed B (z+1) 4 b∧B.heap[z+4]? =some (.deferred (some []))∧Below z w B∧(∀ k,((G k∨(A.heap.size≤k∧k<B.heap.size))∨k=z+5)→k<B.heap.size∧z+2≤k∧k≠z+4):=by
 have hdl:=(Array.getElem?_eq_some_iff.1 h.2.2.1).1;obtain ⟨b0,b1,hd,hb,hk⟩:=SS h hz hg (fun r e=>by cases e);refine ⟨b0,b1,hd,hb,fun k h=> ?_⟩;rcases h with (h | ⟨h3,h4⟩) | h
 ·exact hk k (.inl h)
 ·exact ⟨h4,by omega,by omega⟩
 exact hk k (.inr h)
theorem BInv.turn {w:World} {z:Nat} {pre:List Bs} {G:Nat→Prop} {A B:World} {row:Option Nat} (h:BInv w z pre G A) (hz:z≤w.heap.size) (hg:A.grownBy B row) (hr:∀ r,row=some r→G r∨r=z+5):BInv w z pre G B:=⟨h.1,SS h.2 hz hg hr⟩
theorem BInv.lay {w:World} {z:Nat} {pre:List Bs} {G:Nat→Prop} {A B:World} (h:BInv w z pre G A) (hz:z≤w.heap.size) (hg:A.grownBy B none):BInv w z pre (fun k=>G k∨(A.heap.size≤k∧k<B.heap.size)) B:=⟨h.1,Px h.2 hz hg⟩
theorem BOut.turn {w:World} {z:Nat} {c:Code} {pre:List Bs} {G:Nat→Prop} {A B:World} {row:Option Nat} (h:BOut w z c pre G A) (hz:z≤w.heap.size) (hg:A.grownBy B row) (hr:∀ r,row=some r→G r∨r=z+5):BOut w z c pre G B:=by
 obtain ⟨h1,x,h2,h3⟩:=h;exact ⟨h1,x,h2,SS h3 hz hg hr⟩
theorem BOut.lay {w:World} {z:Nat} {c:Code} {pre:List Bs} {G:Nat→Prop} {A B:World} (h:BOut w z c pre G A) (hz:z≤w.heap.size) (hg:A.grownBy B none):BOut w z c pre (fun k=>G k∨(A.heap.size≤k∧k<B.heap.size)) B:=by
 obtain ⟨h1,x,h2,h3⟩:=h;exact ⟨h1,x,h2,Px h3 hz hg⟩
theorem Qj (v:Value) (l:List Fld) (s:ByteArray) (w:World) (hv:Flds w v l) (hs:s.size≤100000) (hl:l.length≤1000) (hls:∀ x∈l,x.1.length≤100000) :
  Calls Tryz.prog 39 #[v,.string s] w fun e w'=>e= .returned (.tuple #[.string (mk (sH l (un s)).1),.bool (sH l (un s)).2])∧Below w.heap.size w w':=by
 obtain ⟨a,cap,rfl,hn,hm,hc⟩:=hv.open;have HC:=KZ9 hc;have HLS:=KZ9 hls;clear hc hls hv;obtain ⟨R,hR⟩:=KZ6 (sH l (un s));rw [←hR];have HR:=KZ9 hR;clear hR;refine (callsIn_wide (n:=5)).1 ?_;refine callsIn_of_wp_marks Tryz.func39 rfl trivial ?_ rfl;simp only [Tryz.ntmps39,List.size_toArray,List.length_cons,List.length_nil,Nat.reduceAdd,Nat.reduceSub,Array.replicate_succ,Array.replicate_zero,List.push_toArray,List.append_toArray,List.nil_append,List.cons_append]
 gi_wp2
 refine ⟨trivial,?_⟩;refine (callsIn_wide.2 (Qh a l.length cap s _)).mono ?_;rintro e w1 ⟨rfl,rfl⟩
 gi_wp2
 obtain ⟨W4,hW4⟩:=KZ6 ((((w.alloc (.cells #[.string ⟨#[]⟩] 9)).alloc (.cells #[.bool false] 4)).alloc (.cells #[.slice a l.length cap] 104)).alloc (.cells #[.string s] 9));have hS4:W4.heap.size=w.heap.size+4:=by rw [hW4];simp
 have hB4:Below w.heap.size w W4:=by rw [hW4];exact ((((Below.refl _ w).alloc (Nat.le_refl _) _).alloc (by simp) _).alloc (by simp;omega) _).alloc (by simp;omega) _
 have c0:Boxed W4 w.heap.size 9 (.string ⟨#[]⟩):=by rw [hW4];exact (((Boxed.new w _ _).alloc _).alloc _).alloc _
 have c1:Boxed W4 (w.heap.size+1) 4 (.bool false):=by
  have:=((Boxed.new (w.alloc (.cells #[.string ⟨#[]⟩] 9)) 4 (.bool false)).alloc (.cells #[.slice a l.length cap] 104)).alloc (.cells #[.string s] 9);rw [World.size_alloc] at this;rw [hW4];exact this
 have c2:Boxed W4 (w.heap.size+2) 104 (.slice a l.length cap):=by
  have:=(Boxed.new ((w.alloc (.cells #[.string ⟨#[]⟩] 9)).alloc (.cells #[.bool false] 4)) 104 (.slice a l.length cap)).alloc (.cells #[.string s] 9);simp only [World.size_alloc] at this;rw [hW4];exact this
 have c3:Boxed W4 (w.heap.size+3) 9 (.string s):=by
  have:=Boxed.new (((w.alloc (.cells #[.string ⟨#[]⟩] 9)).alloc (.cells #[.bool false] 4)).alloc (.cells #[.slice a l.length cap] 104)) 9 (.string s);simp only [World.size_alloc] at this;rw [hW4];exact this
 have hvv:∃ a' cap',Value.slice a l.length cap= .slice a' l.length cap'∧(0<l.length→∃ b off,a'=some ⟨b,off,none⟩∧b<w.heap.size∧∀ j (hj:j<l.length),W4.cell? ⟨b,off+j*2,none⟩=some (.string (mk l[j].1))∧W4.cell? ⟨b,off+j*2+1,none⟩=some (.string (mk l[j].2))) :=
  ⟨a,cap,rfl,fun h=>by
   obtain ⟨b,off,e,hb,hcell⟩:=HC.out h;exact ⟨b,off,e,hb,fun j hj=>⟨(hB4.cell (p:=⟨b,off+j*2,none⟩) hb).trans (hcell j hj).1,(hB4.cell (p:=⟨b,off+j*2+1,none⟩) hb).trans (hcell j hj).2⟩⟩⟩
 have HVV:=KZ9 hvv;rw [←hW4];clear hW4 hvv;obtain ⟨z,hz⟩:=KZ6 w.heap.size;simp only [←hz] at hS4 hB4 c0 c1 c2 c3 HVV ⊢;have hzz:=Nat.le_of_eq hz;have HZ:=KZ9 hz;clear hz;rw [show z+1+1+1=z+3 from rfl,show z+1+1=z+2 from rfl];have hent:=fun (a:Act) ps asg bd=>HsR.enter_outer (F:=Fence.wide) (P:=Tryz.prog) rfl W4 a ps asg bd;rw [hS4] at hent;refine HsR.range_law (w₁:=W4.alloc (.deferred (some []))) (L:=z+5) (by omega) (by simp;omega) (hent _ _ _ _) (gf:=147) (lb:=#[.pointer (some ⟨z+2,0,none⟩),.pointer (some ⟨z+3,0,none⟩)]) rfl trivial (enters_of Tryz.func147 (by kernel_rfl) rfl)
  (Us 4 (z+2) (z+3) z s _ l W4 (by omega) c2 c3 hs hl HLS.out HVV.out (by omega)) ((Below.refl _ W4).alloc (Nat.le_refl _) _) (fun _=>rfl) (by omega) (by omega)
  (BInv w z) (BOut w z) (fun _ _ _ _ _ h hg hr=>h.turn hzz hg hr) (fun _ _ _ _ h hg=>h.lay hzz hg) (fun _ _ _ _ _ _ h hg hr=>h.turn hzz hg hr) (fun _ _ _ _ _ h hg=>h.lay hzz hg) ?start
  (fun x a' W=>a'={ tmps:=#[.slice a l.length cap,.string s,undef,undef,.pointer (some ⟨z,0,none⟩),.pointer (some ⟨z+1,0,none⟩),.string (mk x),.slice a l.length cap,.string s,.func (.func 147) #[] #[.pointer (some ⟨z+2,0,none⟩),.pointer (some ⟨z+3,0,none⟩)],.string (mk x),undef],defers:=[] }) (fun _ _ _ _ _ h _ _=>h) ?assign ?body ?done ?stop
 case start =>
  intro o;refine ⟨rfl,(c0.alloc _).alloc _,(c1.alloc _).alloc _,?_,(hB4.alloc (by omega) _).alloc (by simp;omega) _,?_⟩
  ·have h1:=World.alloc_heap_new W4 (.deferred (some []));rw [hS4] at h1;exact (Below.heap_alloc _ o _ (by simp;omega)).trans h1
  rintro k ((rfl | rfl) | rfl)<;>simp<;>omega
 case assign =>
  intro pre x G W K hI hsp hK
  gi_wp2
  exact hK _ _ rfl (HsR.Keeps.refl _ _) hI rfl
 case body =>
  rintro pre x G a' W ⟨r0,hr0⟩ ⟨rfl,b0,b1,hd,hb,hk⟩ rfl ⟨post,hpost⟩;clear hpost;have e0:=b0.cell;have f0:=b0.frozen;have e1:=b1.cell;have f1:=b1.frozen
  gi_wp2
  have hh:∀ j,z+1<j→((W.setCell ⟨z,0,none⟩ (.string (mk x))).setCell ⟨z+1,0,none⟩ (.bool true)).heap[j]? =W.heap[j]? :=fun j hj =>
   (Below.heap_setCell _ _ _ _ (by simp;omega)).trans (Below.heap_setCell _ _ _ _ (by simp;omega))
  exact (show _∧_ from ⟨hh _ (by omega),rfl,x,rfl,(b0.set _).other (by omega) _,(b1.other (by omega) _).set _,(hh _ (by omega)).trans hd,(hb.setCell (by simp) _).setCell (by simp) _,
   fun k h=>⟨by have:=(hk k h).1;simp;omega,(hk k h).2.1,(hk k h).2.2⟩⟩)
 case done =>
  rintro xs G W rfl ⟨hxs,b0,b1,hd,hb,hk⟩;have hfin:Hid (R=([],false)):=by rw [HR.out];unfold sH;rw [hxs];rfl
  have e0:=b0.cell;have f0:=b0.frozen;have e1:=b1.cell;have f1:=b1.frozen;clear hxs
  gi_wp2
  have hd':((W.setCell ⟨z,0,none⟩ (.string ⟨#[]⟩)).setCell ⟨z+1,0,none⟩ (.bool false)).heap[z+4]? =some (.deferred (some [])) :=
   ((Below.heap_setCell _ _ _ _ (by simp)).trans (Below.heap_setCell _ _ _ _ (by simp))).trans hd
  have d0:=((b0.set (.string ⟨#[]⟩)).other (B':=z+1) (by omega) (.bool false)).kept (grownBy_putObj' _ (z+4) (.deferred none)) (by simp);have d1:=((b1.other (B':=z) (by omega) (.string ⟨#[]⟩)).set (.bool false)).kept (grownBy_putObj' _ (z+4) (.deferred none)) (by simp);have hbl:=((hb.setCell (p:=⟨z,0,none⟩) (by simp) (.string ⟨#[]⟩)).setCell (p:=⟨z+1,0,none⟩) (by simp) (.bool false)).grown (grownBy_putObj' _ (z+4) (.deferred none)) (by have:=hb.size;simp;omega) (fun k e=>by cases e;omega);refine ⟨by simp,.inl ⟨_,_,rfl,run_takeDeferred hd',?_⟩⟩;refine ⟨.tuple #[.string ⟨#[]⟩,.bool false],?_,?_,?_⟩
  ·have e0:=d0.cell;have e1:=d1.cell;simp [results,Tryz.f39,go_sem,e0,e1]
  ·rw [hfin.out];rfl
  rw [←HZ.out];exact hbl
 case stop =>
  rintro c pre G W ⟨post,hpost⟩ ⟨rfl,x,rfl,b0,b1,hd,hb,hk⟩;have hfin:Hid (R=(x,true)):=by rw [HR.out];unfold sH;rw [←hpost];rfl
  clear hpost;have e0:=b0.cell;have f0:=b0.frozen;have e1:=b1.cell;have f1:=b1.frozen
  gi_wp2
  have d0:=b0.kept (grownBy_putObj' _ (z+4) (.deferred none)) (by simp);have d1:=b1.kept (grownBy_putObj' _ (z+4) (.deferred none)) (by simp);have hbl:=hb.grown (grownBy_putObj' _ (z+4) (.deferred none)) (by have:=hb.size;omega) (fun k e=>by cases e;omega);refine ⟨by simp,.inl ⟨_,_,rfl,run_takeDeferred hd,?_⟩⟩;refine ⟨.tuple #[.string (mk x),.bool true],?_,?_,?_⟩
  ·have e0:=d0.cell;have e1:=d1.cell;simp [results,Tryz.f39,go_sem,e0,e1]
  ·rw [hfin.out]
  rw [←HZ.out];exact hbl
end Go.Proofs.YtbnnlkdhpifpeaaGreatDoor
namespace Hs
abbrev Dir:=Bs × Bs × Bool
def zn (l:Bs) (i:Nat):Nat:=i+yB yM (l.drop i)
def atN (l:Bs) (i:Nat):Nat:=if h:i<l.length then l[i].toNat else 256
theorem S5 (l:Bs) (i:Nat) (h:i<l.length):atN l i=l[i].toNat:=dif_pos h
theorem bN (l:Bs) (i:Nat) (h:l.length≤i):atN l i=256:=dif_neg (by omega)
theorem gj (l:Bs) (i:Nat) (h:atN l i≠256):i<l.length:=by
 by_cases h2:i<l.length
 ·exact h2
 exact absurd (bN l i (by omega)) h
theorem S4 (s:ByteArray) (i:Nat) (h:i<s.size):atN (un s) i=(s[i]'h).toNat:=S5 (un s) i (by rw [za];exact h)
theorem x7 (l:Bs) (i:Nat):i≤zn l i:=by unfold zn;omega
theorem wY (l:Bs) (i:Nat) (h:i≤l.length):zn l i≤l.length:=by
 have:=pq yM (l.drop i);rw [List.length_drop] at this;unfold zn;omega
theorem tZ (l:Bs) (i:Nat) (h:l.length≤i):zn l i=i:=by
 unfold zn;rw [List.drop_eq_nil_of_le h];rfl
theorem Wh (l:Bs) (i:Nat) (h:i<l.length) (ht:yM l[i]=true):zn l i=zn l (i+1):=by
 unfold zn;rw [List.drop_eq_getElem_cons h,yB,if_pos ht];omega
theorem pG (l:Bs) (i:Nat) (h:i<l.length) (ht:yM l[i]=false):zn l i=i:=by
 unfold zn;rw [List.drop_eq_getElem_cons h,yB,if_neg (by simp [ht])];omega
theorem YO (l:Bs) (i:Nat) (h:zn l i<l.length):yM (l[zn l i])=false:=by
 have hr:yB yM (l.drop i)<(l.drop i).length:=by
  rw [List.length_drop];unfold zn at h;omega
 have:=pQ yM (l.drop i) hr;rw [List.getElem_drop] at this;exact this
theorem vx (l:Bs) (i:Nat):zn l (zn l i)=zn l i:=by
 by_cases h:zn l i<l.length
 ·exact pG l _ h (YO l i h)
 exact tZ l _ (by omega)
theorem U0 (l:Bs) (i:Nat) (h:atN l i≠32) (h2:atN l i≠9):zn l i=i:=by
 by_cases hi:i<l.length
 ·refine pG l i hi (KZ8 ?_);rw [S5 l i hi] at h h2;omega
 exact tZ l i (by omega)
theorem si:∀ (r:Bs) (esc:Bool) (acc:Bs) (pos:Nat),(xg r esc acc pos).e=0→pos<(xg r esc acc pos).n∧(xg r esc acc pos).n≤pos+r.length∧(xg r esc acc pos).v.length≤acc.length+r.length
 | [],_,_,_,h=>by simp [xg] at h
 | b::r,esc,acc,pos,h=>by
  have i1:=si r false (acc++[b]) (pos+1);have i2:=si r true acc (pos+1);rw [List.length_append,List.length_singleton] at i1;unfold xg at h ⊢;split at h
  ·simp at h
  rename_i hb;rw [if_neg hb];split at h
  ·rename_i he;rw [if_pos he];have:=i1 h;simp only [List.length_cons];omega
  rename_i he;rw [if_neg he];split at h
  ·rename_i h92;rw [if_pos h92];have:=i2 h;simp only [List.length_cons];omega
  rename_i h92;rw [if_neg h92];split at h
  ·rename_i h34;rw [if_pos h34];simp only [List.length_cons];omega
  rename_i h34;rw [if_neg h34];have:=i1 h;simp only [List.length_cons];omega
theorem cN (l:Bs) (k:Nat) (h:(yj l k).e=0):k<(yj l k).n∧(yj l k).n≤l.length∧(yj l k).v.length≤l.length:=by
 by_cases hk:k<l.length
 ·by_cases hq:l[k].toNat=34
  ·rw [qA l k hk hq] at h ⊢;have:=si _ _ _ _ h;simp only [List.length_drop,List.length_nil] at this;omega
  rw [kw l k (by omega) (fun _=>hq)] at h;simp at h
 unfold yj at h;by_cases h2:(k:Int)<0∨(l.length:Int)<(k:Int)
 ·rw [if_pos h2] at h;simp at h
 rw [if_neg h2] at h;simp only [Int.toNat_natCast] at h;rw [dif_neg hk] at h;simp at h
def t6 (l:Bs) (k:Nat):Option (Bs × Nat) :=
 if atN l k=34 then (if (yj l k).e=0 then some ((yj l k).v,(yj l k).n) else none)
 else if k<zm l k then some (seg l k (zm l k),zm l k) else none
theorem YY (l:Bs) (k:Nat) (h:atN l k=34) (he:(yj l k).e=0):t6 l k=some ((yj l k).v,(yj l k).n):=by unfold t6;rw [if_pos h,if_pos he]
theorem Tf (l:Bs) (k:Nat) (h:atN l k=34) (he:(yj l k).e≠0):t6 l k=none:=by unfold t6;rw [if_pos h,if_neg he]
theorem Te (l:Bs) (k:Nat) (h:atN l k≠34) (he:k<zm l k):t6 l k=some (seg l k (zm l k),zm l k):=by unfold t6;rw [if_neg h,if_pos he]
theorem VB (l:Bs) (k:Nat) (h:atN l k≠34) (he:¬ k<zm l k):t6 l k=none:=by unfold t6;rw [if_neg h,if_neg he]
theorem jG (l:Bs) (k:Nat) (v:Bs) (n:Nat) (hk:k≤l.length) (h:t6 l k=some (v,n)):k<n∧n≤l.length∧v.length≤l.length:=by
 unfold t6 at h;split at h
 ·split at h
  ·rename_i he;have hb:=cN l k he;simp only [Option.some.injEq,Prod.mk.injEq] at h;obtain ⟨rfl,rfl⟩:=h;exact hb
  simp at h
 split at h
 ·rename_i ht;simp only [Option.some.injEq,Prod.mk.injEq] at h;obtain ⟨rfl,rfl⟩:=h;have h1:=sU l k hk;have h2:=rZ l k (zm l k) (by omega) h1;omega
 simp at h
def uI (l:Bs) (j:Nat):Prop:=atN l j=59∨atN l j=256
instance (l:Bs) (j:Nat):Decidable (uI l j):=by unfold uI;infer_instance
def uk (l:Bs) (i:Nat):Option (Dir × Nat) :=
 if i<zm l i then
  if atN l (zn l (zm l i))=61 then
   (t6 l (zn l (zn l (zm l i)+1))).map (fun p=>((zt (seg l i (zm l i)),p.1,true),zn l p.2))
  else some ((zt (seg l i (zm l i)),[],false),zn l (zm l i))
 else none
def wN (l:Bs) (i:Nat):Option (Dir × Nat):=(uk l i).filter (fun p=>decide (uI l p.2))
theorem kX (l:Bs) (i:Nat) (h:¬ i<zm l i):uk l i=none:=by unfold uk;rw [if_neg h]
theorem qj (l:Bs) (i:Nat) (h:i<zm l i) (h2:atN l (zn l (zm l i))≠61):uk l i=some ((zt (seg l i (zm l i)),[],false),zn l (zm l i)):=by unfold uk;rw [if_pos h,if_neg h2]
theorem pC (l:Bs) (i:Nat) (h:i<zm l i) (h2:atN l (zn l (zm l i))=61):uk l i=(t6 l (zn l (zn l (zm l i)+1))).map (fun p=>((zt (seg l i (zm l i)),p.1,true),zn l p.2)):=by unfold uk;rw [if_pos h,if_pos h2]
theorem X4 (l:Bs) (i:Nat) (p:Dir × Nat) (h:uk l i=some p) (hs:uI l p.2):wN l i=some p:=by unfold wN;rw [h];simp [hs]
theorem X3 (l:Bs) (i:Nat) (p:Dir × Nat) (h:uk l i=some p) (hs:¬ uI l p.2):wN l i=none:=by unfold wN;rw [h];simp [hs]
theorem X5 (l:Bs) (i:Nat) (h:uk l i=none):wN l i=none:=by unfold wN;rw [h];rfl
theorem uE (l:Bs) (i:Nat) (d:Dir) (j:Nat) (hi:i≤l.length) (h:uk l i=some (d,j)):i<j∧j≤l.length∧d.1.length≤l.length∧d.2.1.length≤l.length:=by
 have h1:=sU l i hi;have h2:=wY l _ h1;have h3:=x7 l (zm l i);have h4:=rZ l i _ (sV l i) h1;by_cases ht:i<zm l i
 ·by_cases he:atN l (zn l (zm l i))=61
  ·rw [pC l i ht he] at h;have hin:=gj l _ (by omega:atN l (zn l (zm l i))≠256);have h5:=wY l (zn l (zm l i)+1) (by omega);have h6:=x7 l (zn l (zm l i)+1);rw [Option.map_eq_some_iff] at h;obtain ⟨⟨v,n⟩,hv,he2⟩:=h;simp only [Prod.mk.injEq] at he2;obtain ⟨rfl,rfl⟩:=he2;have h7:=jG l _ v n h5 hv;have h8:=wY l n (by omega);have h9:=x7 l n;simp only [x6];omega
  rw [qj l i ht he] at h;simp only [Option.some.injEq,Prod.mk.injEq] at h;obtain ⟨rfl,rfl⟩:=h;simp only [x6,List.length_nil];omega
 rw [kX l i ht] at h;simp at h
theorem ri (l:Bs) (i:Nat) (p:Dir × Nat) (h:wN l i=some p):uk l i=some p∧uI l p.2:=by
 unfold wN at h;rw [Option.filter_eq_some_iff] at h;exact ⟨h.1,by simpa using h.2⟩
def parseI (l:Bs) (i:Nat) (acc:List Dir):List Dir × Int :=
 if _hk:zn l i<l.length then
  if atN l (zn l i)=59 then parseI l (zn l i+1) acc
  else if acc.length=32 then ([],3)
  else match _h:wN l (zn l i) with
   | none=>([],4)
   | some p=>parseI l p.2 (acc++[p.1])
 else (acc,0)
termination_by l.length - i
decreasing_by
 ·have:=x7 l i;omega
 have:=x7 l i
 have:=uE l (zn l i) p.1 p.2 (by omega) (ri l _ p _h).1
 omega
theorem tC (l:Bs) (i:Nat) (acc:List Dir):parseI l i acc=parseI l (zn l i) acc:=by
 rw [parseI,parseI.eq_def l (zn l i),vx]
theorem sm (l:Bs) (i:Nat) (acc:List Dir) (h:atN l i=59):parseI l i acc=parseI l (i+1) acc:=by
 have e:=U0 l i (by omega) (by omega);rw [parseI,e,dif_pos (gj l i (by omega)),if_pos h]
theorem rQ (l:Bs) (i:Nat) (acc:List Dir) (h:l.length≤i):parseI l i acc=(acc,0):=by
 have e:=tZ l i h;rw [parseI,e,dif_neg (by omega)]
theorem tA (l:Bs) (i:Nat) (acc:List Dir) (hi:zn l i=i) (hl:i<l.length) (h:atN l i≠59) (hn:acc.length=32):parseI l i acc=([],3):=by
 rw [parseI,hi,dif_pos hl,if_neg h,if_pos hn]
theorem so (l:Bs) (i:Nat) (acc:List Dir) (hi:zn l i=i) (hl:i<l.length) (h:atN l i≠59) (hn:acc.length≠32) (he:wN l i=none):parseI l i acc=([],4):=by
 rw [parseI,hi,dif_pos hl,if_neg h,if_neg hn];split
 ·rfl
 rename_i p hp;rw [he] at hp;simp at hp
theorem sl (l:Bs) (i:Nat) (acc:List Dir) (p:Dir × Nat) (hi:zn l i=i) (hl:i<l.length) (h:atN l i≠59) (hn:acc.length≠32) (he:wN l i=some p):parseI l i acc=parseI l p.2 (acc++[p.1]):=by
 rw [parseI,hi,dif_pos hl,if_neg h,if_neg hn];split
 ·rename_i hp;rw [he] at hp;simp at hp
 rename_i q hp;rw [he] at hp;simp only [Option.some.injEq] at hp;subst hp;rfl
def wb (l:Bs):List Dir × Int:=if 4096<l.length then ([],3) else parseI l 0 []
theorem sr (l:Bs) (h:4096<l.length):wb l=([],3):=if_pos h
theorem tE (l:Bs) (h:¬ 4096<l.length):wb l=parseI l 0 []:=if_neg h
theorem tB (l:Bs):∀ (n i:Nat) (acc:List Dir),l.length - i≤n→acc.length≤32→(∀ d∈acc,d.1.length≤l.length∧d.2.1.length≤l.length)→(parseI l i acc).1.length≤32∧∀ d∈(parseI l i acc).1,d.1.length≤l.length∧d.2.1.length≤l.length
 | n,i,acc,hn,ha,hd=>by
  rw [tC];have hge:=x7 l i;have hid:=vx l i;by_cases hl:zn l i<l.length
  ·match n,hn with
   | 0,hn=>omega
   | n+1,hn =>
   by_cases h59:atN l (zn l i)=59
   ·rw [sm l _ acc h59];exact tB l n _ acc (by omega) ha hd
   by_cases h32:acc.length=32
   ·rw [tA l _ acc hid hl h59 h32];simp
   cases he:wN l (zn l i) with
   | none=>rw [so l _ acc hid hl h59 h32 he];simp
   | some p =>
    rw [sl l _ acc p hid hl h59 h32 he];have hb:=uE l _ p.1 p.2 (by omega) (ri l _ p he).1;refine tB l n _ _ (by omega) (by simp;omega) (fun d hd'=> ?_);rcases List.mem_append.1 hd' with h | h
    ·exact hd d h
    simp only [List.mem_singleton] at h;subst h;exact ⟨hb.2.2.1,hb.2.2.2⟩
  rw [rQ l _ acc (by omega)];exact ⟨ha,hd⟩
theorem cP (l:Bs):(wb l).1.length≤32∧∀ d∈(wb l).1,d.1.length≤4096∧d.2.1.length≤4096:=by
 by_cases h:4096<l.length
 ·rw [sr l h];simp
 rw [tE l h];have:=tB l l.length 0 [] (by omega) (by simp) (by simp);exact ⟨this.1,fun d hd=>⟨by have:=(this.2 d hd).1;omega,by have:=(this.2 d hd).2;omega⟩⟩
def Td (d:Dir):Bool:=tj d.1&&(zt d.1==d.1)&&(d.2.2||d.2.1.isEmpty)&&d.2.1.all x9
def validD (l:List Dir):Bool:=l.all Td&&decide (l.length≤32)
end Hs
namespace Go.Proofs.YtbnnlkdhpifpeaaGreatDoor
open Go.RowKit Hs
theorem rj:(Tryz.prog.info? 177).map (·.size)=some 3:=by kernel_rfl
theorem R5:(Tryz.prog.info? 177).map (fun i=>(i.zero,i.size,i.bytes))=some (some (.agg #[.string ⟨#[]⟩,.string ⟨#[]⟩,.bool false]),3,40):=by kernel_rfl
def vz (d:Dir):Value:= .agg #[.string (mk d.1),.string (mk d.2.1),.bool d.2.2]
def wo (l:List Dir):List Value:=l.flatMap fun d=>[.string (mk d.1),.string (mk d.2.1),.bool d.2.2]
theorem YE (l:List Dir) (d:Dir):wo l++[.string (mk d.1),.string (mk d.2.1),.bool d.2.2]=wo (l++[d]):=by simp [wo]
theorem k7:∀ (l:List Dir) (k:Nat) (h:k<l.length),(wo l)[k*3]? =some (.string (mk l[k].1))∧(wo l)[k*3+1]? =some (.string (mk l[k].2.1))∧(wo l)[k*3+2]? =some (.bool l[k].2.2)
 | [],k,h=>by simp at h
 | d::l,0,h=>by simp [wo]
 | d::l,k+1,h=>by
  have:=k7 l k (by simpa using h);have e:wo (d::l)= .string (mk d.1):: .string (mk d.2.1):: .bool d.2.2::wo l:=by simp [wo]
  rw [e];have e1:(k+1)*3=k*3+3:=by omega
  rw [e1]
  simpa using this
end Go.Proofs.YtbnnlkdhpifpeaaGreatDoor
namespace Hs
def P (r:Bs) (acc:List Dir):List Dir × Int:=parseI r 0 acc
def gM:Bs:=[109,97,120,45,97,103,101]
def Y5:Bs:=[105,110,99,108,117,100,101,115,117,98,100,111,109,97,105,110,115]
def yq (l:List Dir) (n:Bs):Option Dir:=l.find? (fun d=>d.1==n)
def wO (o:Option Dir):Dir:=o.getD ([],[],false)
def yG (l:List Dir):List Bs:=l.map (·.1)
def Po (ai ok:Bool) (sv:Nat) (bi bv:Bool):(Int × Bool) × Int :=
 if (ai=true∧ok=false)∨bv=true then ((0,false),6)
 else if ai=true then (((sv:Int),bi),0) else ((0,false),18)
def VP (l:List Dir):(Int × Bool) × Int :=
 if (yG l).Nodup then Po (yq l gM).isSome (jg (wO (yq l gM)).2.1).2 (jg (wO (yq l gM)).2.1).1 (yq l Y5).isSome (wO (yq l Y5)).2.2
 else ((0,false),17)
theorem Tp (l:List Dir) (h:¬ (yG l).Nodup):VP l=((0,false),17):=by unfold VP;rw [if_neg h]
theorem Rp (l:List Dir) (h:(yG l).Nodup):VP l=Po (yq l gM).isSome (jg (wO (yq l gM)).2.1).2 (jg (wO (yq l gM)).2.1).1 (yq l Y5).isSome (wO (yq l Y5)).2.2:=by unfold VP;rw [if_pos h]
def QR (r:List Dir × Int):(Int × Bool) × Int:=if r.2=0 then VP r.1 else ((0,false),r.2)
def cy (l:Bs):(Int × Bool) × Int:=QR (wb l)
theorem XZ (l:List Dir) (d:Dir) (n:Bs):yq (l++[d]) n=if (yq l n).isSome then yq l n else (if d.1=n then some d else none):=by
 unfold yq;rw [List.find?_append];cases h:l.find? (fun d=>d.1==n) with
 | some x=>simp
 | none =>
  by_cases hd:d.1=n
  ·simp [hd]
  have:(d.1==n)=false:=by simpa using hd
  simp [hd,List.find?,this]
theorem kU (l:List Dir) (n:Bs):(yq l n).isSome=true↔n∈yG l:=by
 unfold yq yG;rw [List.find?_isSome,List.mem_map];constructor
 ·rintro ⟨d,hd,he⟩;exact ⟨d,hd,by simpa using he⟩
 rintro ⟨d,hd,he⟩;exact ⟨d,hd,by simpa using he⟩
theorem kV (l:List Dir) (n:Bs):(yq l n).isSome=false↔n∉yG l:=by
 rw [←kU];cases (yq l n).isSome<;>simp
theorem ZP (l:List Dir) (k:Nat) (h:k<l.length):yG (l.take (k+1))=yG (l.take k)++[l[k].1]:=by
 unfold yG;rw [List.take_succ_eq_append_getElem h,List.map_append];rfl
theorem Q7 (l:List Dir) (k:Nat) (h:k<l.length) (hf:(yq (l.take k) l[k].1).isSome=true):¬ (yG l).Nodup:=by
 intro hn;rw [kU] at hf;have e:yG l=yG (l.take k)++yG (l.drop k):=by unfold yG;rw [←List.map_append,List.take_append_drop]
 rw [e,List.nodup_append] at hn;have:l[k].1∈yG (l.drop k):=List.mem_map.2 ⟨l[k],by rw [List.drop_eq_getElem_cons h];exact List.mem_cons_self,rfl⟩;exact hn.2.2 _ hf _ this rfl
theorem XG (l:List Dir) (k:Nat) (h:k<l.length) (hn:(yG (l.take k)).Nodup) (hf:(yq (l.take k) l[k].1).isSome=false):(yG (l.take (k+1))).Nodup:=by
 rw [ZP l k h,List.nodup_append];rw [kV] at hf;refine ⟨hn,by simp,fun a ha b hb=> ?_⟩;simp only [List.mem_singleton] at hb;subst hb;exact fun e=>hf (e▸ha)
def YQ (l:List Dir):Prop:=∀ d∈l,d.2.2=false→d.2.1=[]
theorem elemI_bare' (l:Bs) (i:Nat) (p:Dir × Nat) (h:uk l i=some p):p.1.2.2=false→p.1.2.1=[]:=by
 by_cases ht:i<zm l i
 ·by_cases he:atN l (zn l (zm l i))=61
  ·rw [pC l i ht he,Option.map_eq_some_iff] at h;obtain ⟨q,_,rfl⟩:=h;simp
  rw [qj l i ht he] at h;simp only [Option.some.injEq] at h;subst h;simp
 rw [kX l i ht] at h;simp at h
theorem tD (l:Bs):∀ (n i:Nat) (acc:List Dir),l.length - i≤n→YQ acc→YQ (parseI l i acc).1
 | n,i,acc,hn,ha=>by
  rw [tC];have hge:=x7 l i;have hid:=vx l i;have hnil:YQ []:=fun d hd=>by cases hd
  by_cases hl:zn l i<l.length
  ·match n,hn with
   | 0,hn=>omega
   | n+1,hn =>
   by_cases h59:atN l (zn l i)=59
   ·rw [sm l _ acc h59];exact tD l n _ acc (by omega) ha
   by_cases h32:acc.length=32
   ·rw [tA l _ acc hid hl h59 h32];exact hnil
   cases he:wN l (zn l i) with
   | none=>rw [so l _ acc hid hl h59 h32 he];exact hnil
   | some p =>
    rw [sl l _ acc p hid hl h59 h32 he];have hi:=(ri l _ p he).1;have hb:=uE l _ p.1 p.2 (by omega) hi;refine tD l n _ _ (by omega) (fun d hd=> ?_);rcases List.mem_append.1 hd with h | h
    ·exact ha d h
    simp only [List.mem_singleton] at h;subst h;exact elemI_bare' l _ p hi
  rw [rQ l _ acc (by omega)];exact ha
theorem cQ (l:Bs):YQ (wb l).1:=by
 by_cases h:4096<l.length
 ·rw [sr l h];exact fun d hd=>by cases hd
 rw [tE l h];exact tD l l.length 0 [] (by omega) (fun d hd=>by cases hd)
theorem X0 (l:List Dir) (n:Bs) (hb:YQ l) (h:(wO (yq l n)).2.2=false):(wO (yq l n)).2.1=[]:=by
 unfold wO at h ⊢;cases hf:yq l n with
 | none=>rfl
 | some d =>
  rw [hf] at h;exact hb d (List.mem_of_find?_eq_some hf) h
end Hs
namespace Go.Proofs.YtbnnlkdhpifpeaaGreatDoor
open Go.RowKit Go.Maps Hs
def dd (d:Dir):DataW Unit:= .agg [.lit (.string d.1),.lit (.string d.2.1),.lit (.bool d.2.2)]
def vO (v:Value):Option (DataW Unit × List MemPlace):=match v with
 | .agg cs=>(match cs.toList with
  | [.string a,.string b,.bool h]=>some (.agg [.lit (.string a.data.toList),.lit (.string b.data.toList),.lit (.bool h)],[])
  | _=>none)
 | _=>none
theorem k6 (d:Dir):vO (.agg #[.string (mk d.1),.string (mk d.2.1),.bool d.2.2])=some (dd d,[]):=by
 have e1:(mk d.1).data.toList=d.1:=zk d.1;have e2:(mk d.2.1).data.toList=d.2.1:=zk d.2.1;simp [vO,dd,e1,e2]
theorem YB {v:Value} {d:Dir} {ps:List MemPlace} (h:vO v=some (dd d,ps)):v= .agg #[.string (mk d.1),.string (mk d.2.1),.bool d.2.2]:=by
 unfold vO at h;split at h
 ·rename_i cs;split at h
  ·rename_i a b c hcs;simp only [dd,Option.some.injEq,Prod.mk.injEq,DataW.agg.injEq,List.cons.injEq,DataW.lit.injEq,Lit.string.injEq,Lit.bool.injEq,and_true] at h;obtain ⟨⟨h1,h2,h3⟩,_⟩:=h;have e1:a=mk d.1:=by rw [←h1];exact (x8 a).symm
   have e2:b=mk d.2.1:=by rw [←h2];exact (x8 b).symm
   have e3:cs=#[.string a,.string b,.bool c]:=by cases cs;simp at hcs;rw [hcs]
   rw [e3,e1,e2,h3]
  cases h
 cases h
def qH:List Dir→DataW Unit:=fun l=>l.foldl (fun D d=>D.put (.string d.1) (dd d)) (.map [])
theorem dD (l:List Dir) (d:Dir):qH (l++[d])=(qH l).put (.string d.1) (dd d):=by simp [qH,List.foldl_append]
theorem kM (n:Bs):WideAt.IsKeyLit (.string n):=by trivial
theorem dC (l:List Dir):Tidy (qH l):=by
 have:∀ (l:List Dir) (D:DataW Unit),Tidy D→Tidy (l.foldl (fun D d=>D.put (.string d.1) (dd d)) D):=by
  intro l
  induction l with
  | nil=>intro D h;exact h
  | cons d l ih=>intro D h;exact ih _ (h.put (kM _) _)
 exact this l _ tidy_empty
theorem ZV (n:Bs):∀ l:List Dir,(yG l.reverse).Nodup→has (qH l.reverse) (.string n)=(yq l.reverse n).isSome∧(qH l.reverse).atKey (.string n) (dd ([],[],false))=dd (wO (yq l.reverse n))
 | [],_=>⟨rfl,rfl⟩
 | d::l,hn=>by
  rw [List.reverse_cons] at hn ⊢;have ih0:=ZV n l;generalize l.reverse=l at *;have hn':(yG l).Nodup∧d.1∉yG l:=by
   unfold yG at hn ⊢;rw [List.map_append,List.nodup_append] at hn;refine ⟨hn.1,fun h=> ?_⟩;exact hn.2.2 _ h _ (by simp) rfl
  have ih:=ih0 hn'.1;rw [dD,XZ];by_cases hd:d.1=n
  ·subst hd;have hf:(yq l d.1).isSome=false:=(kV l d.1).2 hn'.2;rw [has_put_same (dC l).isMap (kM _),atKey_put_same (dC l).isMap (kM _),hf];simp [wO]
  have hne:(Lit.string n)≠(Lit.string d.1):=fun e=>by
   simp only [Lit.string.injEq] at e;exact hd e.symm
  rw [has_put_other hne,atKey_put_other hne,ih.1,ih.2];cases hf:yq l n with
  | some x=>simp
  | none=>simp [hd,wO]
theorem Uu (l:List Dir) (n:Bs) (h:(yG l).Nodup):has (qH l) (.string n)=(yq l n).isSome∧(qH l).atKey (.string n) (dd ([],[],false))=dd (wO (yq l n)):=by
 have:=ZV n l.reverse;rw [List.reverse_reverse] at this;exact this h
theorem WY:Keyed Tryz.prog 9:=string_keyed Tryz.underlying9
theorem U6 (w:World):(zeroValue 177).run Tryz.prog w= .ok (.agg #[.string ⟨#[]⟩,.string ⟨#[]⟩,.bool false]) w:=by kernel_rfl
theorem xP {w:World} {ops:Array Oper} {rest:List Oper} {o:Oper} {a:Act} {Q:Exit→Act→World→Prop} (hg:o.guard=none) (m x:Operand) (hop:o.op=Op.lookup 175 m x true)
  (b n:Nat) (l:List Dir) (hm:a.eval m= .map (some b)) (hown:w.ownsMap Tryz.prog 9 vO b n (qH l)) (hn:(yG l).Nodup) (s:ByteArray) (hx:a.eval x= .string s) (hs:s.size≤maxLen) (d0:Dir) (ok:Bool) (hd:wO (yq l (un s))=d0) (hok:(yq l (un s)).isSome=ok)
  (hK:wpList Tryz.prog ops Q rest (a.put o.dst (.tuple #[.agg #[.string (mk d0.1),.string (mk d0.2.1),.bool d0.2.2],.bool ok])) w):wpList Tryz.prog ops Q (o::rest) a w:=by
 have hf:=Uu l (un s) hn;refine wpList_lookup_own_ok w hg m x _ hop 9 177 WY Tryz.underlying175 vO (U6 w) (dd ([],[],false)) [] (k6 ([],[],false)) b n (qH l) hm hown (.string s) (.string (un s)) hx (WideMaps.keyOf_string_mk Tryz.underlying9 hs) (fun v ps hv=> ?_);rw [hf.2,hd] at hv;rw [YB hv,hf.1,hok];exact hK
end Go.Proofs.YtbnnlkdhpifpeaaGreatDoor
namespace Go.Proofs.YtbnnlkdhpifpeaaGreatDoor
open Go.RowKit Hs
theorem QL:(Tryz.prog.info? 365).map (·.size)=some 2:=by kernel_rfl
theorem Py:liesAt Tryz.prog Tryz.prog.depth 365 (2 / Tryz.prog.cellsOf 365) 0 365 1=true:=by kernel_rfl
theorem U2:(Tryz.prog.info? 5).map (fun i=>(i.zero,i.size,i.bytes))=some (some (.int .u8 0),1,1):=by kernel_rfl
set_option maxHeartbeats 1000000
set_option maxRecDepth 100000
theorem pH (b:Nat) (w:World) (h0:w.cell? ⟨b,0,none⟩=some (.pointer (some ⟨b,0,none⟩))) :
  Calls Tryz.prog 320 #[.pointer (some ⟨b,0,none⟩)] w fun e w'=>e= .returned (.tuple #[])∧w'=w:=by
 obtain ⟨j,hj,_⟩:=Option.map_eq_some_iff.1 QL;go_enter Tryz.func320,Tryz.ntmps320
 go_wp2;rw [Lib.run_neq_ptr_same w _ Tryz.underlying363 hj];go_wp2;go_end0
 exact ⟨rfl,rfl⟩
theorem qU (b:Nat) (w:World) (h0:w.cell? ⟨b,0,none⟩=some (.pointer none)) (hsh:w.shape? b=some (365,2)) (hfz:w.frozen? ⟨b,0,none⟩=false) :
  Calls Tryz.prog 320 #[.pointer (some ⟨b,0,none⟩)] w fun e w'=>e= .returned (.tuple #[])∧w'=w.setCell ⟨b,0,none⟩ (.pointer (some ⟨b,0,none⟩)):=by
 obtain ⟨j,hj,hjs⟩:=Option.map_eq_some_iff.1 QL;go_enter Tryz.func320,Tryz.ntmps320
 go_wp2;rw [Lib.run_to_unsafe w ⟨b,0,none⟩ Tryz.underlying363 Tryz.underlying399 hj (by rw [hjs];decide) hsh (Nat.zero_lt_succ 1)];simp only [Result.andThen];rw [Oper.upon_value];go_wp2;rw [run_callFunc_extern Tryz.func334 (by kernel_rfl) (by kernel_rfl) (by kernel_rfl) (e:=Extern.AbiNoEscape.same) (by kernel_rfl)];rw [Lib.run_noEscape];simp only [Result.andThen];rw [Oper.upon_value];go_wp2;rw [Lib.run_from_unsafe w ⟨b,0,none⟩ Tryz.underlying399 Tryz.underlying363 hj hsh Py];simp only [Result.andThen];rw [Oper.upon_value];go_wp2;go_end0
 exact ⟨rfl,rfl⟩
theorem YR (B b:Nat) (bs:List Value) (w:World) (h:Lib.IsBuilder 365 5 B b bs w) :
  Calls Tryz.prog 320 #[.pointer (some ⟨b,0,none⟩)] w fun e w'=>e= .returned (.tuple #[])∧(Lib.BuilderAt 365 5 B b (.pointer (some ⟨b,0,none⟩)) bs w'∧Below B w w'):=by
 rcases h with h | h
 ·refine (qU b w h.cell0 h.shape h.frozen0).mono ?_;rintro e w' ⟨rfl,rfl⟩;exact ⟨rfl,h.used _,(Below.refl B w).setCell (p:=⟨b,0,none⟩) h.1 _⟩
 refine (pH b w h.cell0).mono ?_;rintro e w' ⟨rfl,rfl⟩;exact ⟨rfl,h,Below.refl B _⟩
set_option maxHeartbeats 2000000
theorem jf (B b:Nat) (bs:List Value) (c:Int) (w:World) (h:Lib.IsBuilder 365 5 B b bs w) (hlen:bs.length+1≤140737488355328) (hBw:B≤w.heap.size) :
  Calls Tryz.prog 306 #[.pointer (some ⟨b,0,none⟩),.int .u8 c] w fun e w'=>e= .returned .nilIface∧(Lib.BuilderAt 365 5 B b (.pointer (some ⟨b,0,none⟩)) (bs++[.int .u8 c]) w'∧Below B w w'):=by
 obtain ⟨i0,hi,hz0,hz1,hz2⟩:=info_parts U2;go_enter Tryz.func306,Tryz.ntmps306
 go_wp2_with (go_at_call 320;refine (YR B b bs _ h).mono ?_)
 rintro e w1 ⟨rfl,h1,hb1⟩;obtain ⟨hB,v,hbk,hown,hne⟩:=h1;have c0:w1.cell? ⟨b,0,none⟩=some (.pointer (some ⟨b,0,none⟩)):=by rw [Lib.cell_of_heap hbk];rfl
 have c1:w1.cell? ⟨b,1,none⟩=some v:=by rw [Lib.cell_of_heap hbk];rfl
 go_wp2_with (at_builtin;refine wpList_append_own _ rfl _ _ 34 rfl B 5 i0 (.int .u8 0) 1 1 Tryz.underlying34 hi hz0 hz1 hz2 rfl (by decide) _ _ _ rfl (hown.alloc _) ⟨w1.heap.size,0,none⟩ 1 1 [.int .u8 c] rfl rfl ?c1 ?c2 ?c3 ?c4 ?c5 ?_)
 case c1 =>
  intro j u hj
  match j,hj with
  | 0,hj=>simp at hj;subst hj;simp [Addr.add]
 case c2=>intro u hu;simp at hu;subst hu;rfl
 case c3=>unfold maxLen;omega
 case c4=>omega
 case c5=>have:=hb1.size;simp;omega
 intro v' w2 hown' hgrow _;have hlt:b<w1.heap.size:=by
  rcases Nat.lt_or_ge b w1.heap.size with h' | h'
  ·exact h'
  simp [Array.getElem?_eq_none h'] at hbk
 have hb2:w2.heap[b]? =some (.cells #[.pointer (some ⟨b,0,none⟩),v] 365 (0,0)):=by
  rw [hgrow.block b (by simp;omega) (fun e=>hne e.symm),Lib.alloc_old w1 _ b hlt];exact hbk
 have d0:w2.cell? ⟨b,0,none⟩=some (.pointer (some ⟨b,0,none⟩)):=by rw [Lib.cell_of_heap hb2];rfl
 have d1:w2.cell? ⟨b,1,none⟩=some v:=by rw [Lib.cell_of_heap hb2];rfl
 have f1:w2.frozen? ⟨b,1,none⟩=false:=Lib.frozen_of_heap hb2 1;obtain ⟨g,cap,rfl⟩:∃ g cap,v'= .slice (some ⟨g,0,none⟩) (bs.length+1) cap:=by
  rcases hown'.2 with ⟨_,h0⟩ | ⟨g,cap,cur,hv,_⟩
  ·omega
  exact ⟨g,cap,hv⟩
 go_wp2;go_ret;refine ⟨rfl,?_,?_⟩
 ·exact Lib.BuilderAt.put (T:=365) (e:=5) hB hb2 (bs':=bs++[.int .u8 c]) (by simpa using hown') (by decide)
 exact ((hb1.alloc (by have:=hb1.size;omega) _).grown hgrow (by have:=hb1.size;simp;omega) (fun k hk=>(hown.lt k hk).1)).setCell (p:=⟨b,1,none⟩) hB _
theorem ke (b:UInt8) (n:Int) (h:n=(b.toNat:Int)) (w:World):Calls Tryz.prog 305 #[.int .u8 n] w fun e w'=>e= .returned (.bool (x9 b))∧w=w':=by
 subst h;go_enter Tryz.func305,Tryz.ntmps305
 go_wp2
 all_goals
  go_ret;refine ⟨yH ?_,rfl⟩;first | (refine gb ?_;omega) | (refine qn ?_;omega) | (refine Wj ?_;omega) | (refine qo ?_;omega) | (refine qm ?_;omega)
theorem RG (s:ByteArray) (i:Nat) (w:World) (hs:s.size≤100000000):Calls Tryz.prog 275 #[.string s,.int .i64 i] w fun e w'=>e= .returned (.int .i64 (zm (un s) i))∧w=w':=by
 go_enter Tryz.func275,Tryz.ntmps275
 go_wp2
 skip
 go_loop [1] (fun v=>∃ k:Nat,v= .int .i64 k∧Hid (zm (un s) i=zm (un s) k)) (fun v=>s.size - (intOf v).toNat)
 case atStart=>exact ⟨i,rfl,rfl⟩
 case round =>
  obtain ⟨k,rfl,hk⟩:=hrel;by_cases hlt:k<s.size
  ·cases hb:wh (s[k]'hlt)
   ·have ht:Hid (zm (un s) i=k):=by
     have e:=hk.out;rw [VL (un s) k (by rw [za];exact hlt) hb] at e;exact e
    go_wp2_with (go_at_call 145;refine (vl _ _ rfl _).mono ?_;rintro e w' ⟨rfl,rfl⟩)
    go_ret;exact ⟨xz (by rw [ht.out]),rfl⟩
   have ht:Hid (zm (un s) i=zm (un s) (k+1)):=by
    have e:=hk.out;rw [Y1 (un s) k (by rw [za];exact hlt) hb] at e;exact e
   go_wp2_with (go_at_call 145;refine (vl _ _ rfl _).mono ?_;rintro e w' ⟨rfl,rfl⟩)
   go_round
   case rel=>exact ⟨k+1,by go_num,ht⟩
   case measure=>simp [intOf];omega
  have ht:Hid (zm (un s) i=k):=by
   have e:=hk.out;rw [Y2 (un s) k (by rw [za];omega)] at e;exact e
  go_wp2;go_ret;exact ⟨xz (by rw [ht.out]),rfl⟩
abbrev Zw (r:QRes):Value:= .tuple #[.string (mk r.v),.int .i64 r.n,.int .i64 r.e]
theorem sL (acc:Bs) (b:UInt8):Lib.byteCells acc++[.int .u8 (b.toNat:Int)]=Lib.byteCells (acc++[b]):=by simp [Lib.byteCells]
theorem gt (s:ByteArray) (i:Int) (w:World) (hs:s.size≤100000000) (hi:i<0∨(s.size:Int)<i):Calls Tryz.prog 276 #[.string s,.int .i64 i] w fun e w'=>e= .returned (Zw (yj (un s) i))∧Below w.heap.size w w':=by
 have hr:Hid (yj (un s) i=⟨[],0,2⟩):=if_pos (by rw [za];exact hi);rcases hi with hi | hi
 all_goals
  go_enter Tryz.func276,Tryz.ntmps276
  go_wp2;go_step3;go_wp2
  all_goals try omega
  (try rw [Exit.noGoto_ret])
  go_ret3
  exact ⟨by rw [hr.out];rfl,Below.refl _ _⟩
theorem Zx (s:ByteArray) (i:Nat) (w:World) (hs:s.size≤100000000) (hi:i≤s.size) (hq:∀ h:i<s.size,(s[i]'h).toNat≠34):Calls Tryz.prog 276 #[.string s,.int .i64 i] w fun e w'=>e= .returned (Zw (yj (un s) i))∧Below w.heap.size w w':=by
 have hr:Hid (yj (un s) i=⟨[],0,4⟩):=kw _ _ (by rw [za];exact hi) (fun h=>hq (by rw [za] at h;exact h));by_cases he:i<s.size
 ·have hn:=hq he;have hn':((s[i]'he).toNat:Int)≠34:=by omega
  clear hq hn;go_enter Tryz.func276,Tryz.ntmps276
  go_wp2;go_step3;go_wp2
  all_goals try omega
  (try rw [Exit.noGoto_ret])
  go_ret3
  exact ⟨by rw [hr.out];rfl,Below.refl _ _⟩
 clear hq;obtain rfl:i=s.size:=by omega
 go_enter Tryz.func276,Tryz.ntmps276
 go_wp2;go_step3;go_wp2
 all_goals try omega
 (try rw [Exit.noGoto_ret])
 go_ret3
 exact ⟨by rw [hr.out];rfl,Below.refl _ _⟩
set_option maxHeartbeats 4000000
theorem gu (s:ByteArray) (i:Nat) (w:World) (hs:s.size≤100000000) (hi:i<s.size) (hq:(s[i]'hi).toNat=34):Calls Tryz.prog 276 #[.string s,.int .i64 i] w fun e w'=>e= .returned (Zw (yj (un s) i))∧Below w.heap.size w w':=by
 have hr:=qA (un s) i (by rw [za];exact hi) hq;obtain ⟨R,hR⟩:=KZ6 (yj (un s) i);rw [←hR] at hr ⊢;have HR:=KZ9 hr.symm;have hq':(((s[i]'hi).toNat:Int) != 34)=false:=by simp;omega
 clear hr hR hq;go_enter Tryz.func276,Tryz.ntmps276
 go_wp2;go_step3;go_wp2
 all_goals try omega
 go_step3;go_wp2;go_loopw [8,9] (fun ev kv wr=>∃ (k:Nat) (acc:Bs) (esc:Bool),ev= .bool esc∧kv= .int .i64 k∧k≤s.size∧acc.length≤k∧Lib.IsBuilder 365 5 w.heap.size w.heap.size (Lib.byteCells acc) wr∧Below w.heap.size w wr∧Hid (xg ((un s).drop k) esc acc k=R)) (fun _ kv _=>s.size - (intOf kv).toNat)
 case atStart=>exact ⟨i+1,[],false,rfl,by go_num,by omega,by simp,Lib.fresh_isBuilder _ _ _,(Below.refl _ _).alloc (Nat.le_refl _) _,HR.out⟩
 case round =>
  obtain ⟨k,acc,esc,rfl,rfl,hk,hacc,hbu,hnx,hsc⟩:=hrel;have hsize:=hnx.size;by_cases hlt:k<s.size
  ·have hd:(un s).drop k=s[k]'hlt::(un s).drop (k+1):=List.drop_eq_getElem_cons (by rw [za];exact hlt);have hsc':Hid (xg (s[k]'hlt::(un s).drop (k+1)) esc acc k=R):=by
    have e:=hsc.out;rw [hd] at e;exact e
   clear hsc hd;cases ht:x9 (s[k]'hlt)
   ·have hfin:Hid (R=⟨[],0,4⟩):=by rw [←hsc'.out,VW _ _ _ _ _ ht];rfl
    go_wp2_with (go_at_call 305;refine (ke _ _ rfl _).mono ?_;rintro e w' ⟨rfl,rfl⟩)
    (try rw [Exit.noGoto_ret])
    go_ret3
    exact ⟨by rw [hfin.out];rfl,hnx⟩
   cases esc
   ·by_cases h92:((s[k]'hlt).toNat:Int)=92
    ·have hst:Hid (xg ((un s).drop (k+1)) true acc (k+1)=R):=by rw [←hsc'.out,Xg _ _ _ _ (by omega)];rfl
     have h92':(((s[k]'hlt).toNat:Int)==92)=true:=by simp;omega
     clear h92;go_wp2_with (go_at_call 305;refine (ke _ _ rfl _).mono ?_;rintro e w' ⟨rfl,rfl⟩)
     go_roundw
     case rel=>exact ⟨k+1,acc,true,rfl,by go_num,by omega,by omega,hbu,hnx,hst⟩
     case measure=>simp [intOf];omega
    by_cases h34:((s[k]'hlt).toNat:Int)=34
    ·have hfin:Hid (R=⟨acc,k+1,0⟩):=by rw [←hsc'.out,VV _ _ _ _ (by omega)];rfl
     have h34':(((s[k]'hlt).toNat:Int)==34)=true:=by simp;omega
     clear h34;go_wp2_with (first | (go_at_call 305;refine (ke _ _ rfl _).mono ?_;rintro e w' ⟨rfl,rfl⟩) | (go_at_call 303;refine (Tryz.Builder_String_any w.heap.size w.heap.size acc _ hbu (by omega)).mono ?_;rintro e w1 ⟨rfl,hb1⟩))
     (try rw [Exit.noGoto_ret])
     go_ret3
     exact ⟨by rw [hfin.out];rfl,hnx.trans hb1⟩
    have hst:Hid (xg ((un s).drop (k+1)) false (acc++[s[k]'hlt]) (k+1)=R):=by rw [←hsc'.out,Xf _ _ _ _ ht (by omega) (by omega)];rfl
    skip
    go_wp2_with (first | (go_at_call 305;refine (ke _ _ rfl _).mono ?_;rintro e w' ⟨rfl,rfl⟩) | (go_at_call 306;refine (jf w.heap.size w.heap.size (Lib.byteCells acc) _ _ hbu (by simp [Lib.byteCells];omega) (by have:=hnx.size;omega)).mono ?_;rintro e w1 ⟨rfl,hbu1,hb1⟩))
    go_roundw
    case rel =>
     refine ⟨k+1,acc++[s[k]'hlt],false,rfl,by go_num,by omega,by simp;omega,?_,hnx.trans hb1,hst⟩;rw [←sL];exact .inr hbu1
    case measure=>simp [intOf];omega
   have hst:Hid (xg ((un s).drop (k+1)) false (acc++[s[k]'hlt]) (k+1)=R):=by rw [←hsc'.out,VU _ _ _ _ ht];rfl
   skip
   go_wp2_with (first | (go_at_call 305;refine (ke _ _ rfl _).mono ?_;rintro e w' ⟨rfl,rfl⟩) | (go_at_call 306;refine (jf w.heap.size w.heap.size (Lib.byteCells acc) _ _ hbu (by simp [Lib.byteCells];omega) (by have:=hnx.size;omega)).mono ?_;rintro e w1 ⟨rfl,hbu1,hb1⟩))
   go_roundw
   case rel =>
    refine ⟨k+1,acc++[s[k]'hlt],false,rfl,by go_num,by omega,by simp;omega,?_,hnx.trans hb1,hst⟩;rw [←sL];exact .inr hbu1
   case measure=>simp [intOf];omega
  have hfin:Hid (R=⟨[],0,5⟩):=by
   have e:=hsc.out;rw [List.drop_eq_nil_of_le (by rw [za];omega)] at e;rw [←e];rfl
  go_wp2
  (try rw [Exit.noGoto_ret])
  go_ret3
  exact ⟨by rw [hfin.out];rfl,hnx⟩
theorem WI (s:ByteArray) (i:Int) (w:World) (hs:s.size≤100000000):Calls Tryz.prog 276 #[.string s,.int .i64 i] w fun e w'=>e= .returned (Zw (yj (un s) i))∧Below w.heap.size w w':=by
 by_cases hr:i<0∨(s.size:Int)<i
 ·exact gt s i w hs hr
 obtain ⟨n,rfl⟩:=Int.eq_ofNat_of_zero_le (show 0≤i by omega);by_cases hq:∃ h:n<s.size,(s[n]'h).toNat=34
 ·obtain ⟨h,hq⟩:=hq;exact gu s n w hs h hq
 exact Zx s n w hs (by omega) (fun h e=>hq ⟨h,e⟩)
def PAt (w:World) (g:Nat) (s:ByteArray) (i:Nat):Prop:=w.heap[g]? =some (.cells #[.string s,.int .i64 (i:Int)] 244 (0,0))
theorem PAt.lt {w:World} {g:Nat} {s:ByteArray} {i:Nat} (h:PAt w g s i):g<w.heap.size:=(Array.getElem?_eq_some_iff.1 h).1
theorem PAt.c0 {w:World} {g:Nat} {s:ByteArray} {i:Nat} (h:PAt w g s i):w.cell? ⟨g,0,none⟩=some (.string s):=by unfold PAt at h;simp [World.cell?,h]
theorem PAt.c1 {w:World} {g:Nat} {s:ByteArray} {i:Nat} (h:PAt w g s i):w.cell? ⟨g,1,none⟩=some (.int .i64 (i:Int)):=by unfold PAt at h;simp [World.cell?,h]
theorem PAt.f1 {w:World} {g:Nat} {s:ByteArray} {i:Nat} (h:PAt w g s i):w.frozen? ⟨g,1,none⟩=false:=by unfold PAt at h;simp [World.frozen?,h]
theorem PAt.set {w:World} {g:Nat} {s:ByteArray} {i:Nat} (h:PAt w g s i) (k:Nat):PAt (w.setCell ⟨g,1,none⟩ (.int .i64 (k:Int))) g s k:=by
 have hlt:=h.lt;have h':w.heap[g]= .cells #[.string s,.int .i64 (i:Int)] 244 (0,0):=by simpa [PAt,Array.getElem?_eq_getElem hlt] using h
 unfold PAt;show (w.heap.modify g _)[g]? =_;rw [Array.getElem?_eq_getElem (by simpa using hlt),Array.getElem_modify_self,h'];rfl
theorem zu {a w w':World} {row:Option Nat} (h:a.grownBy w row) (k:w.grownBy w' row):a.grownBy w' row :=
 ⟨k.os.trans h.os,k.tape.trans h.tape,k.output.trans h.output,Nat.le_trans h.size k.size,fun j hj hne=>(k.block j (Nat.lt_of_lt_of_le hj h.size) hne).trans (h.block j hj hne)⟩
theorem grown_setCell (w:World) (g j:Nat) (v:Value):w.grownBy (w.setCell ⟨g,j,none⟩ v) (some g) :=
 ⟨rfl,rfl,rfl,by simp,fun k _ hk=>Below.heap_setCell w ⟨g,j,none⟩ v k (fun e=>hk (by simp [e]))⟩
theorem xV (w:World) (row:Option Nat):w.grownBy w row:=⟨rfl,rfl,rfl,Nat.le_refl _,fun _ _ _=>rfl⟩
theorem xy {a w w':World} {row:Option Nat} (h:a.grownBy w row) (hb:Below w.heap.size w w'):a.grownBy w' row :=
 zu h ⟨hb.os,hb.tape,hb.output,hb.size,fun k hk _=>hb.block k hk⟩
theorem PAt.below {w w':World} {g:Nat} {s:ByteArray} {i:Nat} (h:PAt w g s i) (hb:Below w.heap.size w w'):PAt w' g s i:=(hb.block g h.lt).trans h
theorem PAt.alloc {w:World} {g:Nat} {s:ByteArray} {i:Nat} (h:PAt w g s i) (o:Obj):PAt (w.alloc o) g s i:=(Below.heap_alloc w o g h.lt).trans h
theorem yv {a w:World} {row:Option Nat} (h:a.grownBy w row) (o:Obj):a.grownBy (w.alloc o) row :=
 ⟨h.os,h.tape,h.output,by have:=h.size;simp;omega,fun k hk hn=>(Below.heap_alloc w o k (by have:=h.size;omega)).trans (h.block k hk hn)⟩
theorem zM {a w:World} {row:Option Nat} (h:a.grownBy w row) {b:Nat} (hb:a.heap.size≤b) (j:Nat) (v:Value):a.grownBy (w.setCell ⟨b,j,none⟩ v) row :=
 ⟨h.os,h.tape,h.output,by have:=h.size;simpa using this,fun k hk hn=>(Below.heap_setCell w ⟨b,j,none⟩ v k (fun e=>by have:k=b:=e;omega)).trans (h.block k hk hn)⟩
theorem PAt.grown {w w':World} {g:Nat} {s:ByteArray} {i:Nat} {row:Option Nat} (h:PAt w g s i) (hg:w.grownBy w' row) (hn:some g≠row):PAt w' g s i:=(hg.block g h.lt hn).trans h
theorem PAt.other {w:World} {g:Nat} {s:ByteArray} {i:Nat} (h:PAt w g s i) {p:Nat} (hp:g≠p) (j:Nat) (v:Value):PAt (w.setCell ⟨p,j,none⟩ v) g s i:=(Below.heap_setCell w ⟨p,j,none⟩ v g hp).trans h
theorem ym {a w:World} {row:Option Nat} (h:a.grownBy w row) (n:Nat):a.grownBy (w.drewN n) row:=⟨h.os,h.tape,h.output,h.size,h.block⟩
theorem PAt.drewN {w:World} {g:Nat} {s:ByteArray} {i:Nat} (h:PAt w g s i) (n:Nat):PAt (w.drewN n) g s i:=h
theorem xt (g:Nat) (s:ByteArray) (i:Nat) (w:World) (hp:PAt w g s i) (hi:i≤s.size) (hs:s.size≤100000000):Calls Tryz.prog 149 #[.pointer (some ⟨g,0,none⟩)] w fun e w'=>e= .returned (.tuple #[])∧PAt w' g s (zn (un s) i)∧w.grownBy w' (some g):=by
 go_enter Tryz.func149,Tryz.ntmps149
 go_wp2;go_loopg [] (s.size - i) (fun m wr=>∃ k:Nat,k≤s.size∧m=s.size - k∧PAt wr g s k∧w.grownBy wr (some g)∧Hid (zn (un s) i=zn (un s) k))
 case atStart=>exact ⟨i,hi,by omega,hp,xV _ _,rfl⟩
 case round =>
  obtain ⟨k,hk,rfl,hpk,hgr,hbl⟩:=hrel;have c0:=hpk.c0;have c1:=hpk.c1;have f1:=hpk.f1;by_cases hlt:k<s.size
  ·cases hb:yM (s[k]'hlt)
   ·have hfin:=KZ9 (hbl.out.trans (pG (un s) k (by rw [za];exact hlt) hb));clear hbl;go_wp2;go_quiet ((go_at_call 146;exact Calls.quiet_of_same ((yS _ _ rfl _).mono (fun _ _ h=>⟨h.1,h.2.symm⟩))))
    go_wp2;go_end0
    refine ⟨rfl,?_,ym hgr _⟩;rw [hfin.out];exact hpk.drewN _
   have hst:=KZ9 (hbl.out.trans (Wh (un s) k (by rw [za];exact hlt) hb));clear hbl;go_wp2;go_quiet ((go_at_call 146;exact Calls.quiet_of_same ((yS _ _ rfl _).mono (fun _ _ h=>⟨h.1,h.2.symm⟩))))
   go_wp2;go_roundg (s.size - (k+1))
   case measure=>omega
   case rel=>exact ⟨k+1,by omega,rfl,(hpk.drewN _).set (k+1),zu (ym hgr _) (grown_setCell _ _ _ _),hst⟩
  obtain rfl:k=s.size:=by omega
  have hfin:=KZ9 (hbl.out.trans (tZ (un s) s.size (by rw [za];exact Nat.le_refl _)));clear hbl;go_wp2;go_quiet (fail)
  go_wp2;go_end0
  refine ⟨rfl,?_,ym hgr _⟩;rw [hfin.out];exact hpk.drewN _
theorem XB (g:Nat) (s:ByteArray) (i:Nat) (n:Nat) (w:World) (hp:PAt w g s i) (hi:i≤s.size) (hs:s.size≤100000000) (hn:n<256):Calls Tryz.prog 215 #[.pointer (some ⟨g,0,none⟩),.int .u8 (n:Int)] w fun e w'=>e= .returned (.bool (decide (atN (un s) i=n)))∧∃ m,w'=w.drewN m:=by
 have c0:=hp.c0;have c1:=hp.c1;by_cases hlt:i<s.size
 ·have ha:=KZ9 (S4 s i hlt);go_enter Tryz.func215,Tryz.ntmps215
  go_wp2;go_quiet (fail)
  go_wp2;go_ret;refine ⟨yH ?_,_,rfl⟩;rw [ha.out];first | (refine gb ?_;omega) | (refine qn ?_;omega) | (refine Wj ?_;omega) | (refine qo ?_;omega) | (refine qm ?_;omega)
 obtain rfl:i=s.size:=by omega
 have ha:=KZ9 (bN (un s) s.size (by rw [za];exact Nat.le_refl _));go_enter Tryz.func215,Tryz.ntmps215
 go_wp2;go_quiet (fail)
 go_wp2;go_ret;refine ⟨yH ?_,_,rfl⟩;rw [ha.out];first | (refine gb ?_;omega) | (refine qn ?_;omega) | (refine Wj ?_;omega) | (refine qo ?_;omega) | (refine qm ?_;omega)
theorem Um (g:Nat) (s:ByteArray) (i:Nat) (n:Nat) (w:World) (hp:PAt w g s i) (hi:i≤s.size) (hs:s.size≤100000000) (hn:n<256):Calls Tryz.prog 215 #[.pointer (some ⟨g,0,none⟩),.int .u8 (n:Int)] w fun e w'=>e= .returned (.bool (decide (atN (un s) i=n)))∧PAt w' g s i∧w.grownBy w' (some g):=by
 refine (XB g s i n w hp hi hs hn).mono ?_;rintro e w' ⟨rfl,m,rfl⟩;exact ⟨rfl,hp.drewN _,ym (xV _ _) _⟩
theorem uV (g:Nat) (s:ByteArray) (i:Nat) (n:Nat) (w:World) (hp:PAt w g s i) (hi:i≤s.size) (hs:s.size≤100000000) (hn:n<256):Calls Tryz.prog 150 #[.pointer (some ⟨g,0,none⟩),.int .u8 (n:Int)] w fun e w'=>e= .returned (.bool (decide (atN (un s) i=n)))∧PAt w' g s (if atN (un s) i=n then i+1 else i)∧w.grownBy w' (some g):=by
 have c0:=hp.c0;have c1:=hp.c1;by_cases ha:atN (un s) i=n
 ·have hd:decide (atN (un s) i=n)=true:=KZ7 ha;have hlt:i<s.size:=by have:=gj (un s) i (by omega);rwa [za] at this
  have he:(if atN (un s) i=n then i+1 else i)=i+1:=if_pos ha;rw [hd,he];have HD:=KZ9 hd;clear hd he ha;go_enter Tryz.func150,Tryz.ntmps150
  go_wp2_with fail
  refine (Um g s i n _ hp hi hs hn).mono ?_;rintro e w1 ⟨rfl,hp1,hg1⟩;rw [HD.out];have d0:=hp1.c0;have d1:=hp1.c1;have df:=hp1.f1;go_wp2_with fail
  go_ret;exact ⟨rfl,hp1.set (i+1),zu hg1 (grown_setCell _ _ _ _)⟩
 have hd:decide (atN (un s) i=n)=false:=KZ8 ha;have he:(if atN (un s) i=n then i+1 else i)=i:=if_neg ha;rw [hd,he];have HD:=KZ9 hd;clear hd he ha;go_enter Tryz.func150,Tryz.ntmps150
 go_wp2_with fail
 refine (Um g s i n _ hp hi hs hn).mono ?_;rintro e w1 ⟨rfl,hp1,hg1⟩;rw [HD.out];go_wp2_with fail
 go_ret;exact ⟨rfl,hp1,hg1⟩
theorem uw (g:Nat) (s:ByteArray) (i:Nat) (w:World) (hp:PAt w g s i) (hi:i≤s.size) (hs:s.size≤100000000):Calls Tryz.prog 216 #[.pointer (some ⟨g,0,none⟩)] w fun e w'=>e= .returned (.tuple #[.string (mk (seg (un s) i (zm (un s) i))),.bool (decide (i<zm (un s) i))])∧PAt w' g s (zm (un s) i)∧w.grownBy w' (some g):=by
 have c0:=hp.c0;have c1:=hp.c1;have f1:=hp.f1;have hge:=sV (un s) i;have hle:=sU (un s) i (by rw [za];exact hi);rw [za] at hle;have ex:=KZ9 (yQ s i (zm (un s) i));obtain ⟨n,hn⟩:=KZ6 (zm (un s) i);rw [←hn] at hge hle ex ⊢;have HN:=KZ9 hn;clear hn;go_enter Tryz.func216,Tryz.ntmps216
 go_wp2_with fail
 refine (RG s i _ hs).mono ?_;rintro e w' ⟨rfl,rfl⟩;rw [←HN.out];go_wp2_with fail
 go_quiet (fail)
 go_wp2;go_ret2;refine ⟨?_,(hp.set n).drewN _,ym (grown_setCell _ _ _ _) _⟩;rw [ex.out];by_cases h:i<n
 ·rw [KZ7 h];rfl
 rw [KZ8 h];rfl
def bS (o:Option (Bs × Nat)):Value:=match o with
 | some p=> .tuple #[.string (mk p.1),.bool true]
 | none=> .tuple #[.string ByteArray.empty,.bool false]
def vat (o:Option (Bs × Nat)) (i:Nat):Nat:=match o with
 | some p=>p.2
 | none=>i
theorem cS (g:Nat) (s:ByteArray) (i:Nat) (w:World) (hp:PAt w g s i) (hi:i≤s.size) (hs:s.size≤100000000):Calls Tryz.prog 217 #[.pointer (some ⟨g,0,none⟩)] w fun e w'=>e= .returned (bS (t6 (un s) i))∧PAt w' g s (vat (t6 (un s) i) i)∧w.grownBy w' (some g):=by
 by_cases hq:atN (un s) i=34
 ·have hd:=KZ9 (KZ7 hq);by_cases he:(yj (un s) i).e=0
  ·have hv:=KZ9 (YY (un s) i hq he);have hqv:Hid (Zw (yj (un s) i)= .tuple #[.string (mk (yj (un s) i).v),.int .i64 ((yj (un s) i).n:Int),.int .i64 0]):=KZ9 (by unfold Zw;rw [he]);clear hq he;rw [hv.out];simp only [bS,vat];obtain ⟨n,hn⟩:=KZ6 ((yj (un s) i).n);obtain ⟨v,hvv⟩:=KZ6 ((yj (un s) i).v);rw [←hn,←hvv] at hqv ⊢;have hc:Hid (∀ W:World,Calls Tryz.prog 276 #[.string s,.int .i64 (i:Int)] W fun e w'=>e= .returned (.tuple #[.string (mk v),.int .i64 (n:Int),.int .i64 0])∧Below W.heap.size W w'):=KZ9 fun W=>by
    have:=WI s i W hs;rw [hqv.out] at this;exact this
   clear hqv hv hn hvv;go_enter Tryz.func217,Tryz.ntmps217
   go_wp2_with fail
   refine (Um g s i 34 _ hp hi hs (by decide)).mono ?_;rintro e w1 ⟨rfl,hp1,hg1⟩;rw [hd.out];have d0:=hp1.c0;have d1:=hp1.c1;go_wp2_with fail
   go_region_with (go_at_call 276;refine (hc.out _).mono ?_;rintro e w2 ⟨rfl,hb2⟩;have hp2:PAt _ g s i:=PAt.below (by exact hp1) hb2)
   all_goals
    have k1:=hp2.c1;have kf:=hp2.f1;go_wp2;go_ret2;exact ⟨rfl,hp2.set n,zu (xy (by first | exact hg1 | exact ym hg1 1) hb2) (grown_setCell _ _ _ _)⟩
  have hv:=KZ9 (Tf (un s) i hq he);obtain ⟨q,hqq⟩:=KZ6 (yj (un s) i);have hne:q.e≠0:=by rw [hqq];exact he
  have hqv:Hid (Zw (yj (un s) i)= .tuple #[.string (mk q.v),.int .i64 (q.n:Int),.int .i64 q.e]):=KZ9 (by rw [hqq,Zw]);clear hq he hqq;rw [hv.out];simp only [bS,vat];obtain ⟨z,hz⟩:=KZ6 q.e;obtain ⟨n,hn⟩:=KZ6 q.n;obtain ⟨v,hvv⟩:=KZ6 q.v;rw [←hz,←hn,←hvv] at hqv;rw [←hz] at hne;have hc:Hid (∀ W:World,Calls Tryz.prog 276 #[.string s,.int .i64 (i:Int)] W fun e w'=>e= .returned (.tuple #[.string (mk v),.int .i64 (n:Int),.int .i64 z])∧Below W.heap.size W w'):=KZ9 fun W=>by
   have:=WI s i W hs;rw [hqv.out] at this;exact this
  clear hqv hv hn hvv hz;go_enter Tryz.func217,Tryz.ntmps217
  go_wp2_with fail
  refine (Um g s i 34 _ hp hi hs (by decide)).mono ?_;rintro e w1 ⟨rfl,hp1,hg1⟩;rw [hd.out];have d0:=hp1.c0;have d1:=hp1.c1;go_wp2_with fail
  go_region_with (go_at_call 276;refine (hc.out _).mono ?_;rintro e w2 ⟨rfl,hb2⟩;have hp2:PAt _ g s i:=PAt.below (by exact hp1) hb2)
  all_goals
   go_wp2;go_ret2;exact ⟨rfl,hp2,xy (by first | exact hg1 | exact ym hg1 1) hb2⟩
 have hd:=KZ9 (KZ8 hq);by_cases ht:i<zm (un s) i
 ·have hv:=KZ9 (Te (un s) i hq ht);have hdt:=KZ9 (KZ7 ht);rw [hv.out];simp only [bS,vat];clear hq ht;go_enter Tryz.func217,Tryz.ntmps217
  go_wp2_with fail
  refine (Um g s i 34 _ hp hi hs (by decide)).mono ?_;rintro e w1 ⟨rfl,hp1,hg1⟩;rw [hd.out];go_wp2_with fail
  refine (uw g s i _ hp1 hi hs).mono ?_;rintro e w2 ⟨rfl,hp2,hg2⟩;rw [hdt.out];go_wp2_with fail
  go_ret2;exact ⟨rfl,hp2,zu hg1 hg2⟩
 have hv:=KZ9 (VB (un s) i hq ht);have hdt:=KZ9 (KZ8 ht);have het:zm (un s) i=i:=by have:=sV (un s) i;omega
 have HET:=KZ9 het;rw [hv.out];simp only [bS,vat];clear hq ht het;go_enter Tryz.func217,Tryz.ntmps217
 go_wp2_with fail
 refine (Um g s i 34 _ hp hi hs (by decide)).mono ?_;rintro e w1 ⟨rfl,hp1,hg1⟩;rw [hd.out];go_wp2_with fail
 refine (uw g s i _ hp1 hi hs).mono ?_;rintro e w2 ⟨rfl,hp2,hg2⟩;rw [hdt.out,HET.out,Zn];rw [HET.out] at hp2;go_wp2_with fail
 go_ret2;exact ⟨rfl,hp2,zu hg1 hg2⟩
end Go.Proofs.YtbnnlkdhpifpeaaGreatDoor
