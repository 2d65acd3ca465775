/- What the proof of TopDecisionTable uses, part Dec15. -/
import Derived.Test.YtjbciamhhfcdoaaGreatDoorDec14
import Derived.Deep.AppendLies
set_option linter.unusedSimpArgs false
set_option linter.unusedVariables false
namespace Go.Proofs.YtjbciamhhfcdoaaGreatDoor
open Go.RowKit Go.Sort Hs
theorem Qh (l:Bs):encStr l= .string (mk l):=rfl
theorem jd {w:World} {base g cap:Nat} {H:List Bs} (ho:w.ownsRow base 9 1 (.slice (some ⟨g,0,none⟩) H.length cap) H.length (zy H)):Holds encStr w g 0 H.toArray:=by
 intro j hj;have hj2:j<H.length:=by simpa using hj
 rw [Nat.zero_add];refine ⟨?_,ho.frozenAt j⟩;rw [ho.cellAt j (by omega)];have e:H.toArray[j]! =H[j]:=by rw [getElem!_pos H.toArray j (by simpa using hj2)];simp
 rw [e];simp [zy,hj2,Qh]
theorem Yb {base:Nat} {w:World} {blk:Nat} (hb:base≤blk) (hs:base≤w.heap.size) (d:Array Bs) (n:Nat) (os:Array Obj):Below base w (grow (putRow encStr (Sort.ahead w n) blk 0 d) os):=by
 refine ⟨rfl,rfl,rfl,?_,fun j hj=> ?_⟩
 ·rw [size_grow,size_putRow];exact Nat.le_add_right _ _
 rw [heap_grow_old _ _ (by rw [size_putRow];show j<w.heap.size;omega)];unfold putRow mapBlock;show (w.heap.modify blk _)[j]? =w.heap[j]?;rw [Array.getElem?_modify,if_neg (by omega)]
theorem Jc (H:List Bs) (hv:Value) (base:Nat) (w:World) (ho:w.ownsRow base 9 1 hv H.length (zy H)) (hbase:base≤w.heap.size) (hl:H.length≤100):Calls Tryz.prog 50 #[hv] w fun e w'=>e= .returned (.tuple #[])∧∃ H':List Bs,H'.length=H.length∧w'.ownsRow base 9 1 hv H'.length (zy H')∧Below base w w':=by
 rcases ho.2 with ⟨rfl,h0⟩ | ⟨g,cap,cur,rfl,hg,hgh,hn,hm,hcs,htk⟩
 ·rw [h0] at ho;refine (Tryz.slices_Sort_string_none none 0 w).mono ?_;rintro e w' ⟨rfl,rfl⟩;exact ⟨rfl,H,rfl,by rw [h0];exact ho,Below.refl _ _⟩
 have hgl:g<w.heap.size:=(Array.getElem?_eq_some_iff.1 hgh).1;refine (Tryz.slices_Sort_string g 0 cap H w (jd ho) hgl (by omega)).mono ?_;rintro e w' ⟨rfl,n,os,rfl⟩;refine ⟨rfl,H.mergeSort fun x y=>decide (x≤y),List.length_mergeSort _,?_,Yb hg hbase _ n os⟩;rw [List.length_mergeSort];exact ownsRow_sorted (List.length_mergeSort _) hg hgh hn hm (by omega)
theorem SN {w w':World} {p:Addr} (h:w'.heap[p.block]? =w.heap[p.block]?):w'.cell? p=w.cell? p:=by
 unfold World.cell?;rw [h]
def JL (base:Nat) (w:World) (v:Value) (l:List Bs):Prop:=(∀ w'',(∀ j,base≤j→w''.heap[j]? =w.heap[j]?)→w''.heap.size=w.heap.size→Strs w'' v l)∧∃ a n c,v= .slice a n c
theorem Q6 (H:List Bs) (hv:Value) (base:Nat) (w:World) (ho:w.ownsRow base 9 1 hv H.length (zy H)) (hbase:base≤w.heap.size) (hl:H.length≤100):Calls Tryz.prog 51 #[hv] w fun e w'=>∃ v' H',e= .returned v'∧JL base w' v' H'∧Below base w w':=by
 rcases ho.2 with ⟨rfl,h0⟩ | ⟨g,cap,cur,rfl,hg,hgh,hn,hm,hcs,htk⟩
 ·refine (Tryz.slices_Compact_string_empty none 0 w).mono ?_;rintro e w' ⟨rfl,rfl⟩;exact ⟨_,[],rfl,⟨fun _ _ _=>Row.nil _ _,_,_,_,rfl⟩,Below.refl _ _⟩
 have hgl:g<w.heap.size:=(Array.getElem?_eq_some_iff.1 hgh).1;have hH:=jd ho;have hlen:(Lib.compact H).length≤H.length:=Lib.compact_length_le H;refine (Tryz.slices_Compact_string g 0 cap H w hH (by omega) hn).mono ?_;rintro e w' ⟨rfl,q,rfl⟩;have hK:Holds encStr (putRow encStr (Sort.ahead w q) g 0 (Lib.compact H++List.replicate (H.length - (Lib.compact H).length) []).toArray) g 0 (Lib.compact H++List.replicate (H.length - (Lib.compact H).length) []).toArray:=holds_putRow encStr (Sort.ahead w q) g 0 H.toArray _ hH (by simp;omega);refine ⟨_,Lib.compact H,rfl,⟨fun w'' h1 h2=>⟨by simp,_,cap,rfl,by omega,hm,.inr ⟨g,0,rfl,by rw [h2,size_putRow];exact hgl,fun j u hj=> ?_⟩⟩,_,_,_,rfl⟩,?_⟩
 ·have hjl:j<(Lib.compact H).length:=by have:=(List.getElem?_eq_some_iff.1 hj).1;simpa [zy] using this
  have:=(hK j (by simp;omega)).1;rw [SN (h1 g hg)];rw [this];rw [←hj];rw [getElem!_pos _ j (by simp;omega)];simp [zy,List.getElem_append_left,hjl,Qh]
 have:=Yb hg hbase (Lib.compact H++List.replicate (H.length - (Lib.compact H).length) []).toArray q #[]
 rwa [grow_empty] at this
end Go.Proofs.YtjbciamhhfcdoaaGreatDoor
namespace Go.Proofs.YtjbciamhhfcdoaaGreatDoor
open Go.RowKit Hs
theorem py {ops:Array Oper} {o:Oper} {a:Act} {w:World} {K:Act→World→Prop} {Q:Exit→Act→World→Prop} {E:Prop} (hgd:o.guard=none) (s x:Operand)
  (ho:o.op= .call { callee:= .builtin .append,args:=#[s,x],argTypes:=#[39,39] })
  (base:Nat) (v:Value) (n:Nat) (xs:List Value) (hs:a.eval s=v) (hown:w.ownsRow base 9 1 v n xs) (xv:Value) (hx:a.eval x=xv) (r:List Bs) (hr:Strs w xv r) (h1:n+r.length≤1000000) (hb:base≤w.heap.size)
  (h:∀ v' w',w'.ownsRow base 9 1 v' (n+r.length) (xs++zy r)→w.grownBy w' v.ownBlock→K (a.put o.dst v') w'):if Region.wanted o (yielded ops a.tmps)=true then Oper.wp Tryz.prog o a w K Q else E:=by
 have hw:Region.wanted o (yielded ops a.tmps)=true:=by simp [Region.wanted,hgd]
 rw [if_pos hw];obtain ⟨v',w',hrun,h2,h3⟩:=jo w o.type base v n xs hown xv r hr h1 hb;unfold Oper.wp execOp;simp only [ho,resolve,invoke,builtin,Sem.run_bind,Sem.run_pure,Result.andThen_ok,List.map_toArray,List.map_cons,List.map_nil,hs,hx,hrun];exact h v' w' h2 h3
theorem VV {w w':World} {base:Nat} {e:TypeId} {size n:Nat} {v:Value} {xs:List Value} (h:w.ownsRow base e size v n xs) (hb:Below w.heap.size w w'):w'.ownsRow base e size v n xs :=
 h.kept (row:=none) ⟨hb.os,hb.tape,hb.output,hb.size,fun k hk _=>hb.block k hk⟩ (by cases hv:v.ownBlock<;>simp)
structure CS (w:World) (z k:Nat) (s p u b:Bool) (hv:Value) (H:List Bs) (wx:World):Prop where
 c0:BlkL wx z 41 [.bool false,.bool false,.bool false,.bool false,.slice none 0 0]
 c1:BlkL wx (z+1) 41 [.bool s,.bool p,.bool u,.bool b,hv]
 row:wx.ownsRow (z+2) 9 1 hv H.length (zy H)
 len:H.length≤k
 bel:Below z w wx
section
variable {w wx wy : World} {z k : Nat} {s p u b : Bool} {hv : Value} {H : List Bs}
theorem CS.size (h:CS w z k s p u b hv H wx):z+2≤wx.heap.size:=h.c1.lt
theorem CS.below (h:CS w z k s p u b hv H wx) (hb:Below wx.heap.size wx wy):CS w z k s p u b hv H wy :=
 have hs:=h.size
 ⟨h.c0.below (by omega) hb,h.c1.below (by omega) hb,VV h.row hb,h.len,h.bel.trans (hb.mono (by omega))⟩
theorem CS.alloc (h:CS w z k s p u b hv H wx) (o:Obj):CS w z k s p u b hv H (wx.alloc o):=h.below ((Below.refl _ _).alloc (Nat.le_refl _) o)
theorem CS.drew (h:CS w z k s p u b hv H wx):CS w z k s p u b hv H wx.drew:=h.below (Below.refl _ _).drew
theorem CS.row_set (h:CS w z k s p u b hv H wx) (j:Nat) (v:Value):(wx.setCell ⟨z+1,j,none⟩ v).ownsRow (z+2) 9 1 hv H.length (zy H) :=
 h.row.kept (xY wx (z+1) j v) (vR h.row (Nat.lt_succ_self _))
theorem CS.set0 (h:CS w z k s p u b hv H wx) (v:Bool):CS w z k v p u b hv H (wx.setCell ⟨z+1,0,none⟩ (.bool v)) :=
 ⟨h.c0.other (by omega) _ _,h.c1.set 0 (by simp) _,h.row_set _ _,h.len,h.bel.trans (zB _ _ _ _ (by omega))⟩
theorem CS.set1 (h:CS w z k s p u b hv H wx) (v:Bool):CS w z k s v u b hv H (wx.setCell ⟨z+1,1,none⟩ (.bool v)) :=
 ⟨h.c0.other (by omega) _ _,h.c1.set 1 (by simp) _,h.row_set _ _,h.len,h.bel.trans (zB _ _ _ _ (by omega))⟩
theorem CS.set2 (h:CS w z k s p u b hv H wx) (v:Bool):CS w z k s p v b hv H (wx.setCell ⟨z+1,2,none⟩ (.bool v)) :=
 ⟨h.c0.other (by omega) _ _,h.c1.set 2 (by simp) _,h.row_set _ _,h.len,h.bel.trans (zB _ _ _ _ (by omega))⟩
theorem CS.set3 (h:CS w z k s p u b hv H wx) (v:Bool):CS w z k s p u v hv H (wx.setCell ⟨z+1,3,none⟩ (.bool v)) :=
 ⟨h.c0.other (by omega) _ _,h.c1.set 3 (by simp) _,h.row_set _ _,h.len,h.bel.trans (zB _ _ _ _ (by omega))⟩
theorem CS.ne (h:CS w z k s p u b hv H wx) {j:Nat} (hj:j<z+2):some j≠hv.ownBlock:=fun e=>by
 have:=(h.row.lt j e.symm).1;omega
theorem CS.app (h:CS w z k s p u b hv H wx) {v':Value} {x:Bs} (hA:wy.ownsRow (z+2) 9 1 v' (H.length+[x].length) (zy H++zy [x])) (gA:wx.grownBy wy hv.ownBlock):CS w z (k+1) s p u b v' (H++[x]) (wy.setCell ⟨z+1,4,none⟩ v'):=by
 have hl:(H++[x]).length=H.length+[x].length:=by simp
 have hc:zy (H++[x])=zy H++zy [x]:=by simp [zy]
 refine ⟨(h.c0.grown gA (h.ne (by omega))).other (by omega) _ _,(h.c1.grown gA (h.ne (by omega))).set 4 (by simp) _,?_,by have:=h.len;simp;omega,?_⟩
 ·rw [hl,hc];exact hA.kept (xY wy (z+1) 4 v') (vR hA (Nat.lt_succ_self _))
 exact (h.bel.grown gA (by have:=h.size;omega) (fun j hj=>by have:=(h.row.lt j hj).1;omega)).trans (zB _ _ _ _ (by omega))
end
def Vl (w:World) (e:Ending) (w':World):Prop:=((∃ n:Int,n≠0∧e= .returned (.tuple #[.agg (zZ ⟨false,false,false,false,[]⟩ (.slice none 0 0)).toArray,.int .i64 n]))∨∃ c hv,e= .returned (.tuple #[.agg (zZ c hv).toArray,.int .i64 0])∧Strs w' hv c.hosts)∧Below w.heap.size w w'
theorem Frs.open {w:World} {v:Value} {l:List (Bs × List Bs)} (h:Frs w v l):∃ a cap,v= .slice a l.length cap∧l.length≤cap∧cap≤maxLen ∧
  ∀ (hn:0<l.length),∃ b off,a=some ⟨b,off,none⟩∧b<w.heap.size∧∀ j (hj:j<l.length),w.cell? ⟨b,off+j*2,none⟩=some (.string (mk l[j].1))∧∃ cv,w.cell? ⟨b,off+j*2+1,none⟩=some cv∧Strs w cv l[j].2:=h
theorem gN {α:Type} (f:α→Bool) (l:List α) (k:Nat) (hk:k<l.length):(l.drop k).all f=(f l[k]&&(l.drop (k+1)).all f):=by rw [List.drop_eq_getElem_cons hk,List.all_cons]
set_option maxRecDepth 20000
set_option maxHeartbeats 4000000
theorem So (v:Value) (T:List PinP) (m:Int) (w:World) (hT:Pins w v T) (hs:∀ p∈T,p.host.length≤maxLen) (hm:0≤m):Calls Tryz.prog 14 #[v,.int .i64 m] w fun e w'=>e= .returned (.bool (decide ((T.length:Int)≤m)&&T.all fun p=>decide (p.host.length≤300)))∧w=w':=by
 obtain ⟨a,cap,rfl,h1,h2,hc⟩:=hT.open;unfold maxLen at h2;have HC:=KZ9 hc;have HS:=KZ9 hs;obtain ⟨n,hn⟩:=KZ6 T.length;have HN:=KZ9 hn;rw [←hn] at h1 ⊢;clear hc hT hn hs;by_cases hbig:m<(n:Int)
 ·have g1:decide (m<(n:Int))=true:=KZ7 hbig;have hfin:Hid ((decide ((n:Int)≤m)&&T.all fun p=>decide (p.host.length≤300))=false):=KZ9 (by rw [KZ8 (by omega)];rfl);clear hbig;go_enter Tryz.func14,Tryz.ntmps14
  go_wp2
  all_goals try omega
  go_ret;rw [hfin.out];exact ⟨rfl,rfl⟩
 have g1:decide (m<(n:Int))=false:=KZ8 hbig;have hfin:Hid ((decide ((n:Int)≤m)&&T.all fun p=>decide (p.host.length≤300))=T.all fun p=>decide (p.host.length≤300)):=KZ9 (by rw [KZ7 (by omega)];rfl);clear hbig;go_enter Tryz.func14,Tryz.ntmps14
 go_wp2;go_loop [5] (fun iv=>∃ k:Nat,iv= .int .i64 k∧k≤n∧Hid ((T.all fun p=>decide (p.host.length≤300))=(T.drop k).all fun p=>decide (p.host.length≤300))) (fun iv=>n - (intOf iv).toNat)
 case atStart=>exact ⟨0,rfl,by omega,KZ9 (by rw [List.drop_zero])⟩
 case round =>
  obtain ⟨k,rfl,hk,hI⟩:=hrel;by_cases hlt:k<n
  ·have hkT:k<T.length:=by rw [←HN.out];exact hlt
   obtain ⟨b,off,rfl,hb,hcc⟩:=HC.out (by omega);obtain ⟨c0,_,_⟩:=hcc k hkT;have hst:=gN (fun p:PinP=>decide (p.host.length≤300)) T k hkT;have hsx:T[k].host.length≤9223372036854775807:=HS.out T[k] (List.getElem_mem hkT);obtain ⟨t,ht⟩:=KZ6 (T[k].host);rw [←ht] at c0 hst hsx;have hsz:(mk t).size=t.length:=zh t;by_cases hl:t.length≤300
   ·have g2:decide ((300:Int)<(t.length:Int))=false:=KZ8 (by omega);have hI2:=KZ9 (hI.out.trans (hst.trans (by rw [KZ7 hl,Bool.true_and])));clear hst ht hI hcc hl;go_wp2
    all_goals try omega
    go_round
    case rel=>exact ⟨k+1,by go_num,by omega,hI2⟩
    case measure=>simp [intOf];omega
   have g2:decide ((300:Int)<(t.length:Int))=true:=KZ7 (by omega);have hI2:=KZ9 (hI.out.trans (hst.trans (by rw [KZ8 hl,Bool.false_and])));clear hst ht hI hcc hl;go_wp2
   all_goals try omega
   (try rw [Exit.noGoto_ret])
   go_ret;rw [hfin.out,hI2.out];exact ⟨rfl,rfl⟩
  have hI2:Hid ((T.all fun p=>decide (p.host.length≤300))=true):=KZ9 (by rw [hI.out,List.drop_of_length_le (by rw [←HN.out];omega)];rfl);clear hI;go_wp2
  all_goals try omega
  go_ret;rw [hfin.out,hI2.out];exact ⟨rfl,rfl⟩
theorem Sq (v:Value) (T:List EntP) (m:Int) (w:World) (hT:Ents w v T) (hs:∀ p∈T,p.host.length≤maxLen) (hm:0≤m):Calls Tryz.prog 15 #[v,.int .i64 m] w fun e w'=>e= .returned (.bool (decide ((T.length:Int)≤m)&&T.all fun p=>decide (p.host.length≤300)))∧w=w':=by
 obtain ⟨a,cap,rfl,h1,h2,hc⟩:=hT.open;unfold maxLen at h2;have HC:=KZ9 hc;have HS:=KZ9 hs;obtain ⟨n,hn⟩:=KZ6 T.length;have HN:=KZ9 hn;rw [←hn] at h1 ⊢;clear hc hT hn hs;by_cases hbig:m<(n:Int)
 ·have g1:decide (m<(n:Int))=true:=KZ7 hbig;have hfin:Hid ((decide ((n:Int)≤m)&&T.all fun p=>decide (p.host.length≤300))=false):=KZ9 (by rw [KZ8 (by omega)];rfl);clear hbig;go_enter Tryz.func15,Tryz.ntmps15
  go_wp2
  all_goals try omega
  go_ret;rw [hfin.out];exact ⟨rfl,rfl⟩
 have g1:decide (m<(n:Int))=false:=KZ8 hbig;have hfin:Hid ((decide ((n:Int)≤m)&&T.all fun p=>decide (p.host.length≤300))=T.all fun p=>decide (p.host.length≤300)):=KZ9 (by rw [KZ7 (by omega)];rfl);clear hbig;go_enter Tryz.func15,Tryz.ntmps15
 go_wp2;go_loop [5] (fun iv=>∃ k:Nat,iv= .int .i64 k∧k≤n∧Hid ((T.all fun p=>decide (p.host.length≤300))=(T.drop k).all fun p=>decide (p.host.length≤300))) (fun iv=>n - (intOf iv).toNat)
 case atStart=>exact ⟨0,rfl,by omega,KZ9 (by rw [List.drop_zero])⟩
 case round =>
  obtain ⟨k,rfl,hk,hI⟩:=hrel;by_cases hlt:k<n
  ·have hkT:k<T.length:=by rw [←HN.out];exact hlt
   obtain ⟨b,off,rfl,hb,hcc⟩:=HC.out (by omega);obtain ⟨c0,_⟩:=hcc k hkT;have hst:=gN (fun p:EntP=>decide (p.host.length≤300)) T k hkT;have hsx:T[k].host.length≤9223372036854775807:=HS.out T[k] (List.getElem_mem hkT);obtain ⟨t,ht⟩:=KZ6 (T[k].host);rw [←ht] at c0 hst hsx;have hsz:(mk t).size=t.length:=zh t;by_cases hl:t.length≤300
   ·have g2:decide ((300:Int)<(t.length:Int))=false:=KZ8 (by omega);have hI2:=KZ9 (hI.out.trans (hst.trans (by rw [KZ7 hl,Bool.true_and])));clear hst ht hI hcc hl;go_wp2
    all_goals try omega
    go_round
    case rel=>exact ⟨k+1,by go_num,by omega,hI2⟩
    case measure=>simp [intOf];omega
   have g2:decide ((300:Int)<(t.length:Int))=true:=KZ7 (by omega);have hI2:=KZ9 (hI.out.trans (hst.trans (by rw [KZ8 hl,Bool.false_and])));clear hst ht hI hcc hl;go_wp2
   all_goals try omega
   (try rw [Exit.noGoto_ret])
   go_ret;rw [hfin.out,hI2.out];exact ⟨rfl,rfl⟩
  have hI2:Hid ((T.all fun p=>decide (p.host.length≤300))=true):=KZ9 (by rw [hI.out,List.drop_of_length_le (by rw [←HN.out];omega)];rfl);clear hI;go_wp2
  all_goals try omega
  go_ret;rw [hfin.out,hI2.out];exact ⟨rfl,rfl⟩
def rc (f:Bs × List Bs):Bool:=decide (f.1.length≤3000)&&(decide (f.2.length≤6)&&f.2.all fun t=>decide ((t.length:Int)≤5000))
set_option maxHeartbeats 8000000
theorem Wm (v:Value) (T:List (Bs × List Bs)) (w:World) (hT:Frs w v T) (hs:∀ p∈T,p.1.length≤maxLen∧∀ y∈p.2,y.length≤maxLen):Calls Tryz.prog 13 #[v] w fun e w'=>e= .returned (.bool (decide (T.length≤20)&&T.all rc))∧w=w':=by
 obtain ⟨a,cap,rfl,h1,h2,hc⟩:=hT.open;unfold maxLen at h2;have HC:=KZ9 hc;have HS:=KZ9 hs;obtain ⟨n,hn⟩:=KZ6 T.length;have HN:=KZ9 hn;rw [←hn] at h1 ⊢;clear hc hT hn hs;by_cases hbig:20<n
 ·have g1:decide ((20:Int)<(n:Int))=true:=KZ7 (by omega);have hfin:Hid ((decide (n≤20)&&T.all rc)=false):=KZ9 (by rw [KZ8 (by omega)];rfl);clear hbig;go_enter Tryz.func13,Tryz.ntmps13
  go_wp2
  all_goals try omega
  go_ret;rw [hfin.out];exact ⟨rfl,rfl⟩
 have g1:decide ((20:Int)<(n:Int))=false:=KZ8 (by omega);have hfin:Hid ((decide (n≤20)&&T.all rc)=T.all rc):=KZ9 (by rw [KZ7 (by omega)];rfl);clear hbig;go_enter Tryz.func13,Tryz.ntmps13
 go_wp2;go_loop [3] (fun iv=>∃ k:Nat,iv= .int .i64 k∧k≤n∧Hid (T.all rc=(T.drop k).all rc)) (fun iv=>n - (intOf iv).toNat)
 case atStart=>exact ⟨0,rfl,by omega,KZ9 (by rw [List.drop_zero])⟩
 case round =>
  obtain ⟨k,rfl,hk,hI⟩:=hrel;by_cases hlt:k<n
  ·have hkT:k<T.length:=by rw [←HN.out];exact hlt
   obtain ⟨b,off,rfl,hb,hcc⟩:=HC.out (by omega);obtain ⟨c0,cv,c1,hst1⟩:=hcc k hkT;have hst:=gN rc T k hkT;have hsx:=HS.out T[k] (List.getElem_mem hkT);obtain ⟨⟨t,cs⟩,ht⟩:∃ t,t=T[k]:=⟨_,rfl⟩;rw [←ht] at c0 hst hst1 hsx;simp only at c0 hst1 hsx;have hsx1:t.length≤9223372036854775807:=hsx.1;have hshort:=Uc 5000 cv cs w hst1 hsx.2;obtain ⟨a3,cap3,rfl,j1,j2,_⟩:=hst1.open;unfold maxLen at j2;have hsz:(mk t).size=t.length:=zh t;have hdef:rc (t,cs)=(decide (t.length≤3000)&&(decide (cs.length≤6)&&cs.all fun t=>decide ((t.length:Int)≤5000))):=rfl;obtain ⟨sh,hsh⟩:=KZ6 (cs.all fun t=>decide ((t.length:Int)≤5000));rw [←hsh] at hdef hshort;obtain ⟨cn,hcn⟩:=KZ6 cs.length;rw [←hcn] at hdef hshort c1 j1;rw [hdef] at hst;have HSH:=KZ9 hshort;clear hshort hst1 hsx hdef hsh hcn ht hcc;by_cases hl:t.length≤3000
   ·have g2:decide ((3000:Int)<(t.length:Int))=false:=KZ8 (by omega);rw [KZ7 hl] at hst;by_cases hl2:cn≤6
    ·have g3:decide ((6:Int)<(cn:Int))=false:=KZ8 (by omega);rw [KZ7 hl2] at hst;have HI2:=KZ9 (hI.out.trans hst);clear hst hI hl hl2;go_wp2_with fail
     all_goals try omega
     refine HSH.out.mono ?_;rintro e w' ⟨rfl,rfl⟩;cases sh
     ·go_wp2
      all_goals try omega
      (try rw [Exit.noGoto_ret])
      go_ret;rw [hfin.out,HI2.out];exact ⟨rfl,rfl⟩
     go_wp2
     all_goals try omega
     go_round
     case rel=>exact ⟨k+1,by go_num,by omega,KZ9 (HI2.out.trans (by rfl))⟩
     case measure=>simp [intOf];omega
    have g3:decide ((6:Int)<(cn:Int))=true:=KZ7 (by omega);rw [KZ8 hl2] at hst;have HI2:=KZ9 (hI.out.trans hst);clear hst hI hl hl2;go_wp2
    all_goals try omega
    (try rw [Exit.noGoto_ret])
    go_ret;rw [hfin.out,HI2.out];exact ⟨rfl,rfl⟩
   have g2:decide ((3000:Int)<(t.length:Int))=true:=KZ7 (by omega);rw [KZ8 hl] at hst;have HI2:=KZ9 (hI.out.trans hst);clear hst hI hl;go_wp2
   all_goals try omega
   (try rw [Exit.noGoto_ret])
   go_ret;rw [hfin.out,HI2.out];exact ⟨rfl,rfl⟩
  have hI2:Hid (T.all rc=true):=KZ9 (by rw [hI.out,List.drop_of_length_le (by rw [←HN.out];omega)];rfl);clear hI;go_wp2
  all_goals try omega
  go_ret;rw [hfin.out,hI2.out];exact ⟨rfl,rfl⟩
def Rb (fs:List (Bs × List Bs)):Prop:=∀ p∈fs,p.1.length≤3000∧p.2.length≤6∧∀ y∈p.2,y.length≤maxLen
theorem PT (v:Value) (vs:List Bs) (w:World) (hv:Strs w v vs) (hl:vs.length≤1000) (hs:∀ x∈vs,x.length≤maxLen):Calls Tryz.prog 46 #[v] w fun e w'=>∃ (p b:Bool) (a:Option Addr) (n c:Nat) (d:Int),e= .returned (.tuple #[.agg #[.bool p,.bool b,.slice a n c],.int .i64 d])∧Below w.heap.size w w':=by
 refine (Z3 v vs w hv hl hs).mono ?_;rintro e w' ⟨u,rfl,ho,hb⟩;obtain ⟨a,c,rfl⟩:=ut ho;exact ⟨_,_,a,_,c,_,rfl,hb⟩
def UK (u:UrlP):Prop:=ym u.host∧tS u
theorem Vp {l:Bs} {u:UrlP} (h:sI l=some u) (hl:l.length≤3000):UK u:=by
 obtain ⟨hc,hs⟩:=Yi h;have h2:=pn hc;exact ⟨gH hc,by omega,by omega,by omega,by omega,Vb hc⟩
theorem Qw (w:World):CS w w.heap.size 0 true false false false (.slice none 0 0) [] ((w.alloc (.cells #[.bool false,.bool false,.bool false,.bool false,.slice none 0 0] 41)).alloc (.cells #[.bool true,.bool false,.bool false,.bool false,.slice none 0 0] 41)):=by
 refine ⟨(BlkL.new w 41 [.bool false,.bool false,.bool false,.bool false,.slice none 0 0]).alloc _,?_,World.ownsRow_nil _ _ _ _,Nat.le_refl _,((Below.refl _ w).alloc (Nat.le_refl _) _).alloc (by simp) _⟩;have:=BlkL.new (w.alloc (.cells #[.bool false,.bool false,.bool false,.bool false,.slice none 0 0] 41)) 41 [.bool true,.bool false,.bool false,.bool false,.slice none 0 0];simp only [World.size_alloc] at this;exact this
theorem CS.more {w wx:World} {z k:Nat} {s p u b:Bool} {hv:Value} {H:List Bs} (h:CS w z k s p u b hv H wx):CS w z (k+1) s p u b hv H wx:=⟨h.c0,h.c1,h.row,by have:=h.len;omega,h.bel⟩
theorem Ra (w:World) (x:Bs) (T:TypeId):Strs (w.alloc (.cells #[.string (mk x)] T)) (.slice (some ⟨w.heap.size,0,none⟩) 1 1) [x]:=by
 have:=jP w [mk x] T (by simp [maxLen]);simp only [List.map_cons,List.map_nil,zj] at this;exact this
theorem CS.setRow {w wx:World} {z k:Nat} {s p u b:Bool} {hv:Value} {H:List Bs} (h:CS w z k s p u b hv H wx) (cs cs2:List Value) (T:TypeId):CS w z k s p u b hv H ((wx.alloc (.cells cs.toArray T)).setRow wx.heap.size cs2.toArray) :=
 h.below (below_setRow ((Below.refl _ _).alloc (Nat.le_refl _) _) (Nat.le_refl _) _)
theorem QI (v:Value) (fs:List (Bs × List Bs)) (w:World) (hB:Base6 w) (hF:Frs w v fs) (hs:Rb fs):Calls Tryz.prog 18 #[v] w (Vl w):=by
 obtain ⟨a,cap,rfl,h1,h2,hc⟩:=hF.open;unfold maxLen at h2;have HC:=KZ9 hc;have HS:=KZ9 hs;have HBS:=KZ9 hB;obtain ⟨z,hz⟩:=KZ6 w.heap.size;have HZ:=KZ9 hz;obtain ⟨n,hn⟩:=KZ6 fs.length;have HN:=KZ9 hn;rw [←hn] at h1 ⊢;have hst:=Qw w;rw [←hz] at hst;obtain ⟨W0,hW0⟩:=KZ6 ((w.alloc (.cells #[.bool false,.bool false,.bool false,.bool false,.slice none 0 0] 41)).alloc (.cells #[.bool true,.bool false,.bool false,.bool false,.slice none 0 0] 41));rw [←hW0] at hst;have HW0:Hid ((w.alloc (.cells #[.bool false,.bool false,.bool false,.bool false,.slice none 0 0] 41)).alloc (.cells #[.bool true,.bool false,.bool false,.bool false,.slice none 0 0] 41)=W0):=KZ9 hW0.symm;have HST:=KZ9 hst;have HOT:=KZ9 (fun (u:UrlP) (W:World) (h:Below w.heap.size w W) (ho:UK u)=>YI u W (hB.below h) ho.1 ho.2 (qN _));have HSP:=KZ9 (fun s W=>tB s W)
 have HPA:=KZ9 (fun (l:Bs) (W:World) (h:Below w.heap.size w W) (hl:l.length≤3000)=>by
  have:=Yn (mk l) W (hB.below h).1 (by rw [zh];omega) (qN _);rw [zj] at this;exact this)
 have HHF:=KZ9 (fun (h:HostP) (W:World) (hb:Below w.heap.size w W) (hw:ym h) (hn:h.name.length≤20000)=>gh h W (hB.below hb) hw (by omega));have HCM:=KZ9 (fun v vs W=>PT v vs W);have HUO:=KZ9 (fun l u=>@Vp l u);have HU0:=KZ9 (show (za zu)=[.string ⟨#[]⟩,.string ⟨#[]⟩,.int .i64 0,.string ⟨#[]⟩,.int .u32 0,.int .u16 0,.int .u16 0,.int .u16 0,.int .u16 0,.int .u16 0,.int .u16 0,.int .u16 0,.int .u16 0,.int .i64 0,.string ⟨#[]⟩] from rfl);have HI0:=KZ9 (fun (u:UrlP) (h:ym u.host)=>zV (u:=u) h.1);have HSS:=KZ9 (fun H v base W=>Jc H v base W);have HSC:=KZ9 (fun H v base W=>Q6 H v base W);clear hst hB hF hs hc hn hW0 hz;by_cases hbig:n=0∨16<n
 ·have HB0:=KZ9 (BlkL.new w 41 [.bool false,.bool false,.bool false,.bool false,.slice none 0 0]);rw [←HZ.out] at HB0;have HA0:=KZ9 ((Below.refl w.heap.size w).alloc (Nat.le_refl _) (.cells #[.bool false,.bool false,.bool false,.bool false,.slice none 0 0] 41));have g1:(decide ((n:Int)=0)||decide ((16:Int)<(n:Int)))=true:=by
   rcases hbig with h | h
   ·rw [KZ7 (show (n:Int)=0 by omega)];rfl
   rw [KZ7 (show (16:Int)<(n:Int) by omega)];simp
  obtain ⟨WA,hWA⟩:=KZ6 (w.alloc (.cells #[.bool false,.bool false,.bool false,.bool false,.slice none 0 0] 41));have HWA:Hid (w.alloc (.cells #[.bool false,.bool false,.bool false,.bool false,.slice none 0 0] 41)=WA):=KZ9 hWA.symm;rw [←hWA] at HB0 HA0;have b0:=HB0.out;have hfin:Calls Tryz.prog 18 #[.slice a n cap] w (Vl w):=by
   rcases hbig with h | h
   ·subst h;clear g1 b0 hWA;go_enter Tryz.func18,Tryz.ntmps18
    go_wp2_with fail
    all_goals try omega
    rw [HWA.out,←HZ.out];have b0:=HB0.out;go_wp2;refine bodyPost_ret (zf rfl _ _ z 41 _ _ rfl HB0.out Tryz.underlying41 rfl wS) rfl ?_;exact ⟨.inl ⟨3,by decide,rfl⟩,HA0.out⟩
   have g2:decide ((n:Int)=0)=false:=KZ8 (by omega);have g3:decide ((16:Int)<(n:Int))=true:=KZ7 (by omega);clear g1 b0 hWA;go_enter Tryz.func18,Tryz.ntmps18
   go_wp2_with fail
   all_goals try omega
   rw [HWA.out,←HZ.out];refine bodyPost_ret (zf rfl _ _ z 41 _ _ rfl HB0.out Tryz.underlying41 rfl wS) rfl ?_;exact ⟨.inl ⟨3,by decide,rfl⟩,HA0.out⟩
  exact hfin
 have hn0:0<n:=by omega
 have g1:decide ((n:Int)=0)=false:=KZ8 (by omega);have g2:decide ((16:Int)<(n:Int))=false:=KZ8 (by omega);have hn16:n≤16:=by omega
 clear hbig;go_enter Tryz.func18,Tryz.ntmps18
 go_wp2_with fail
 all_goals try omega
 rw [HW0.out,←HZ.out];clear HW0;go_loopw [5,23] (fun tv iv wr=>∃ (k:Nat) (o s p u b:Bool) (hv:Value) (H:List Bs),tv= .bool o∧iv= .int .i64 k∧k≤n∧Hid (CS w z k s p u b hv H wr)) (fun _ iv _=>n - (intOf iv).toNat)
 case atStart=>exact ⟨0,_,_,_,_,_,_,_,rfl,rfl,by omega,HST⟩
 case round =>
  obtain ⟨k,o5,s,p,up,bl,hv,H,rfl,rfl,hk,hcs⟩:=hrel;have hbl:=hcs.out.bel;have hszr:=hcs.out.size;obtain ⟨xa0,xc0,rfl⟩:=ut hcs.out.row;by_cases hlt:k<n
  ·have hkF:k<fs.length:=by rw [←HN.out];exact hlt
   obtain ⟨b,off,rfl,hb,hcc⟩:=HC.out (by omega);obtain ⟨c0',cv,c1',hst1⟩:=hcc k hkF;have hsx:=HS.out fs[k] (List.getElem_mem hkF);obtain ⟨⟨l,vs⟩,ht⟩:∃ t,t=fs[k]:=⟨_,rfl⟩;rw [←ht] at c0' hst1 hsx;simp only at c0' hst1 hsx;have c0:=(hbl.cell (p:=⟨b,off+k*2,none⟩) (by rw [HZ.out];exact hb)).trans c0';have c1:=(hbl.cell (p:=⟨b,off+k*2+1,none⟩) (by rw [HZ.out];exact hb)).trans c1';have hop:=hst1.open;obtain ⟨a3,cap3,rfl,j1,j2,_⟩:=hop;unfold maxLen at j2;obtain ⟨m,hm⟩:=KZ6 vs.length;rw [←hm] at c1 j1 hst1;have HST1:=KZ9 hst1;have HLV:=KZ9 hsx;have HCF:=KZ9 (hcs.out.alloc (.cells #[.string (mk l),.slice a3 m cap3] 76));have HNF:=KZ9 (BlkL.new wr 76 [.string (mk l),.slice a3 m cap3]);have HPAR:=KZ9 (HPA.out l (wr.alloc (.cells #[.string (mk l),.slice a3 m cap3] 76)) (HZ.out▸HCF.out.bel) hsx.1);clear hcc c0' c1' hst1 hsx ht hm;go_wp2_with fail
   all_goals try omega
   refine HPAR.out.mono ?_;rintro e w1 ⟨⟨u1,ec,rfl,hcase⟩,hb1⟩;have hs1:=hb1.size;have HUC:=KZ9 hcase;have HC1:=KZ9 (HCF.out.below hb1);have HF1:=KZ9 (HNF.out.below (by simp) hb1);have f1:=HF1.out.c 1 _ rfl;have HUK:Hid (UK u1):=KZ9 (by
    rcases hcase with ⟨_,h⟩ | ⟨_,rfl,_⟩
    ·exact HUO.out l u1 h HLV.out.1
    exact ⟨⟨rfl,by decide,by decide⟩,by decide,by decide,by decide,by decide,.inr ⟨0,rfl,by decide⟩⟩)
   have HN1:=KZ9 (heap_alloc_new w1 (.cells (za zu).toArray 62));have hY:=(BlkL.new w1 62 (za zu)).setRow (za u1);have hC2:=HC1.out.setRow (za zu) (za u1) 62;have hF2:=(HF1.out.alloc (.cells (za zu).toArray 62)).setRow_other (show wr.heap.size≠w1.heap.size by simp at hs1;omega) (za u1).toArray;obtain ⟨W2,hW2⟩:=KZ6 ((w1.alloc (.cells (za zu).toArray 62)).setRow w1.heap.size (za u1).toArray);rw [←hW2] at hY hC2 hF2;have hs2:W2.heap.size=w1.heap.size+1:=by rw [hW2];simp [World.setRow]
   have HW2:Hid ((w1.alloc (.cells #[.string ⟨#[]⟩,.string ⟨#[]⟩,.int .i64 0,.string ⟨#[]⟩,.int .u32 0,.int .u16 0,.int .u16 0,.int .u16 0,.int .u16 0,.int .u16 0,.int .u16 0,.int .u16 0,.int .u16 0,.int .i64 0,.string ⟨#[]⟩] 62)).setRow w1.heap.size (za u1).toArray=W2):=KZ9 hW2.symm;have HY:=KZ9 hY;have HC2:=KZ9 hC2;have f2:=hF2.c 1 _ rfl;have HI1:=KZ9 (HI0.out u1 HUK.out.1);have HSZ1:=KZ9 (show (za zu).toArray.size=(za u1).toArray.size by rw [List.size_toArray,List.size_toArray,xo HUK.out.1.1];rfl);clear hY hC2 hF2 hW2 hcase hb1 f1 HPAR hcs c0 c1;go_upto_region 9 with (refine wpList_store_row rfl 62 (.tmp 8) (.tmp 31) rfl w1.heap.size (za u1).toArray rfl rfl 62 _ HN1.out HI1.out HSZ1.out (ze (yk _)) ?_)
   all_goals try omega
   rw [HW2.out];clear HW2 HN1;by_cases hec:ec=0;rotate_left
   ·have g3:decide (ec=0)=false:=KZ8 hec;go_wp2_with (refine wpList_store_row rfl 41 (.tmp 2) (.tmp 35) rfl z #[.bool false,.bool false,.bool false,.bool false,.slice none 0 0] rfl rfl 41 _ HC2.out.c0 wS rfl (by simp [Value.oneCell']) ?_)
    all_goals try omega
    (try rw [Exit.noGoto_ret])
    refine bodyPost_ret (zf rfl _ _ z 41 _ _ rfl (HC2.out.c0.setRow [.bool false,.bool false,.bool false,.bool false,.slice none 0 0]) Tryz.underlying41 rfl wS) rfl ?_;exact ⟨.inl ⟨ec,hec,rfl⟩,HZ.out▸below_setRow HC2.out.bel (Nat.le_refl _) _⟩
   subst hec;go_wp2_with fail
   all_goals try omega
   refine (HCM.out _ vs _ (HST1.out.below (HZ.out▸HC2.out.bel)) (by have:=HLV.out.2.1;omega) HLV.out.2.2).mono ?_;rintro e w3 ⟨pb,bb,xa,xn,xc,cd,rfl,hb3⟩;have hs3:=hb3.size;have hY3:=(HY.out.below (by omega) hb3).alloc (.cells #[.bool pb,.bool bb,.slice xa xn xc] 98);have hC3:=(HC2.out.below hb3).alloc (.cells #[.bool pb,.bool bb,.slice xa xn xc] 98);have hN3:=BlkL.new w3 98 [.bool pb,.bool bb,.slice xa xn xc];obtain ⟨W4,hW4⟩:=KZ6 (w3.alloc (.cells #[.bool pb,.bool bb,.slice xa xn xc] 98));have hs4:W4.heap.size=w3.heap.size+1:=by rw [hW4];simp
   have HW4:Hid (w3.alloc (.cells #[.bool pb,.bool bb,.slice xa xn xc] 98)=W4):=KZ9 hW4.symm;rw [←hW4] at hY3 hC3 hN3;have HY3:=KZ9 hY3;have HC3:=KZ9 hC3;have HN3:=KZ9 hN3;clear hY3 hC3 hN3 hW4 hb3 HC2 HY f2;go_upto_region 12 with fail
   all_goals try omega
   rw [HW4.out];clear HW4;by_cases hcd:cd=0;rotate_left
   ·have g3:decide (cd=0)=false:=KZ8 hcd;go_wp2_with (refine wpList_store_row rfl 41 (.tmp 2) (.tmp 45) rfl z #[.bool false,.bool false,.bool false,.bool false,.slice none 0 0] rfl rfl 41 _ HC3.out.c0 wS rfl (by simp [Value.oneCell']) ?_)
    all_goals try omega
    (try rw [Exit.noGoto_ret])
    refine bodyPost_ret (zf rfl _ _ z 41 _ _ rfl (HC3.out.c0.setRow [.bool false,.bool false,.bool false,.bool false,.slice none 0 0]) Tryz.underlying41 rfl wS) rfl ?_;exact ⟨.inl ⟨cd,hcd,rfl⟩,HZ.out▸below_setRow HC3.out.bel (Nat.le_refl _) _⟩
   subst hcd;obtain ⟨sc,us,⟨kd,nm,va,v6⟩,pt,rs⟩:=u1;obtain ⟨a0,a1,a2,a3',a4,a5,a6,a7,rfl⟩:=si HUK.out.1.1;have HOT4:=KZ9 (HOT.out _ W4 (HZ.out▸HC3.out.bel) HUK.out);obtain ⟨tr,htr⟩:=KZ6 (yv ⟨sc,us,⟨kd,nm,va,[a0,a1,a2,a3',a4,a5,a6,a7]⟩,pt,rs⟩);rw [←htr] at HOT4;obtain ⟨ab,hab⟩:=KZ6 (((mk sc).toList==([97,98,111,117,116]:Bs)));have e4:=hab.symm;clear hab htr;have y0:=HY3.out.c 0 _ rfl;go_upto_if 49 with fail
   all_goals try omega
   go_cut [5] (fun v wx=>∃ o:Bool,v= .bool o∧Below W4.heap.size W4 wx)
   case first =>
    have y1:=HY3.out.c 1 _ rfl;have y2:=HY3.out.c 2 _ rfl;have y3:=HY3.out.c 3 _ rfl;have y4:=HY3.out.c 4 _ rfl;have y5:=HY3.out.c 5 _ rfl;have y6:=HY3.out.c 6 _ rfl;have y7:=HY3.out.c 7 _ rfl;have y8:=HY3.out.c 8 _ rfl;have y9:=HY3.out.c 9 _ rfl;have y10:=HY3.out.c 10 _ rfl;have y11:=HY3.out.c 11 _ rfl;have y12:=HY3.out.c 12 _ rfl;have y13:=HY3.out.c 13 _ rfl;have y14:=HY3.out.c 14 _ rfl;clear e4;cases ab
    ·go_wp2_with fail
     all_goals try omega
     refine (HSP.out _ _).mono ?_;rintro e w5 ⟨rfl,rfl⟩;obtain ⟨sp,hsp⟩:=KZ6 (decide (0<zv (un (mk sc))));rw [←hsp];clear hsp;cases sp
     ·go_wp2_with fail
      all_goals try omega
      go_meet;exact ⟨_,rfl,Below.refl _ _⟩
     go_wp2_with fail
     all_goals try omega
     refine HOT4.out.mono ?_;rintro e w5 ⟨rfl,hb5⟩;go_wp2_with fail
     all_goals try omega
     go_meet;exact ⟨_,rfl,hb5⟩
    go_wp2_with fail
    all_goals try omega
    go_meet;exact ⟨_,rfl,Below.refl _ _⟩
   obtain ⟨o,rfl,hb5⟩:=hcut;obtain ⟨UL,hUL⟩:=KZ6 (za ⟨sc,us,⟨kd,nm,va,[a0,a1,a2,a3',a4,a5,a6,a7]⟩,pt,rs⟩);have HUL:=KZ9 hUL;rw [←hUL] at HY3;have HALL:=KZ9 (And.intro (HC3.out.below hb5) (And.intro (HY3.out.below (by omega) hb5) (HN3.out.below (by omega) hb5)));have HSZ9:=KZ9 (show z+2≤w1.heap.size∧w1.heap.size<w3.heap.size by have:=HC1.out.size;omega);clear hb5 hUL y0 HC3 HY3 HN3 e4 HOT4;go_upto_region 16 with fail
   all_goals try omega
   go_cut [] (fun wx=>∃ v:Bool,CS w z k v p up bl (.slice xa0 H.length xc0) H wx∧BlkL wx w1.heap.size 62 UL∧BlkL wx w3.heap.size 98 [.bool pb,.bool bb,.slice xa xn xc])
   case first =>
    obtain ⟨hC,hY,hN⟩:=HALL.out;have HC9:=KZ9 hC;have HY9:=KZ9 hY;have HN9:=KZ9 hN;have d0:=hC.c1.c 0 _ rfl;have d1:=hC.c1.f 0;have d2:=hN.c 0 _ rfl;have d3:=hN.c 1 _ rfl;have hsz9:=HSZ9.out;clear hC hY hN HALL;cases s<;>cases o <;>
    ·go_wp2
     all_goals try omega
     go_meet;exact ⟨_,HC9.out.set0 _,HY9.out.other (by omega) _ _,HN9.out.other (by omega) _ _⟩
   clear HALL;obtain ⟨v0,hall⟩:=hcut;have HALL:=KZ9 hall;clear hall
   rename World=>wd0
   go_upto_region 17 with fail
   all_goals try omega
   go_cut [] (fun wx=>∃ v:Bool,CS w z k v0 v up bl (.slice xa0 H.length xc0) H wx∧BlkL wx w1.heap.size 62 UL∧BlkL wx w3.heap.size 98 [.bool pb,.bool bb,.slice xa xn xc])
   case first =>
    obtain ⟨hC,hY,hN⟩:=HALL.out;have HC9:=KZ9 hC;have HY9:=KZ9 hY;have HN9:=KZ9 hN;have d0:=hC.c1.c 1 _ rfl;have d1:=hC.c1.f 1;have d2:=hN.c 0 _ rfl;have d3:=hN.c 1 _ rfl;have hsz9:=HSZ9.out;clear hC hY hN HALL;cases p<;>cases o <;>
    ·go_wp2
     all_goals try omega
     go_meet;exact ⟨_,HC9.out.set1 _,HY9.out.other (by omega) _ _,HN9.out.other (by omega) _ _⟩
   clear HALL;obtain ⟨v1,hall⟩:=hcut;have HALL:=KZ9 hall;clear hall
   rename World=>wd1
   go_upto_region 18 with fail
   all_goals try omega
   go_cut [] (fun wx=>∃ v:Bool,CS w z k v0 v1 v bl (.slice xa0 H.length xc0) H wx∧BlkL wx w1.heap.size 62 UL∧BlkL wx w3.heap.size 98 [.bool pb,.bool bb,.slice xa xn xc])
   case first =>
    obtain ⟨hC,hY,hN⟩:=HALL.out;have HC9:=KZ9 hC;have HY9:=KZ9 hY;have HN9:=KZ9 hN;have d0:=hC.c1.c 2 _ rfl;have d1:=hC.c1.f 2;have d2:=hN.c 0 _ rfl;have d3:=hN.c 1 _ rfl;have hsz9:=HSZ9.out;clear hC hY hN HALL;cases up<;>cases pb <;>
    ·go_wp2
     all_goals try omega
     go_meet;exact ⟨_,HC9.out.set2 _,HY9.out.other (by omega) _ _,HN9.out.other (by omega) _ _⟩
   clear HALL;obtain ⟨v2,hall⟩:=hcut;have HALL:=KZ9 hall;clear hall
   rename World=>wd2
   go_upto_region 19 with fail
   all_goals try omega
   go_cut [] (fun wx=>∃ v:Bool,CS w z k v0 v1 v2 v (.slice xa0 H.length xc0) H wx∧BlkL wx w1.heap.size 62 UL∧BlkL wx w3.heap.size 98 [.bool pb,.bool bb,.slice xa xn xc])
   case first =>
    obtain ⟨hC,hY,hN⟩:=HALL.out;have HC9:=KZ9 hC;have HY9:=KZ9 hY;have HN9:=KZ9 hN;have d0:=hC.c1.c 3 _ rfl;have d1:=hC.c1.f 3;have d2:=hN.c 0 _ rfl;have d3:=hN.c 1 _ rfl;have hsz9:=HSZ9.out;clear hC hY hN HALL;cases bl<;>cases bb <;>
    ·go_wp2
     all_goals try omega
     go_meet;exact ⟨_,HC9.out.set3 _,HY9.out.other (by omega) _ _,HN9.out.other (by omega) _ _⟩
   clear HALL;obtain ⟨v3,hall⟩:=hcut;have HALL:=KZ9 hall;clear hall
   rename World=>wd3
   obtain ⟨hC,hY,hN⟩:=HALL.out;have HC9:=KZ9 hC;have n0:=hN.c 0 _ rfl;have HY9:=KZ9 (HUL.out▸hY);have y0:=HY9.out.c 0 _ rfl;clear hC hY hN HALL HSZ9;cases pb
   ·go_wp2
    all_goals try omega
    go_roundw
    case rel=>exact ⟨k+1,_,_,_,_,_,_,_,rfl,by go_num,by omega,KZ9 HC9.out.more⟩
    case measure=>simp [intOf];omega
   go_wp2_with fail
   all_goals try omega
   refine (HSP.out _ _).mono ?_;rintro e w5 ⟨rfl,rfl⟩;obtain ⟨sp,hsp⟩:=KZ6 (decide (0<zv (un (mk sc))));rw [←hsp];clear hsp;cases sp
   ·go_wp2
    all_goals try omega
    go_roundw
    case rel=>exact ⟨k+1,_,_,_,_,_,_,_,rfl,by go_num,by omega,KZ9 HC9.out.more⟩
    case measure=>simp [intOf];omega
   go_upto_region 21 with fail
   all_goals try omega
   obtain ⟨hh,hhh⟩:∃ hh:HostP,hh=⟨kd,nm,va,[a0,a1,a2,a3',a4,a5,a6,a7]⟩:=⟨_,rfl⟩;have hhf:=HHF.out ⟨kd,nm,va,[a0,a1,a2,a3',a4,a5,a6,a7]⟩ wd3.drew (HZ.out▸HC9.out.drew.bel) HUK.out.1 HUK.out.2.2.2.1;obtain ⟨ht,hht⟩:=KZ6 (yf ⟨kd,nm,va,[a0,a1,a2,a3',a4,a5,a6,a7]⟩);rw [←hht] at hhf;have HFM:=KZ9 hhf;have y2:=HY9.out.c 2 _ rfl;have y3:=HY9.out.c 3 _ rfl;have y4:=HY9.out.c 4 _ rfl;have y5:=HY9.out.c 5 _ rfl;have y6:=HY9.out.c 6 _ rfl;have y7:=HY9.out.c 7 _ rfl;have y8:=HY9.out.c 8 _ rfl;have y9:=HY9.out.c 9 _ rfl;have y10:=HY9.out.c 10 _ rfl;have y11:=HY9.out.c 11 _ rfl;have y12:=HY9.out.c 12 _ rfl;have k4:=HC9.out.c1.c 4 _ rfl;have m4:=HC9.out.c1.f 4;clear hhf hht hhh hh y0 n0;have HFQ:=KZ9 True.intro
   go_region_law (first | (refine py (by rfl) _ _ (by rfl) (z+2) (.slice xa0 H.length xc0) H.length (zy H) (by rfl) (hCq.alloc _).row _ (by rfl) [ht] (Ra _ _ _) (by have:=hCq.len;simp;omega) (by have:=(hCq.alloc (.cells #[.string (mk ht)] 9)).size;exact this) ?_;intro vA wA hA gA;obtain ⟨a',c',rfl⟩:=ut hA;have hB':=(hCq.alloc _).c1.grown gA (hCq.ne (by omega));have uu:=hB'.c 4 _ rfl;have tt:=hB'.f 4;have HAPP:=KZ9 ((hCq.alloc _).app hA gA);clear hA gA hB') | (have _hf:=HFQ.out;clear HFQ;go_simp;go_at_call 49;refine HFM.out.mono ?_;rintro e wq ⟨rfl,hbq⟩;have hCq:=HC9.out.drew.below hbq;have kq:=hCq.c1.c 4 _ rfl;have mq:=hCq.c1.f 4;have kz:=fun o=>(hCq.alloc o).c1.c 4 _ rfl;have mz:=fun o=>(hCq.alloc o).c1.f 4;clear hbq))
   all_goals
    go_wp2
    all_goals try omega
    go_roundw
    case rel=>exact ⟨k+1,_,_,_,_,_,_,_,rfl,by go_num,by omega,KZ9 HAPP.out⟩
    case measure=>simp [intOf];omega
  have HCSH:=KZ9 hcs.out;have k4:=hcs.out.c1.c 4 _ rfl;have HOW:=KZ9 hcs.out.row;have hHn:H.length≤16:=by have:=hcs.out.len;omega
  clear HST HOT HSP HPA HHF HCM HUO HU0 HI0 HC HS HBS hcs hbl;go_wp2_with fail
  all_goals try omega
  refine (HSS.out H _ (z+2) wr HOW.out hszr (by omega)).mono ?_;rintro e w6 ⟨rfl,H',hlH,ho6,hb6⟩;have HO6:=KZ9 ho6;have c16:=HCSH.out.c1.below (by omega) hb6;have HC6:=KZ9 c16;have HZ6:=KZ9 (HCSH.out.c0.below (by omega) hb6);have HA6:=KZ9 (HCSH.out.bel.trans (hb6.mono (by omega)));have hs6:=hb6.size;have k5:=c16.c 4 _ rfl;clear ho6 c16 hb6 k4 HCSH HOW;go_wp2_with fail
  all_goals try omega
  refine (HSC.out H' _ (z+2) w6 HO6.out (by omega) (by omega)).mono ?_;rintro e w7 ⟨v',H2,rfl,hS,hb7⟩;have hs7:=hb7.size;have c17:=HC6.out.below (by omega) hb7;have hvc:=c17.set 4 (by simp) v';have hz7:=(HZ6.out.below (by omega) hb7).other (show z≠z+1 by omega) 4 v';have HA7:=KZ9 ((HA6.out.trans (hb7.mono (by omega))).trans (zB w7 (z+1) 4 v' (show z≤z+1 by omega)));have m4:=c17.f 4;have k4:=c17.c 4 _ rfl;obtain ⟨a9,n9,c9,rfl⟩:=hS.2;have HS7:=KZ9 hS.1;obtain ⟨W8,hW8⟩:=KZ6 (w7.setCell ⟨z+1,4,none⟩ (.slice a9 n9 c9));have HW8:Hid (w7.setCell ⟨z+1,4,none⟩ (.slice a9 n9 c9)=W8):=KZ9 hW8.symm;rw [←hW8] at hvc hz7 HA7;have hS8:Strs W8 (.slice a9 n9 c9) H2∧∀ w'',(∀ j,z+2≤j→w''.heap[j]? =W8.heap[j]?)→w''.heap.size=W8.heap.size→Strs w'' (.slice a9 n9 c9) H2:=by
   have hh:∀ j,z+2≤j→W8.heap[j]? =w7.heap[j]? :=fun j hj=>by rw [hW8];exact Below.heap_setCell w7 ⟨z+1,4,none⟩ _ j (by simp;omega)
   have hz:W8.heap.size=w7.heap.size:=by rw [hW8];simp
   exact ⟨HS7.out _ hh hz,fun w'' h1 h2=>HS7.out _ (fun j hj=>(h1 j hj).trans (hh j hj)) (h2.trans hz)⟩
  have HS8:=KZ9 hS8.2;have HC8:=KZ9 hvc;have HZ8:=KZ9 hz7;clear hS hS8 hb7 hW8 HS7 hvc hz7 c17 k5 HC6 HZ6 HA6 HO6;go_upto_region 25 with fail
  all_goals try omega
  rw [HW8.out];clear HW8 k4 m4;go_wp2_with (first
   | refine wpList_load_row rfl 41 (.tmp 4) rfl (z+1) rfl 41 _ _ _ HC8.out Tryz.underlying41 rfl wS ?_
   | refine wpList_store_row rfl 41 (.tmp 2) (.tmp 106) rfl z (zZ ⟨s,p,up,bl,H2⟩ (.slice a9 n9 c9)).toArray rfl rfl 41 _ HZ8.out wS rfl (by simp [zZ,Value.oneCell']) ?_)
  all_goals try omega
  refine bodyPost_ret (zf rfl _ _ z 41 _ _ rfl (HZ8.out.setRow (zZ ⟨s,p,up,bl,H2⟩ (.slice a9 n9 c9))) Tryz.underlying41 rfl wS) rfl ?_;refine ⟨.inr ⟨⟨s,p,up,bl,H2⟩,_,rfl,HS8.out _ (fun j hj=>setRow_other W8 z j _ (by omega)) (by simp [World.setRow])⟩,HZ.out▸below_setRow HA7.out (Nat.le_refl _) _⟩
theorem TF {l:Bs} {u:UrlP} (h:sI l=some u) (hl:l.length≤1500):UK (yd u):=by
 obtain ⟨hc,hn⟩:=Yi h;have h3:=Ju hc;have h2:=pn h3;have h4:=P9 u;exact ⟨gH h3,by omega,by omega,by omega,by omega,Vb h3⟩
set_option maxRecDepth 100000
set_option maxHeartbeats 16000000
theorem TS (d:Int) (w:World):Calls Tryz.prog 20 #[.int .i64 d] w fun e w'=>e= .returned (.bool (xO d))∧w=w':=by
 by_cases h1:1≤d
 ·have g1:decide (1≤d)=true:=KZ7 h1;have hdef:xO d=decide (d≤22):=by unfold xO;simp [h1]
  have HD:=KZ9 hdef;clear hdef;go_enter Tryz.func20,Tryz.ntmps20
  go_wp2
  all_goals try omega
  go_ret;rw [HD.out];exact ⟨by first | rfl | (congr 2;simp),rfl⟩
 have g1:decide (1≤d)=false:=KZ8 h1;have hdef:xO d=false:=by unfold xO;simp [h1]
 have HD:=KZ9 hdef;clear hdef;go_enter Tryz.func20,Tryz.ntmps20
 go_wp2
 all_goals try omega
 go_ret;rw [HD.out];exact ⟨rfl,rfl⟩
end Go.Proofs.YtjbciamhhfcdoaaGreatDoor
namespace Hs
open Go
def vm (now:Int) (p:PinP) (x:Bs):Bool:=decide (now<p.expiry)&&(zJ x&&(decide (p.host=x)||(p.sub&&xM p.host x)))
def wt (p:EntP) (x:Bs):Bool:=zJ x&&(decide (p.host=x)||(p.sub&&xM p.host x))
theorem pj {α:Type} {T:List α} (f:α→Bs) (hs:SortH (T.map f)) (x:Bs) (p:α):T.find? (fun p=>decide (f p=x))=some p↔p∈T∧f p=x:=by
 constructor
 ·intro h;exact ⟨List.mem_of_find?_eq_some h,by simpa using List.find?_some h⟩
 rintro ⟨hp,rfl⟩;obtain ⟨i,hi,rfl⟩:=List.getElem_of_mem hp;exact Y4 f hs hi
theorem QA {L:List EntP} (hs:SortH (L.map (·.host))) (x:Bs) (ex:Bool):(covAt.covL L x ex).isSome=true↔∃ p∈L,p.host=x∧(ex=true∨p.sub=true):=by
 unfold covAt.covL;cases h:L.find? (fun q=>decide (q.host=x)) with
 | none =>
  rw [List.find?_eq_none] at h;constructor
  ·intro h2;cases h2
  rintro ⟨p,hp,hx,_⟩;have:=h p hp;simp [hx] at this
 | some q =>
  obtain ⟨hq,hx⟩:=(pj (fun q:EntP=>q.host) hs x q).1 h;constructor
  ·intro h2;by_cases h3:ex=true∨q.sub=true
   ·exact ⟨q,hq,hx,h3⟩
   simp only [if_neg h3] at h2;cases h2
  rintro ⟨p,hp,hpx,h3⟩;have e:=(pj (fun q:EntP=>q.host) hs x p).2 ⟨hp,hpx⟩;rw [h] at e;obtain rfl:q=p:=Option.some.inj e;simp only [if_pos h3];rfl
theorem Z5 {T:List PinP} {L:List EntP} (hT:SortH (T.map (·.host))) (hL:SortH (L.map (·.host))) (now:Int) (x:Bs) (ex:Bool):(covAt now T L x ex).isSome=true↔(∃ p∈T,p.host=x∧now<p.expiry∧(ex=true∨p.sub=true))∨(∃ p∈L,p.host=x∧(ex=true∨p.sub=true)):=by
 rw [←QA hL];unfold covAt;cases h:T.find? (fun q=>decide (q.host=x)) with
 | none =>
  rw [List.find?_eq_none] at h;constructor
  ·intro h2;exact .inr h2
  rintro (⟨p,hp,hx,_⟩ | h2)
  ·have:=h p hp;simp [hx] at this
  exact h2
 | some q =>
  obtain ⟨hq,hx⟩:=(pj (fun q:PinP=>q.host) hT x q).1 h;by_cases h3:¬ q.expiry≤now∧(ex=true∨q.sub=true)
  ·simp only [if_pos h3];exact ⟨fun _=> .inl ⟨q,hq,hx,by omega,h3.2⟩,fun _=>rfl⟩
  simp only [if_neg h3];constructor
  ·intro h2;exact .inr h2
  rintro (⟨p,hp,hpx,h4,h5⟩ | h2)
  ·have e:=(pj (fun q:PinP=>q.host) hT x p).2 ⟨hp,hpx⟩;rw [h] at e;obtain rfl:q=p:=Option.some.inj e;exact absurd ⟨by omega,h5⟩ h3
  exact h2
theorem Z4 {now:Int} {T:List PinP} {L:List EntP} {x:Bs} {ex:Bool} {c:CovP} (h:covAt now T L x ex=some c):c.source≠0:=by
 have hl:∀ c,covAt.covL L x ex=some c→c.source≠0:=fun c h=>by
  unfold covAt.covL at h;split at h
  ·split at h
   ·cases h;simp
   cases h
  cases h
 unfold covAt at h;split at h
 ·split at h
  ·cases h;simp
  exact hl c h
 exact hl c h
theorem gF (now:Int) (T:List PinP) (L:List EntP):∀ S:List Bs,(wH now T L S).source≠0↔∃ s∈S,(covAt now T L s false).isSome=true
 | []=>by simp [wH,cov0]
 | s::r=>by
  unfold wH;cases h:covAt now T L s false with
  | some c =>
   constructor
   ·intro _;exact ⟨s,List.mem_cons_self,by rw [h];rfl⟩
   intro _;exact Z4 h
  | none =>
   have ih:=gF now T L r;constructor
   ·intro h2;obtain ⟨t,ht,h3⟩:=ih.1 h2;exact ⟨t,List.mem_cons_of_mem _ ht,h3⟩
   rintro ⟨t,ht,h3⟩;rcases List.mem_cons.1 ht with rfl | ht
   ·rw [h] at h3;cases h3
   exact ih.2 ⟨t,ht,h3⟩
theorem PW {T:List PinP} {L:List EntP} (hT:SortH (T.map (·.host))) (hL:SortH (L.map (·.host))) (hTn:∀ p∈T,zJ p.host=true) (hLn:∀ p∈L,zJ p.host=true) (now:Int) (h:HostP) (hk:h.kind=1) (ho:zT h=true) (hn:zJ h.name=true) :
  (uT now T L h).source≠0↔(∃ p∈T,vm now p h.name=true)∨(∃ p∈L,wt p h.name=true):=by
 have key:(uT now T L h).source≠0↔(covAt now T L h.name true).isSome=true∨∃ s∈yl h.name,(covAt now T L s false).isSome=true:=by
  unfold uT;rw [if_pos ⟨hk,ho⟩];cases h2:covAt now T L h.name true with
  | some c=>exact ⟨fun _=> .inl rfl,fun _=>Z4 h2⟩
  | none =>
   rw [gF];exact ⟨fun h3=> .inr h3,fun h3=>h3.elim (fun h4=>by cases h4) id⟩
 rw [key,Z5 hT hL];simp only [Z5 hT hL];have hcov:∀ s,zJ s=true→(xM s h.name=true↔(s=h.name∨s∈yl h.name)):=fun s hs=>by
  unfold xM;rw [hs,hn];simp
 constructor
 ·rintro ((⟨p,hp,hx,he,_⟩ | ⟨p,hp,hx,_⟩) | ⟨s,hs,⟨p,hp,hx,he,h5⟩ | ⟨p,hp,hx,h5⟩⟩)
  ·exact .inl ⟨p,hp,by unfold vm;simp [he,hn,hx]⟩
  ·exact .inr ⟨p,hp,by unfold wt;simp [hn,hx]⟩
  ·have h6:p.sub=true:=by simpa using h5
   have h7:xM p.host h.name=true:=(hcov _ (hTn p hp)).2 (.inr (hx▸hs));exact .inl ⟨p,hp,by unfold vm;simp [he,hn,h6,h7]⟩
  have h6:p.sub=true:=by simpa using h5
  have h7:xM p.host h.name=true:=(hcov _ (hLn p hp)).2 (.inr (hx▸hs));exact .inr ⟨p,hp,by unfold wt;simp [hn,h6,h7]⟩
 rintro (⟨p,hp,h2⟩ | ⟨p,hp,h2⟩)
 ·unfold vm at h2;simp only [Bool.and_eq_true,Bool.or_eq_true,decide_eq_true_eq] at h2;obtain ⟨he,_,h3 | ⟨h4,h5⟩⟩:=h2
  ·exact .inl (.inl ⟨p,hp,h3,he,by simp⟩)
  rcases (hcov _ (hTn p hp)).1 h5 with h6 | h6
  ·exact .inl (.inl ⟨p,hp,h6,he,by simp⟩)
  exact .inr ⟨p.host,h6,.inl ⟨p,hp,rfl,he,.inr h4⟩⟩
 unfold wt at h2;simp only [Bool.and_eq_true,Bool.or_eq_true,decide_eq_true_eq] at h2;obtain ⟨_,h3 | ⟨h4,h5⟩⟩:=h2
 ·exact .inl (.inr ⟨p,hp,h3,by simp⟩)
 rcases (hcov _ (hLn p hp)).1 h5 with h6 | h6
 ·exact .inl (.inr ⟨p,hp,h6,by simp⟩)
 exact .inr ⟨p.host,h6,.inr ⟨p,hp,rfl,.inr h4⟩⟩
end Hs
namespace Go.Proofs.YtjbciamhhfcdoaaGreatDoor
open Go.RowKit Hs
theorem Xz (x:Bs) (w:World) (h:x.length≤100000):Calls Tryz.prog 7 #[.string (mk x)] w fun e w'=>e= .returned (.bool (zJ x))∧Below w.heap.size w w':=by
 have:=vQ (mk x) w (by rw [zh];exact h);rw [zj] at this;exact this
theorem UX (s x:Bs) (w:World) (hs:s.length≤100000) (h:x.length≤100000):Calls Tryz.prog 12 #[.string (mk s),.string (mk x)] w fun e w'=>e= .returned (.bool (xM s x))∧Below w.heap.size w w':=by
 have:=kg (mk s) (mk x) w (by rw [zh];exact hs) (by rw [zh];exact h);rw [zj,zj] at this;exact this
set_option maxRecDepth 20000
set_option maxHeartbeats 8000000
theorem VB (p:EntP) (x:Bs) (w:World) (hp:p.host.length≤100000) (hx:x.length≤100000):Calls Tryz.prog 95 #[.agg #[.string (mk p.host),.bool p.sub],.string (mk x)] w fun e w'=>e= .returned (.bool (wt p x))∧Below w.heap.size w w':=by
 obtain ⟨W0,hW0⟩:=KZ6 (w.alloc (.cells #[.string (mk p.host),.bool p.sub] 87));have hbA:Below w.heap.size w W0:=by rw [hW0];exact (Below.refl _ w).alloc (Nat.le_refl _) _
 have hb0:BlkL W0 w.heap.size 87 [.string (mk p.host),.bool p.sub]:=by rw [hW0];exact BlkL.new w _ _
 have HW0:Hid (w.alloc (.cells #[.string (mk p.host),.bool p.sub] 87)=W0):=KZ9 hW0.symm;have hsz:W0.heap.size=w.heap.size+1:=by rw [hW0];simp
 have HNA:=KZ9 (fun W=>Xz x W hx);have HCO:=KZ9 (fun W=>UX p.host x W hp hx);have HBA:=KZ9 hbA;have HB0:=KZ9 hb0;obtain ⟨a,ha⟩:=KZ6 (zJ x);obtain ⟨c,hc⟩:=KZ6 (xM p.host x);obtain ⟨q,hq⟩:=KZ6 (decide (p.host=x));have hqq:((mk p.host).toList==(mk x).toList)=q:=by
  rw [hq,toList_mk',toList_mk'];by_cases h:p.host=x<;>simp [h]
 simp only [←ha] at HNA;simp only [←hc] at HCO;have HFIN:Hid (wt p x=(a&&(q||(p.sub&&c)))):=KZ9 (by rw [ha,hc,hq];rfl);clear hW0 hbA hb0 ha hc hq;have b0:=HB0.out.c 0 _ rfl;have b1:=HB0.out.c 1 _ rfl;go_enter Tryz.func95,Tryz.ntmps95
 go_wp2_with fail
 rw [HW0.out];clear HW0;refine (HNA.out _).mono ?_;rintro e w1 ⟨rfl,hb1⟩;have hs1:=hb1.size;have HB1:=KZ9 (HB0.out.below (by omega) hb1);have HA1:=KZ9 (HBA.out.trans (hb1.mono (by omega)));clear hb1 b0 b1 HB0 HBA;have b0:=HB1.out.c 0 _ rfl;have b1:=HB1.out.c 1 _ rfl;cases a
 ·go_wp2_with fail
  all_goals try omega
  go_ret;rw [HFIN.out];exact ⟨rfl,HA1.out⟩
 cases q
 ·cases hps:p.sub
  ·rw [hps] at b1 HFIN;go_wp2_with fail
   all_goals try omega
   go_ret;rw [HFIN.out];exact ⟨rfl,HA1.out⟩
  rw [hps] at b1 HFIN;go_wp2_with fail
  all_goals try omega
  refine (HCO.out _).mono ?_;rintro e w2 ⟨rfl,hb2⟩;have HA2:=KZ9 (HA1.out.trans (hb2.mono HA1.out.size));clear hb2;go_wp2_with fail
  all_goals try omega
  go_ret;rw [HFIN.out];exact ⟨by cases c<;>rfl,HA2.out⟩
 go_wp2_with fail
 all_goals try omega
 go_ret;rw [HFIN.out];exact ⟨rfl,HA1.out⟩
theorem VA (p:PinP) (x:Bs) (now:Int) (w:World) (hp:p.host.length≤100000) (hx:x.length≤100000):Calls Tryz.prog 55 #[.agg #[.string (mk p.host),.bool p.sub,.int .i64 p.expiry],.int .i64 now,.string (mk x)] w fun e w'=>e= .returned (.bool (vm now p x))∧Below w.heap.size w w':=by
 obtain ⟨W0,hW0⟩:=KZ6 (w.alloc (.cells #[.string (mk p.host),.bool p.sub,.int .i64 p.expiry] 23));have hbA:Below w.heap.size w W0:=by rw [hW0];exact (Below.refl _ w).alloc (Nat.le_refl _) _
 have hb0:BlkL W0 w.heap.size 23 [.string (mk p.host),.bool p.sub,.int .i64 p.expiry]:=by rw [hW0];exact BlkL.new w _ _
 have HW0:Hid (w.alloc (.cells #[.string (mk p.host),.bool p.sub,.int .i64 p.expiry] 23)=W0):=KZ9 hW0.symm;have hsz:W0.heap.size=w.heap.size+1:=by rw [hW0];simp
 have HNA:=KZ9 (fun W=>Xz x W hx);have HCO:=KZ9 (fun W=>UX p.host x W hp hx);have HBA:=KZ9 hbA;have HB0:=KZ9 hb0;obtain ⟨a,ha⟩:=KZ6 (zJ x);obtain ⟨c,hc⟩:=KZ6 (xM p.host x);obtain ⟨q,hq⟩:=KZ6 (decide (p.host=x));have hqq:((mk p.host).toList==(mk x).toList)=q:=by
  rw [hq,toList_mk',toList_mk'];by_cases h:p.host=x<;>simp [h]
 simp only [←ha] at HNA;simp only [←hc] at HCO;have HFIN:Hid (vm now p x=(decide (now<p.expiry)&&(a&&(q||(p.sub&&c))))):=KZ9 (by rw [ha,hc,hq];rfl);clear hW0 hbA hb0 ha hc hq;obtain ⟨b0,b1,b2⟩:=BlkL.cs3 HB0.out;by_cases hex:now<p.expiry;rotate_left
 ·have g1:decide (now<p.expiry)=false:=KZ8 hex;go_enter Tryz.func55,Tryz.ntmps55
  go_wp2_with fail
  rw [HW0.out]
  all_goals try omega
  go_ret;rw [HFIN.out,g1];exact ⟨rfl,HBA.out⟩
 have g1:decide (now<p.expiry)=true:=KZ7 hex;rw [g1,Bool.true_and] at HFIN;go_enter Tryz.func55,Tryz.ntmps55
 go_wp2_with fail
 rw [HW0.out];clear HW0;refine (HNA.out _).mono ?_;rintro e w1 ⟨rfl,hb1⟩;have hs1:=hb1.size;have HB1:=KZ9 (HB0.out.below (by omega) hb1);have HA1:=KZ9 (HBA.out.trans (hb1.mono (by omega)));clear hb1 b0 b1 HB0 HBA;have b0:=HB1.out.c 0 _ rfl;have b1:=HB1.out.c 1 _ rfl;cases a
 ·go_wp2_with fail
  all_goals try omega
  go_ret;rw [HFIN.out];exact ⟨rfl,HA1.out⟩
 cases q
 ·cases hps:p.sub
  ·rw [hps] at b1 HFIN;go_wp2_with fail
   all_goals try omega
   go_ret;rw [HFIN.out];exact ⟨rfl,HA1.out⟩
  rw [hps] at b1 HFIN;go_wp2_with fail
  all_goals try omega
  refine (HCO.out _).mono ?_;rintro e w2 ⟨rfl,hb2⟩;have HA2:=KZ9 (HA1.out.trans (hb2.mono HA1.out.size));clear hb2;go_wp2_with fail
  all_goals try omega
  go_ret;rw [HFIN.out];exact ⟨by cases c<;>rfl,HA2.out⟩
 go_wp2_with fail
 all_goals try omega
 go_ret;rw [HFIN.out];exact ⟨rfl,HA1.out⟩
end Go.Proofs.YtjbciamhhfcdoaaGreatDoor
namespace Hs
open Go
def BestE (l:List EntP) (x:Bs) (p:EntP):Prop:=(p.host=[]∧∀ q∈l,wt q x=false)∨(p.host≠[]∧∃ q∈l,wt q x=true)
theorem Qg {q:EntP} {x:Bs} (h:wt q x=true):q.host≠[]:=by
 have hne:zJ []=false:=by decide
 unfold wt at h;simp only [Bool.and_eq_true,Bool.or_eq_true,decide_eq_true_eq] at h;obtain ⟨h1,h2 | ⟨_,h2⟩⟩:=h
 ·intro e;rw [h2] at e;rw [e,hne] at h1;cases h1
 intro e;unfold xM at h2;rw [e,hne] at h2;cases h2
theorem BestE.keep {L:List EntP} {x:Bs} {p:EntP} {k:Nat} (h:BestE (L.take k) x p) (hk:k<L.length) (hn:(wt L[k] x&&decide (p.host.length<L[k].host.length))=false):BestE (L.take (k+1)) x p:=by
 rw [List.take_succ_eq_append_getElem hk];rcases h with ⟨h1,h2⟩ | ⟨h1,q,h2,h3⟩
 ·refine .inl ⟨h1,fun q hq=> ?_⟩;rcases List.mem_append.1 hq with hq | hq
  ·exact h2 q hq
  obtain rfl:q=L[k]:=by simpa using hq
  cases hc:wt L[k] x
  ·rfl
  have hne:=Qg hc;rw [hc,h1] at hn;have:0<L[k].host.length:=List.length_pos_iff.2 hne;simp at hn;exact absurd hn hne
 exact .inr ⟨h1,q,List.mem_append_left _ h2,h3⟩
theorem BestE.take {L:List EntP} {x:Bs} {k:Nat} (hk:k<L.length) (hc:wt L[k] x=true):BestE (L.take (k+1)) x L[k]:=by
 rw [List.take_succ_eq_append_getElem hk];exact .inr ⟨Qg hc,L[k],List.mem_append_right _ (List.mem_singleton.2 rfl),hc⟩
theorem BestE.fin {L:List EntP} {x:Bs} {p:EntP} (h:BestE L x p):(!(decide (p.host=[])))=true↔∃ q∈L,wt q x=true:=by
 rcases h with ⟨h1,h2⟩ | ⟨h1,h2⟩
 ·simp only [h1,decide_true,Bool.not_true];exact ⟨fun h=>(by cases h),fun ⟨q,hq,hc⟩=>(by rw [h2 q hq] at hc;cases hc)⟩
 simp only [h1,decide_false,Bool.not_false];exact ⟨fun _=>h2,fun _=>trivial⟩
end Hs
namespace Go.Proofs.YtjbciamhhfcdoaaGreatDoor
open Go.RowKit Hs
theorem RW:(Tryz.prog.info? 87).map (·.size)=some 2:=by kernel_rfl
set_option maxRecDepth 20000
set_option maxHeartbeats 8000000
theorem Rl (v:Value) (L:List EntP) (x:Bs) (w:World) (hL:Ents w v L) (hs:∀ p∈L,p.host.length≤100000) (hx:x.length≤100000):Calls Tryz.prog 54 #[v,.string (mk x)] w fun e w'=>(∃ (p:EntP),e= .returned (.tuple #[.agg #[.string (mk p.host),.bool p.sub],.bool (!(decide (p.host=[])))])∧BestE L x p)∧Below w.heap.size w w':=by
 obtain ⟨a,cap,rfl,h1,h2,hc⟩:=hL.open;unfold maxLen at h2;have HC:=KZ9 hc;have HS:=KZ9 hs;obtain ⟨z,hz⟩:=KZ6 w.heap.size;have HZ:=KZ9 hz;obtain ⟨n,hn⟩:=KZ6 L.length;have HN:=KZ9 hn;rw [←hn] at h1 ⊢;obtain ⟨W0,hW0⟩:=KZ6 ((w.alloc (.cells #[.string ⟨#[]⟩,.bool false] 87)).alloc (.cells #[.string ⟨#[]⟩,.bool false] 87));have hbA:Below z w W0:=by rw [hW0,hz];exact ((Below.refl _ w).alloc (Nat.le_refl _) _).alloc (by simp) _
 have hb0:BlkL W0 z 87 [.string ⟨#[]⟩,.bool false]:=by rw [hW0,hz];exact (BlkL.new w _ [.string ⟨#[]⟩,.bool false]).alloc _
 have hb1:BlkL W0 (z+1) 87 [.string (mk []),.bool false]:=by
  rw [hW0,hz];have:=BlkL.new (w.alloc (.cells #[.string ⟨#[]⟩,.bool false] 87)) 87 [.string ⟨#[]⟩,.bool false];simp only [World.size_alloc] at this;exact this
 have HW0:Hid ((w.alloc (.cells #[.string ⟨#[]⟩,.bool false] 87)).alloc (.cells #[.string ⟨#[]⟩,.bool false] 87)=W0):=KZ9 hW0.symm;have HBA:=KZ9 hbA;have HB0:=KZ9 hb0;have HB1:=KZ9 hb1;have HCO:=KZ9 (fun (p:EntP) (hp:p.host.length≤100000) W=>VB p x W hp hx);clear hL hs hc hn hW0 hbA hb0 hb1 hz hx;go_enter Tryz.func54,Tryz.ntmps54
 go_wp2_with fail
 all_goals try omega
 rw [HW0.out,←HZ.out];clear HW0;go_loopw [7] (fun iv wr=>∃ (k:Nat) (p:EntP),iv= .int .i64 k∧k≤n∧p.host.length≤100000∧Hid (BestE (L.take k) x p)∧Hid (BlkL wr z 87 [.string ⟨#[]⟩,.bool false])∧Hid (BlkL wr (z+1) 87 [.string (mk p.host),.bool p.sub])∧Hid (Below z w wr)) (fun iv _=>n - (intOf iv).toNat)
 case atStart=>exact ⟨0,⟨[],false⟩,rfl,by omega,by simp,KZ9 (.inl ⟨rfl,fun q hq=>by simp at hq⟩),HB0,HB1,HBA⟩
 case round =>
  obtain ⟨k,p,rfl,hk,hpl,hbest,hz0,hz1,hbl⟩:=hrel;by_cases hlt:k<n
  ·have hkL:k<L.length:=by rw [←HN.out];exact hlt
   obtain ⟨b,off,rfl,hb,hcc⟩:=HC.out (by omega);have hl:=hz1.out.lt;have hkc:=hcc k hkL;have hbw:b<z:=by rw [HZ.out];exact hb
   have d0:=(hbl.out.cell (p:=⟨b,off+k*2,none⟩) hbw).trans hkc.1;have d1:=(hbl.out.cell (p:=⟨b,off+k*2+1,none⟩) hbw).trans hkc.2;have hql:=HS.out L[k] (List.getElem_mem hkL);have HKEEP:=KZ9 (BestE.keep hbest.out hkL);have HTAKE:=KZ9 (BestE.take (x:=x) hkL);obtain ⟨q,hq⟩:=KZ6 (L[k]);rw [←hq] at d0 d1 hql HKEEP HTAKE;have q0:=fun y:yg wr=>((y.2.cell (p:=⟨b,off+k*2,none⟩) (by have:=hbl.out.size;show b<wr.heap.size;omega)).trans d0);have q1:=fun y:yg wr=>((y.2.cell (p:=⟨b,off+k*2+1,none⟩) (by have:=hbl.out.size;show b<wr.heap.size;omega)).trans d1);have e0:=fun y:yg wr=>(hz1.out.below hl y.2).c 0 _ rfl;have e1:=fun y:yg wr=>(hz1.out.below hl y.2).c 1 _ rfl;have HCQ:=KZ9 (HCO.out q hql);have hs1:(mk q.host).size=q.host.length:=zh _;have hs2:(mk p.host).size=p.host.length:=zh _;obtain ⟨cv,hcv⟩:=KZ6 (wt q x);rw [←hcv] at HCQ HKEEP HTAKE
   clear hcv hq hcc hkc;have HK0:=KZ9 hkL;cases cv
   ·go_upto_region 5 with fail
    all_goals try omega
    refine zM wr (by kernel_rfl) (by kernel_rfl) (Below.refl _ _) ?_;repeat (go_big_quiet_step (fail))
    go_big_quiet_step (exact Calls.later (HCQ.out _))
    repeat (go_big_quiet_step (fail))
    refine wpQuiet_nil ?_;intro w5 hw';obtain ⟨⟨w6,hb6⟩,hw6⟩:=hw';have hb5:Below wr.heap.size wr w5:=hw6▸hb6;have HC0:=KZ9 (hz0.out.below (by omega) hb5);have HC1:=KZ9 (hz1.out.below hl hb5);have HCB:=KZ9 (hbl.out.trans (hb5.mono (by omega)));have HKP:=KZ9 (HKEEP.out (by simp));clear hw6 hb6 hb5 q0 q1 e0 e1 d0 d1 HKEEP HTAKE;go_wp2
    all_goals try omega
    go_roundw
    case rel=>exact ⟨k+1,p,by go_num,by omega,hpl,HKP,HC0,HC1,HCB⟩
    case measure=>simp [intOf];omega
   by_cases hlen:p.host.length<q.host.length
   ·have g1:decide ((p.host.length:Int)<(q.host.length:Int))=true:=KZ7 (by omega);go_upto_region 5 with fail
    all_goals try omega
    refine zM wr (by kernel_rfl) (by kernel_rfl) (Below.refl _ _) ?_;repeat (go_big_quiet_step (fail))
    go_big_quiet_step (exact Calls.later (HCQ.out _))
    repeat (go_big_quiet_step (fail))
    refine wpQuiet_nil ?_;intro w5 hw';obtain ⟨⟨w6,hb6⟩,hw6⟩:=hw';have hb5:Below wr.heap.size wr w5:=hw6▸hb6;have f0:=q0 ⟨w5,hb5⟩;have f1:=q1 ⟨w5,hb5⟩;simp only at f0 f1;have HC0:=KZ9 (hz0.out.below (by omega) hb5);have HC1:=KZ9 (hz1.out.below hl hb5);have HCB:=KZ9 (hbl.out.trans (hb5.mono (by omega)));have c0:=HC1.out.c 0 _ rfl;have c1:=HC1.out.c 1 _ rfl;have m0:=HC1.out.f 0;have m1:=HC1.out.f 1;have HKP:=KZ9 (HTAKE.out rfl);clear hw6 hb6 hb5 q0 q1 e0 e1 d0 d1 HKEEP HTAKE;go_wp2
    all_goals try omega
    go_roundw
    case rel=>exact ⟨k+1,q,by go_num,by omega,hql,HKP,KZ9 ((HC0.out.other (by omega) _ _).other (by omega) _ _),KZ9 ((HC1.out.set 0 (by simp) _).set 1 (by simp) _),KZ9 ((HCB.out.trans (zB _ _ _ _ (by omega))).trans (zB _ _ _ _ (by omega)))⟩
    case measure=>simp [intOf];omega
   have g1:decide ((p.host.length:Int)<(q.host.length:Int))=false:=KZ8 (by omega);go_upto_region 5 with fail
   all_goals try omega
   refine zM wr (by kernel_rfl) (by kernel_rfl) (Below.refl _ _) ?_;repeat (go_big_quiet_step (fail))
   go_big_quiet_step (exact Calls.later (HCQ.out _))
   repeat (go_big_quiet_step (fail))
   refine wpQuiet_nil ?_;intro w5 hw';obtain ⟨⟨w6,hb6⟩,hw6⟩:=hw';have hb5:Below wr.heap.size wr w5:=hw6▸hb6;have HC0:=KZ9 (hz0.out.below (by omega) hb5);have HC1:=KZ9 (hz1.out.below hl hb5);have HCB:=KZ9 (hbl.out.trans (hb5.mono (by omega)));have HKP:=KZ9 (HKEEP.out (by simp [hlen]));clear hw6 hb6 hb5 q0 q1 e0 e1 d0 d1 HKEEP HTAKE;go_wp2
   all_goals try omega
   go_roundw
   case rel=>exact ⟨k+1,p,by go_num,by omega,hpl,HKP,HC0,HC1,HCB⟩
   case measure=>simp [intOf];omega
  have hkn:k=n:=by omega
  have HBE:Hid (BestE L x p):=KZ9 (by
   have h:=hbest.out;rw [hkn,HN.out,List.take_length] at h;exact h)
  have e0:=hz1.out.c 0 _ rfl;have e1:=hz1.out.c 1 _ rfl;have r0:=hz0.out.c 0 _ rfl;have r1:=hz0.out.c 1 _ rfl;have s0:=hz0.out.f 0;have s1:=hz0.out.f 1;have he:((mk p.host).toList==([]:Bs))=decide (p.host=[]):=by rw [toList_mk'];by_cases h:p.host=[]<;>simp [h]
  clear hbest hkn;go_upto_region 7 with fail
  all_goals try omega
  go_region_with (fail)
  all_goals
   go_wp2
   all_goals try omega
   refine bodyPost_ret (zf rfl _ _ z 87 _ _ rfl (((hz0.out.drew).set 0 (by simp) (.string (mk p.host))).set 1 (by simp) (.bool p.sub)) Tryz.underlying87 rfl RW) rfl ?_;exact ⟨⟨p,rfl,HBE.out⟩,HZ.out▸((below_drewN hbl.out 1).trans (zB _ _ _ _ (Nat.le_refl _))).trans (zB _ _ _ _ (Nat.le_refl _))⟩
end Go.Proofs.YtjbciamhhfcdoaaGreatDoor
namespace Hs
open Go
def FindP (now:Int) (T:List PinP) (x:Bs) (en:Prop) (c:CovP):Prop:=(c.source=0∧c.name=[]∧¬en∧∀ q∈T,vm now q x=false)∨(c.source≠0∧(en∨∃ q∈T,vm now q x=true))
theorem FindP.keep {now:Int} {T:List PinP} {x:Bs} {en:Prop} {c:CovP} {k:Nat} (h:FindP now (T.take k) x en c) (hk:k<T.length) (hn:(vm now T[k] x&&decide (c.name.length≤T[k].host.length))=false):FindP now (T.take (k+1)) x en c:=by
 rw [List.take_succ_eq_append_getElem hk];rcases h with ⟨h1,h2,h3,h4⟩ | ⟨h1,h2⟩
 ·refine .inl ⟨h1,h2,h3,fun q hq=> ?_⟩;rcases List.mem_append.1 hq with hq | hq
  ·exact h4 q hq
  obtain rfl:q=T[k]:=by simpa using hq
  rw [h2] at hn
  simpa using hn
 exact .inr ⟨h1,h2.imp id fun ⟨q,hq,hc⟩=>⟨q,List.mem_append_left _ hq,hc⟩⟩
theorem FindP.take {now:Int} {T:List PinP} {x:Bs} {en:Prop} {c:CovP} {k:Nat} (hk:k<T.length) (hc:vm now T[k] x=true) (h1:c.source≠0):FindP now (T.take (k+1)) x en c:=by
 rw [List.take_succ_eq_append_getElem hk];exact .inr ⟨h1,.inr ⟨T[k],List.mem_append_right _ (List.mem_singleton.2 rfl),hc⟩⟩
theorem FindP.fin {now:Int} {T:List PinP} {x:Bs} {en:Prop} {c:CovP} (h:FindP now T x en c):c.source≠0↔en∨∃ q∈T,vm now q x=true:=by
 rcases h with ⟨h1,_,h3,h4⟩ | ⟨h1,h2⟩
 ·exact ⟨fun h=>absurd h1 h,fun h=>h.elim (fun e=>absurd e h3) fun ⟨q,hq,hc⟩=>(by rw [h4 q hq] at hc;cases hc)⟩
 exact ⟨fun _=>h2,fun _=>h1⟩
end Hs
namespace Go.Proofs.YtjbciamhhfcdoaaGreatDoor
open Go.RowKit Hs
theorem qa {P:Program} {fn:Func} {p:Tmp} {ty:TypeId} (h:fn.results=#[.cell p ty]) (tmps:Array Value) (w:World) (g:Nat) (t:TypeId) (cs:Array Value) (d:TypeDesc)
  (hp:tmps.getD p undef= .pointer (some ⟨g,0,none⟩)) (hg:w.heap[g]? =some (.cells cs t (0,0))) (hu:P.underlying ty=some d) (hd:(match d with | .struct _ | .array _ _=>true | _=>false)=true) (hi:(P.info? ty).map (·.size)=some cs.size) :
  (results fn tmps).run P w= .ok (.agg cs) w:=by
 have hp':tmps[p]?.getD undef= .pointer (some ⟨g,0,none⟩):=by simpa using hp
 simp [results,h,hp',asAddr,run_loadVar_row w g t ty cs (0,0) d hg hu hd hi,Result.andThen]
set_option maxRecDepth 20000
set_option maxHeartbeats 8000000
theorem Rk (now:Int) (pv lv:Value) (T:List PinP) (L:List EntP) (h:HostP) (w:World) (hT:Pins w pv T) (hL:Ents w lv L) (hTs:∀ p∈T,p.host.length≤100000) (hLs:∀ p∈L,p.host.length≤100000) (hw:ym h) (hn:h.name.length≤100000) :
  Calls Tryz.prog 21 #[.int .i64 now,pv,lv,.agg (zc h).toArray] w fun e w'=>(∃ c:CovP,e= .returned (.agg (zm c).toArray)∧(c.source≠0↔(zT h=true∧h.kind=1∧((∃ q∈L,wt q h.name=true)∨∃ q∈T,vm now q h.name=true))))∧Below w.heap.size w w':=by
 obtain ⟨z,hz⟩:=KZ6 w.heap.size;have HZ:=KZ9 hz;obtain ⟨W0,hW0⟩:=KZ6 ((w.alloc (.cells (zc h).toArray 60)).alloc (.cells #[.int .i64 0,.string ⟨#[]⟩,.bool false] 67));have hbA:Below z w W0:=by rw [hW0,hz];exact ((Below.refl _ w).alloc (Nat.le_refl _) _).alloc (by simp) _
 have hb0:BlkL W0 z 60 (zc h):=by rw [hW0,hz];exact (BlkL.new w _ (zc h)).alloc _
 have hb1:BlkL W0 (z+1) 67 (zm cov0):=by
  rw [hW0,hz];have:=BlkL.new (w.alloc (.cells (zc h).toArray 60)) 67 (zm cov0);simp only [World.size_alloc] at this;exact this
 have HW0:Hid ((w.alloc (.cells (zc h).toArray 60)).alloc (.cells #[.int .i64 0,.string ⟨#[]⟩,.bool false] 67)=W0):=KZ9 hW0.symm;have hsz:W0.heap.size=z+2:=by rw [hW0,hz];simp
 have HVA:=KZ9 (fun W=>pE h W hw hn);have HF24:=KZ9 (fun (W:World) (hb:Below w.heap.size w W)=>Rl lv L h.name W (hL.below hb) hLs hn);have HPC:=KZ9 (fun (p:PinP) (hp:p.host.length≤100000) W=>VA p h.name now W hp hn);have HTP:=KZ9 hT;have HTS:=KZ9 hTs;have HH0:=KZ9 (xI (h:=h) hw.1);have HBA:=KZ9 hbA;have HB0:=KZ9 hb0;have HB1:=KZ9 hb1;clear hT hL hTs hLs hW0 hbA hb0 hb1 hz;go_enter Tryz.func21,Tryz.ntmps21
 go_upto_region 1 with fail
 rw [HW0.out,←HZ.out];clear HW0;go_wp2_with (refine wpList_load_row rfl 60 (.tmp 7) rfl z rfl 60 _ _ _ HB0.out Tryz.underlying60 rfl HH0.out ?_)
 all_goals try omega
 refine (HVA.out _).mono ?_;rintro e w1 ⟨rfl,hb1⟩;have hs1:=hb1.size;have HC0:=KZ9 (HB0.out.below (by omega) hb1);have HC1:=KZ9 (HB1.out.below (by omega) hb1);have HA1:=KZ9 (HBA.out.trans (hb1.mono (by omega)));have c0:=HC0.out.c 0 _ rfl;have c1:=HC0.out.c 1 _ rfl;clear hb1 HB0 HB1 HBA HVA HH0;by_cases hok:zT h=true;rotate_left
 ·have hok2:zT h=false:=by simpa using hok
  have HOK:=KZ9 hok;rw [hok2];clear hok hok2;go_wp2_with (refine wpList_store_row rfl 67 (.tmp 8) (.tmp 21) rfl (z+1) (zm cov0).toArray rfl rfl 67 _ HC1.out zS rfl (by simp [zm,cov0,Value.oneCell']) ?_)
  all_goals try omega
  refine bodyPost_ret (qa rfl _ _ (z+1) 67 _ _ rfl (HC1.out.setRow (zm cov0)) Tryz.underlying67 rfl zS) rfl ?_;exact ⟨⟨cov0,rfl,⟨fun h=>absurd rfl h,fun h=>absurd h.1 HOK.out⟩⟩,HZ.out▸below_setRow HA1.out (by omega) _⟩
 rw [hok];have HOK:=KZ9 hok;clear hok;by_cases hk:h.kind=1;rotate_left
 ·have g1:((h.kind:Int)==1)=false:=by simp;omega
  have g2:decide ((h.kind:Int)=1)=false:=KZ8 (by omega);have HK:=KZ9 hk;go_wp2_with (refine wpList_store_row rfl 67 (.tmp 8) (.tmp 21) rfl (z+1) (zm cov0).toArray rfl rfl 67 _ HC1.out zS rfl (by simp [zm,cov0,Value.oneCell']) ?_)
  all_goals try omega
  refine bodyPost_ret (qa rfl _ _ (z+1) 67 _ _ rfl (HC1.out.setRow (zm cov0)) Tryz.underlying67 rfl zS) rfl ?_;exact ⟨⟨cov0,rfl,⟨fun h=>absurd rfl h,fun h=>absurd h.2.1 HK.out⟩⟩,HZ.out▸below_setRow HA1.out (by omega) _⟩
 rw [hk] at c0;have HK:=KZ9 hk;clear hk;obtain ⟨x,hx⟩:=KZ6 h.name;rw [←hx] at c1;have HX:=KZ9 hx;clear hx;obtain ⟨W2,hW2⟩:=KZ6 (w1.alloc (.cells #[.int .i64 0,.string ⟨#[]⟩,.bool false] 67));have HW2:Hid (w1.alloc (.cells #[.int .i64 0,.string ⟨#[]⟩,.bool false] 67)=W2):=KZ9 hW2.symm;have hd0:BlkL W2 z 60 (zc h):=by rw [hW2];exact HC0.out.alloc _
 have hd1:BlkL W2 (z+1) 67 (zm cov0):=by rw [hW2];exact HC1.out.alloc _
 have hd2:BlkL W2 w1.heap.size 67 (zm cov0):=by rw [hW2];exact BlkL.new w1 _ (zm cov0)
 have hA2:Below z w W2:=by rw [hW2];exact HA1.out.alloc (by omega) _
 have hs2:W2.heap.size=w1.heap.size+1:=by rw [hW2];simp
 have HD0:=KZ9 hd0;have HD1:=KZ9 hd1;have HD2:=KZ9 hd2;have HA2:=KZ9 hA2;have e1:=hd0.c 1 _ rfl;rw [←HX.out] at e1;have HF:=KZ9 (HF24.out W2 (HZ.out▸hA2));rw [←HX.out] at HF HPC;clear hW2 hd0 hd1 hd2 hA2 c1 HC0 HC1 HA1 HF24;go_upto_region 4 with fail
 all_goals try omega
 rw [HW2.out];clear HW2;go_wp2_with fail
 all_goals try omega
 refine HF.out.mono ?_;rintro e w3 ⟨⟨p,rfl,hbe⟩,hb3⟩;have hs3:=hb3.size;obtain ⟨bt,hbt⟩:=KZ6 (!(decide (p.host=[])));have HEN:=KZ9 hbe.fin;rw [←hbt] at HEN;obtain ⟨W4,hW4⟩:=KZ6 (w3.alloc (.cells #[.string (mk p.host),.bool p.sub] 87));have HW4:Hid (w3.alloc (.cells #[.string (mk p.host),.bool p.sub] 87)=W4):=KZ9 hW4.symm;have hf0:BlkL W4 z 60 (zc h):=by rw [hW4];exact (HD0.out.below (by omega) hb3).alloc _
 have hf1:BlkL W4 (z+1) 67 (zm cov0):=by rw [hW4];exact (HD1.out.below (by omega) hb3).alloc _
 have hf2:BlkL W4 w1.heap.size 67 (zm cov0):=by rw [hW4];exact (HD2.out.below (by omega) hb3).alloc _
 have hf3:BlkL W4 w3.heap.size 87 [.string (mk p.host),.bool p.sub]:=by rw [hW4];exact BlkL.new w3 _ _
 have hA4:Below z w W4:=by rw [hW4];exact (HA2.out.trans (hb3.mono (by omega))).alloc (by omega) _
 have hs4:W4.heap.size=w3.heap.size+1:=by rw [hW4];simp
 have HE0:=KZ9 hf0;have HE1:=KZ9 hf1;have HE2:=KZ9 hf2;have HE3:=KZ9 hf3;have HA4:=KZ9 hA4;rw [←hbt];clear hW4 hf0 hf1 hf2 hf3 hA4 hb3 hbe hbt HF HD0 HD1 HD2 HA2 e1 c0;go_upto_if 29 with fail
 all_goals try omega
 rw [HW4.out];clear HW4;go_cut [] (fun wx=>∃ c:CovP,Hid (FindP now [] x (bt=true) c)∧BlkL wx z 60 (zc h)∧BlkL wx (z+1) 67 (zm cov0)∧BlkL wx w1.heap.size 67 (zm c)∧Below z w wx)
 case first =>
  cases bt
  ·go_wp2;go_meet;exact ⟨cov0,KZ9 (.inl ⟨rfl,rfl,by simp,by simp⟩),HE0.out,HE1.out,HE2.out,HA4.out⟩
  have m0:=HE3.out.c 0 _ rfl;have m1:=HE0.out.c 1 _ rfl;rw [←HX.out] at m1;have n0:=HE2.out.f 0;have n1:=HE2.out.f 1;have n2:=HE2.out.f 2;obtain ⟨o0,o1,o2⟩:=BlkL.cs3 HE2.out;have hqq:((mk p.host).toList==(mk x).toList)=decide (p.host=x):=by
   rw [toList_mk',toList_mk'];by_cases h:p.host=x<;>simp [h]
  go_wp2
  all_goals try omega
  go_meet;exact ⟨⟨2,p.host,decide (p.host=x)⟩,KZ9 (.inr ⟨by simp,.inl True.intro⟩),((HE0.out.other (by omega) _ _).other (by omega) _ _).other (by omega) _ _,((HE1.out.other (by omega) _ _).other (by omega) _ _).other (by omega) _ _,((HE2.out.set 0 (by simp [zm]) _).set 1 (by simp [zm]) _).set 2 (by simp [zm]) _,((HA4.out.trans (zB _ _ _ _ (by omega))).trans (zB _ _ _ _ (by omega))).trans (zB _ _ _ _ (by omega))⟩
 obtain ⟨c,hfp,hg0,hg1,hg2,hgA⟩:=hcut
 rename World=>w6
 obtain ⟨pa,pcap,rfl,p1,p2,pc⟩:=HTP.out.open;unfold maxLen at p2;have HPCC:=KZ9 pc;obtain ⟨n,hn⟩:=KZ6 T.length;have HN:=KZ9 hn;rw [←hn] at p1 ⊢;have HG0:=KZ9 hg0;have HG1:=KZ9 hg1;have HG2:=KZ9 hg2;have HGA:=KZ9 hgA;have hz1:z+1<w1.heap.size:=by omega
 obtain ⟨gc,hgc⟩:=KZ6 w1.heap.size;rw [←hgc] at HG2 hz1 ⊢;clear hg0 hg1 hg2 hgA pc hn hgc HE0 HE1 HE2 HE3 HA4;go_wp2_with fail
 all_goals try omega
 go_loopw [12] (fun iv wr=>∃ (k:Nat) (c:CovP),iv= .int .i64 k∧k≤n∧Hid (FindP now (T.take k) x (bt=true) c)∧Hid (BlkL wr z 60 (zc h))∧Hid (BlkL wr (z+1) 67 (zm cov0))∧Hid (BlkL wr gc 67 (zm c))∧Hid (Below z w wr)) (fun iv _=>n - (intOf iv).toNat)
 case atStart=>exact ⟨0,c,rfl,by omega,by rw [List.take_zero];exact hfp,HG0,HG1,HG2,HGA⟩
 case round =>
  obtain ⟨k,c,rfl,hk,hfp,hz0,hz1,hz2,hbl⟩:=hrel;have hlz:=hz2.out.lt;by_cases hlt:k<n
  ·have hkT:k<T.length:=by rw [←HN.out];exact hlt
   obtain ⟨b,off,rfl,hb,hcc⟩:=HPCC.out (by omega);have hkc:=hcc k hkT;have hbw:b<z:=by rw [HZ.out];exact hb
   have d0:=(hbl.out.cell (p:=⟨b,off+k*3,none⟩) hbw).trans hkc.1;have d1:=(hbl.out.cell (p:=⟨b,off+k*3+1,none⟩) hbw).trans hkc.2.1;have d2:=(hbl.out.cell (p:=⟨b,off+k*3+2,none⟩) hbw).trans hkc.2.2;have hql:=HTS.out T[k] (List.getElem_mem hkT);have HKEEP:=KZ9 (FindP.keep hfp.out hkT);have HTAKE:=KZ9 (fun c=>FindP.take (now:=now) (x:=x) (en:=bt=true) (c:=c) hkT);obtain ⟨q,hq⟩:=KZ6 (T[k]);rw [←hq] at d0 d1 d2 hql HKEEP HTAKE;have q0:=fun y:yg wr=>((y.2.cell (p:=⟨b,off+k*3,none⟩) (by show b<wr.heap.size;omega)).trans d0);have q1:=fun y:yg wr=>((y.2.cell (p:=⟨b,off+k*3+1,none⟩) (by show b<wr.heap.size;omega)).trans d1);have q2:=fun y:yg wr=>((y.2.cell (p:=⟨b,off+k*3+2,none⟩) (by show b<wr.heap.size;omega)).trans d2);have e0:=fun y:yg wr=>(hz0.out.below (by omega) y.2).c 1 _ rfl;rw [←HX.out] at e0
   have e1:=fun y:yg wr=>(hz2.out.below (by omega) y.2).c 1 _ rfl;have HCQ:=KZ9 (HPC.out q hql);have hs1':(mk q.host).size=q.host.length:=zh _;have hs2':(mk c.name).size=c.name.length:=zh _;obtain ⟨cv,hcv⟩:=KZ6 (vm now q x);rw [←hcv] at HCQ HKEEP HTAKE;clear hcv hq hcc hkc d0 d1 d2;go_upto_region 10 with fail
   all_goals try omega
   cases cv
   ·refine zM wr (by kernel_rfl) (by kernel_rfl) (Below.refl _ _) ?_;repeat (go_big_quiet_step (fail))
    go_big_quiet_step (exact Calls.later (HCQ.out _))
    repeat (go_big_quiet_step (fail))
    refine wpQuiet_nil ?_;intro w5 hw';obtain ⟨⟨w7,hb7⟩,hw7⟩:=hw';have hb5:Below wr.heap.size wr w5:=hw7▸hb7;have HC0:=KZ9 (hz0.out.below (by omega) hb5);have HC1:=KZ9 (hz1.out.below (by omega) hb5);have HC2:=KZ9 (hz2.out.below (by omega) hb5);have HCB:=KZ9 (hbl.out.trans (hb5.mono (by omega)));have HKP:=KZ9 (HKEEP.out (by simp));clear hw7 hb7 hb5 q0 q1 q2 e0 e1 HKEEP HTAKE;go_wp2
    all_goals try omega
    go_roundw
    case rel=>exact ⟨k+1,c,by go_num,by omega,HKP,HC0,HC1,HC2,HCB⟩
    case measure=>simp [intOf];omega
   by_cases hlen:c.name.length≤q.host.length
   ·have g1:decide ((c.name.length:Int)≤(q.host.length:Int))=true:=KZ7 (by omega);refine zM wr (by kernel_rfl) (by kernel_rfl) (Below.refl _ _) ?_;repeat (go_big_quiet_step (fail))
    go_big_quiet_step (exact Calls.later (HCQ.out _))
    repeat (go_big_quiet_step (fail))
    refine wpQuiet_nil ?_;intro w5 hw';obtain ⟨⟨w7,hb7⟩,hw7⟩:=hw';have hb5:Below wr.heap.size wr w5:=hw7▸hb7;have HC0:=KZ9 (hz0.out.below (by omega) hb5);have HC1:=KZ9 (hz1.out.below (by omega) hb5);have HC2:=KZ9 (hz2.out.below (by omega) hb5);have HCB:=KZ9 (hbl.out.trans (hb5.mono (by omega)));have hb5':=hb5;have hs5:=hb5.size;have f0:=fun y:yg w5=>q0 ⟨y.1,hb5.trans (y.2.mono hb5.size)⟩;simp only at f0;have f1:=fun y:yg w5=>(HC0.out.below (by omega) y.2).c 1 _ rfl;rw [←HX.out] at f1;have hqq:((mk q.host).toList==(mk x).toList)=decide (q.host=x):=by
     rw [toList_mk',toList_mk'];by_cases h:q.host=x<;>simp [h]
    have HKP:=KZ9 (HTAKE.out ⟨1,q.host,decide (q.host=x)⟩ rfl (by simp));clear hw7 hb7 hb5' q0 q1 q2 e0 e1 HKEEP HTAKE;go_upto_region 11 with fail
    all_goals try omega
    refine vY 14 w5 (by kernel_rfl) (by kernel_rfl) (Below.refl _ _) ?_;simp only [List.take_succ_cons,List.take_zero,List.drop_succ_cons,List.drop_zero];repeat (go_big_quiet_step (fail))
    refine wpQuiet_nil ?_;intro w8 hw8';obtain ⟨⟨w9,hb9⟩,hw9⟩:=hw8';have hb8:Below w5.heap.size w5 w8:=hw9▸hb9;have HE0:=KZ9 (HC0.out.below (by omega) hb8);have HE1:=KZ9 (HC1.out.below (by omega) hb8);have HE2:=KZ9 (HC2.out.below (by omega) hb8);have HEB:=KZ9 (HCB.out.trans (hb8.mono (by omega)));have n0:=HE2.out.f 0;have n1:=HE2.out.f 1;have n2:=HE2.out.f 2;obtain ⟨o0,o1,o2⟩:=BlkL.cs3 HE2.out;clear hw9 hb9 hb8 hb5 f0 f1 HC0 HC1 HC2 HCB;go_wp2
    all_goals try omega
    go_roundw
    case rel=>exact ⟨k+1,⟨1,q.host,decide (q.host=x)⟩,by go_num,by omega,HKP,KZ9 (((HE0.out.other (by omega) _ _).other (by omega) _ _).other (by omega) _ _),KZ9 (((HE1.out.other (by omega) _ _).other (by omega) _ _).other (by omega) _ _),KZ9 (((HE2.out.set 0 (by simp [zm]) _).set 1 (by simp [zm]) _).set 2 (by simp [zm]) _),KZ9 (((HEB.out.trans (zB _ _ _ _ (by omega))).trans (zB _ _ _ _ (by omega))).trans (zB _ _ _ _ (by omega)))⟩
    case measure=>simp [intOf];omega
   have g1:decide ((c.name.length:Int)≤(q.host.length:Int))=false:=KZ8 (by omega);refine zM wr (by kernel_rfl) (by kernel_rfl) (Below.refl _ _) ?_;repeat (go_big_quiet_step (fail))
   go_big_quiet_step (exact Calls.later (HCQ.out _))
   repeat (go_big_quiet_step (fail))
   refine wpQuiet_nil ?_;intro w5 hw';obtain ⟨⟨w7,hb7⟩,hw7⟩:=hw';have hb5:Below wr.heap.size wr w5:=hw7▸hb7;have HC0:=KZ9 (hz0.out.below (by omega) hb5);have HC1:=KZ9 (hz1.out.below (by omega) hb5);have HC2:=KZ9 (hz2.out.below (by omega) hb5);have HCB:=KZ9 (hbl.out.trans (hb5.mono (by omega)));have HKP:=KZ9 (HKEEP.out (by simp [hlen]));clear hw7 hb7 hb5 q0 q1 q2 e0 e1 HKEEP HTAKE;go_wp2
   all_goals try omega
   go_roundw
   case rel=>exact ⟨k+1,c,by go_num,by omega,HKP,HC0,HC1,HC2,HCB⟩
   case measure=>simp [intOf];omega
  have hkn:k=n:=by omega
  have HFP:Hid (FindP now T x (bt=true) c):=KZ9 (by
   have h:=hfp.out;rw [hkn,HN.out,List.take_length] at h;exact h)
  clear hfp hkn;go_wp2_with (first
   | refine wpList_load_row rfl 67 (.tmp 9) rfl gc rfl 67 _ _ _ hz2.out Tryz.underlying67 rfl zS ?_
   | refine wpList_store_row rfl 67 (.tmp 8) (.tmp 78) rfl (z+1) (zm c).toArray rfl rfl 67 _ hz1.out zS rfl (by simp [zm,Value.oneCell']) ?_)
  all_goals try omega
  refine bodyPost_ret (qa rfl _ _ (z+1) 67 _ _ rfl (hz1.out.setRow (zm c)) Tryz.underlying67 rfl zS) rfl ?_;refine ⟨⟨c,rfl,?_⟩,HZ.out▸below_setRow hbl.out (by omega) _⟩;rw [HFP.out.fin,HEN.out,←HX.out];exact ⟨fun h=>⟨HOK.out,HK.out,h⟩,fun h=>h.2.2⟩
end Go.Proofs.YtjbciamhhfcdoaaGreatDoor
namespace Hs
open Go
theorem X7 {u:UrlP} (h:zv u.scheme=80):u.scheme≠Tw:=fun e=>by
 rw [e] at h;exact absurd h (by decide)
theorem Us (u:UrlP) (d:Int) (img:Bool) (c:CtxP) (v:CovP) (h:zv u.scheme≠80):(yv u=true→(xK u d img c v).action=1∧(xK u d img c v).url=yW u)∧(xK u d img c v).action≠2:=by
 unfold xK;rw [if_neg (fun x=>h x.1)];constructor
 ·intro ht;rw [if_pos (.inl ht)];exact ⟨rfl,rfl⟩
 split
 ·simp
 rw [if_neg (fun x=>h x.1)];split
 ·simp
 rw [if_neg (fun x=>h x.1)];simp
theorem WS (u:UrlP) (d:Int) (img:Bool) (c:CtxP) (v:CovP) (h:zv u.scheme=80) (hv:v.source≠0):(xK u d img c v).action=2:=by
 unfold xK;rw [if_pos ⟨h,hv⟩]
theorem WP (u:UrlP) (d:Int) (img:Bool) (c:CtxP) (v:CovP) (hv:v.source=0) (ht:yv u=true):(xK u d img c v).action=1:=by
 unfold xK;rw [if_neg (fun x=>x.2 hv),if_pos (.inl ht)]
theorem Xd (u:UrlP) (img:Bool) (c:CtxP) (v:CovP) (h:zv u.scheme=80) (hv:v.source=0) (ht:yv u=false):(xK u 4 img c v).action=(if c.upgrade&&YK c u.host then 2 else 1):=by
 unfold xK;rw [if_neg (fun x=>x.2 hv),if_neg (by rw [ht];rintro (h1 | h1);cases h1;exact X7 h h1)];cases h1:c.upgrade<;>cases h2:YK c u.host<;>simp [h]
theorem Qm (u:UrlP) (d:Int) (img:Bool) (c:CtxP) (v:CovP) (h:zv u.scheme=80) (hv:v.source=0) (ht:yv u=false) (hd:d≠4) :
  (xK u d img c v).action=(if (c.upgrade||(c.prohibits&&(decide (sE d img=2)&&(decide (u.host.kind=1)&& !c.blockAll))))=true then 2 else if c.prohibits=true then 3 else 1):=by
 unfold xK;rw [if_neg (fun x=>x.2 hv),if_neg (by rw [ht];rintro (h1 | h1);cases h1;exact X7 h h1)];by_cases h3:sE d img=2<;>by_cases h4:u.host.kind=1<;>cases h1:c.upgrade<;>cases h2:c.prohibits<;>cases h5:c.blockAll<;>simp [h,hd,h3,h4]
theorem Sg (d:Int) (img:Bool) (h:xO d=true):decide (sE d img=2)=(decide (d=2)||(decide (d=20)||(decide (d=9)&& !img))):=by
 unfold xO at h;have h1:=of_decide_eq_true h;unfold sE;rw [if_pos h1];by_cases h4:d=4
 ·subst h4;simp
 rw [if_neg h4];by_cases h2:d=2<;>by_cases h20:d=20<;>by_cases h9:d=9<;>cases img<;>simp [h2,h20,h9]<;>omega
theorem Ps {h:HostP} (hk:h.kind=1) (ho:zT h=true):zJ h.name=true:=by
 unfold zT at ho;rw [hk] at ho;simp only [Bool.and_eq_true] at ho;exact ho.1.1
theorem Qx {T:List PinP} {L L':List EntP} (hT:SortH (T.map (·.host))) (hTo:∀ p∈T,tE p=true) (hL:SortH (L'.map (·.host))) (hp:L'.Perm L) (hLn:∀ p∈L,zJ p.host=true) (now:Int) (h:HostP) :
  (uT now T L' h).source≠0↔(zT h=true∧h.kind=1∧((∃ q∈L,wt q h.name=true)∨∃ q∈T,vm now q h.name=true)):=by
 by_cases hk:h.kind=1∧zT h=true
 ·have hTn:∀ p∈T,zJ p.host=true:=fun p hm=>by
   have:=hTo p hm;unfold tE at this;rw [Bool.and_eq_true] at this;exact this.1
  rw [PW hT hL hTn (fun p hm=>hLn p (hp.mem_iff.1 hm)) now h hk.1 hk.2 (Ps hk.1 hk.2)];simp only [hp.mem_iff];exact ⟨fun h1=>⟨hk.2,hk.1,h1.symm⟩,fun h1=>h1.2.2.symm⟩
 unfold uT;rw [if_neg hk];exact ⟨fun h1=>absurd rfl h1,fun h1=>absurd ⟨h1.2.1,h1.1⟩ hk⟩
theorem Q4 (u:UrlP) (d:Int) (img:Bool) (c:CtxP) (v:CovP) (hd:xO d=true) (R:DecP) (hR:R=xK u d img c v) :
  (zv u.scheme≠80→R.action≠2∧(yv u=true→R.action=1∧R.url=yW u)) ∧
  (zv u.scheme=80→(v.source≠0→R.action=2)∧(v.source=0→(yv u=true→R.action=1)∧(yv u=false→(d=4→R.action=if (c.upgrade&&YK c u.host)=true then 2 else 1)∧(d≠4→R.action=if (c.upgrade||(c.prohibits&&((decide (d=2)||(decide (d=20)||(decide (d=9)&& !img)))&&(decide (u.host.kind=1)&& !c.blockAll))))=true then 2 else if c.prohibits=true then 3 else 1)))):=by
 subst hR;refine ⟨fun h=> ?_,fun h=>⟨fun hv=>WS u d img c v h hv,fun hv=>⟨fun ht=>WP u d img c v hv ht,fun ht=>⟨fun h4=> ?_,fun h4=> ?_⟩⟩⟩⟩
 ·have:=Us u d img c v h;exact ⟨this.2,this.1⟩
 ·subst h4;exact Xd u img c v h hv ht
 rw [←Sg d img hd];exact Qm u d img c v h hv ht h4
end Hs
namespace Go.Proofs.YtjbciamhhfcdoaaGreatDoor
open Go.RowKit Hs
noncomputable def gI:Code:=(Tryz.f4.body).getD .skip
def jn (w0:World) (e:Ending) (w':World):Prop:=e= .returned (.bool true)∧Below w0.heap.size w0 w'
set_option maxRecDepth 100000
set_option maxHeartbeats 16000000
theorem UQ (sc us rs nm:Bs) (kd va x0 x1 x2 x3 x4 x5 x6 x7:Nat) (pt:Int) (r:Nat) (fu:Bs) (g1 g2:Nat) (w0 w:World) {u0 u1 u2 u3 u4 u5 u6 u7 u8 u9 aa ab ac ad ae af ag ah ai aj ak al am an ao ap aq ar au av aw ax ay az aA aB aC aD aE aF aG aH aI aJ aK aL aM aN aO aP aQ aR aS aT aU aV aW aX aY aZ ba bb bc bd be bf bg bh bi bj bk bl bm bn bo bp bq br bs bt bu bv bw bx bz bA bB bC bD bE bF bG bH bI bJ bK bL bM bN bO bP bQ bR bS bT bU bV bW bX bY bZ ca cb cc cd ce cf cg ch ci cj ck cl cm cn co cp cq cr cs ct cu cv cw cx cy cz cA cB cC cD cE cF cG cH cI cJ cK cL cM cN cO cP cQ cR cS cT cU cV cW cX cY cZ da db dc dd de df dg dh di dj dk dl dm dn dp dq dr ds dt du dv dw dx dy dz dA dB dC dD dE dF dG dH dI dJ dK dL dM dN dO dP dQ dR dS dT dU dV dW dX dY dZ ea eb ec ed ee ef eg eh ei ej ek el em:Value} (hw:ym ⟨kd,nm,va,[x0,x1,x2,x3,x4,x5,x6,x7]⟩) (hub:tS ⟨sc,us,⟨kd,nm,va,[x0,x1,x2,x3,x4,x5,x6,x7]⟩,pt,rs⟩) (hB:Base6 w0) (hA:Below w0.heap.size w0 w) (b1:BlkL w g1 62 (za ⟨sc,us,⟨kd,nm,va,[x0,x1,x2,x3,x4,x5,x6,x7]⟩,pt,rs⟩)) (b2:BlkL w g2 34 (zP ⟨1,r,fu⟩)) (hp:zv sc≠80) (ht:yv ⟨sc,us,⟨kd,nm,va,[x0,x1,x2,x3,x4,x5,x6,x7]⟩,pt,rs⟩=true) (hf:fu=yW ⟨sc,us,⟨kd,nm,va,[x0,x1,x2,x3,x4,x5,x6,x7]⟩,pt,rs⟩) :
  Code.wp Tryz.prog (wk 10 gI) (bodyPost Tryz.prog Tryz.f4 (jn w0)) ⟨#[u0,u1,u2,u3,u4,u5,u6,u7,u8,u9,aa,ab,ac,ad,ae,af,ag,.pointer (some ⟨g1,0,none⟩),ah,.pointer (some ⟨g2,0,none⟩),ai,aj,ak,al,am,an,ao,ap,aq,ar,au,av,aw,ax,ay,az,aA,aB,aC,aD,aE,aF,aG,aH,aI,aJ,aK,aL,aM,aN,aO,aP,aQ,aR,aS,aT,aU,aV,aW,aX,aY,aZ,ba,bb,bc,bd,be,bf,bg,bh,bi,bj,bk,bl,bm,bn,bo,bp,bq,br,bs,bt,bu,bv,bw,bx,bz,bA,bB,bC,bD,bE,bF,bG,bH,bI,bJ,bK,bL,bM,bN,bO,bP,bQ,bR,bS,bT,bU,bV,bW,bX,bY,bZ,ca,cb,cc,cd,ce,cf,cg,ch,ci,cj,ck,cl,cm,cn,co,cp,cq,cr,cs,ct,cu,cv,cw,cx,cy,cz,cA,cB,cC,cD,cE,cF,cG,cH,cI,cJ,cK,cL,cM,cN,cO,cP,cQ,cR,cS,cT,cU,cV,cW,cX,cY,cZ,da,db,dc,dd,de,df,dg,dh,di,dj,dk,dl,dm,dn,dp,dq,dr,ds,dt,du,dv,dw,dx,dy,dz,dA,dB,dC,dD,dE,dF,dG,dH,dI,dJ,dK,dL,dM,dN,dO,dP,dQ,dR,dS,dT,dU,dV,dW,dX,dY,dZ,ea,eb,ec,ed,ee,ef,eg,eh,ei,ej,ek,el,em],[]⟩ w:=by
 conv=>arg 2;whnf
 have HIN:=KZ9 (tV ⟨sc,us,⟨kd,nm,va,[x0,x1,x2,x3,x4,x5,x6,x7]⟩,pt,rs⟩ w);have HNI:=KZ9 (show decide (zv sc=80)=false from KZ8 hp);have HTR:=KZ9 (fun W=>pD ⟨sc,us,⟨kd,nm,va,[x0,x1,x2,x3,x4,x5,x6,x7]⟩,pt,rs⟩ W hw hub);rw [ht] at HTR;have HFM:=KZ9 (fun W=>kf ⟨sc,us,⟨kd,nm,va,[x0,x1,x2,x3,x4,x5,x6,x7]⟩,pt,rs⟩ W hw hub);have HAW:=KZ9 (fun W (h:Below w0.heap.size w0 W)=>qy W (hB.below h));rw [←hf] at HFM;have he:((mk fu).toList==(mk fu).toList)=true:=beq_self_eq_true _;clear hf;have HB1:=KZ9 b1;have HB2:=KZ9 b2;have HA:=KZ9 hA;obtain ⟨q0,q1,q2,q3,q4,q5,q6,q7,q8,q9,q10,q11,q12,q13,q14⟩:=BlkL.cs15 b1;clear b1 b2 hA hB hw hub hp ht;go_wp2_with fail
 all_goals try omega
 refine HIN.out.mono ?_;rintro e w1 ⟨rfl,hb1⟩;rw [HNI.out];have HA1:=KZ9 (HA.out.trans (hb1.mono HA.out.size));have c1:=HB1.out.below HB1.out.lt hb1;have c2:=HB2.out.below HB2.out.lt hb1;have HAL:=KZ9 (fun x:yg w1=>HAW.out x.1 (HA1.out.trans (x.2.mono HA1.out.size)));clear q0 q1 q2 q3 q4 q5 q6 q7 q8 q9 q10 q11 q12 q13 q14;obtain ⟨q0,q1,q2,q3,q4,q5,q6,q7,q8,q9,q10,q11,q12,q13,q14⟩:=BlkL.fs15 (fun x:yg w1=>(c1.below (by exact c1.lt) x.2));obtain ⟨s0,s1,s2⟩:=BlkL.fs3 (fun x:yg w1=>(c2.below (by exact c2.lt) x.2));clear c1 c2 hb1 HB1 HB2 HA HAW HIN HNI;go_upto_region 14 with fail
 all_goals try omega
 refine zM w1 (by kernel_rfl) (by kernel_rfl) (Below.refl _ _) ?_;repeat (go_big_quiet_step (fail))
 go_big_quiet_step (exact Calls.later (HTR.out _))
 repeat (go_big_quiet_step (fail))
 go_big_quiet_step (exact Calls.later (HFM.out _))
 repeat (go_big_quiet_step (fail))
 go_big_quiet_step (exact Calls.later (HAL.out _))
 repeat (go_big_quiet_step (fail))
 refine wpQuiet_nil ?_;intro w5 hw';obtain ⟨⟨w6,hb6⟩,hw6⟩:=hw';have hb5:Below w1.heap.size w1 w5:=hw6▸hb6;have HA5:=KZ9 (HA1.out.trans (hb5.mono HA1.out.size));clear hw6 hb6 hb5 q0 q1 q2 q3 q4 q5 q6 q7 q8 q9 q10 q11 q12 q13 q14 s0 s1 s2;go_wp2
 all_goals try omega
 go_ret;exact ⟨rfl,HA5.out⟩
theorem UO (sc us rs nm:Bs) (kd va x0 x1 x2 x3 x4 x5 x6 x7:Nat) (pt:Int) (a:Nat) (r:Nat) (fu:Bs) (g1 g2:Nat) (w0 w:World) {u0 u1 u2 u3 u4 u5 u6 u7 u8 u9 aa ab ac ad ae af ag ah ai aj ak al am an ao ap aq ar au av aw ax ay az aA aB aC aD aE aF aG aH aI aJ aK aL aM aN aO aP aQ aR aS aT aU aV aW aX aY aZ ba bb bc bd be bf bg bh bi bj bk bl bm bn bo bp bq br bs bt bu bv bw bx bz bA bB bC bD bE bF bG bH bI bJ bK bL bM bN bO bP bQ bR bS bT bU bV bW bX bY bZ ca cb cc cd ce cf cg ch ci cj ck cl cm cn co cp cq cr cs ct cu cv cw cx cy cz cA cB cC cD cE cF cG cH cI cJ cK cL cM cN cO cP cQ cR cS cT cU cV cW cX cY cZ da db dc dd de df dg dh di dj dk dl dm dn dp dq dr ds dt du dv dw dx dy dz dA dB dC dD dE dF dG dH dI dJ dK dL dM dN dO dP dQ dR dS dT dU dV dW dX dY dZ ea eb ec ed ee ef eg eh ei ej ek el em:Value} (hw:ym ⟨kd,nm,va,[x0,x1,x2,x3,x4,x5,x6,x7]⟩) (hub:tS ⟨sc,us,⟨kd,nm,va,[x0,x1,x2,x3,x4,x5,x6,x7]⟩,pt,rs⟩) (hB:Base6 w0) (hA:Below w0.heap.size w0 w) (b1:BlkL w g1 62 (za ⟨sc,us,⟨kd,nm,va,[x0,x1,x2,x3,x4,x5,x6,x7]⟩,pt,rs⟩)) (b2:BlkL w g2 34 (zP ⟨a,r,fu⟩)) (hp:zv sc≠80) (ht:yv ⟨sc,us,⟨kd,nm,va,[x0,x1,x2,x3,x4,x5,x6,x7]⟩,pt,rs⟩=false) (h2:a≠2) :
  Code.wp Tryz.prog (wk 10 gI) (bodyPost Tryz.prog Tryz.f4 (jn w0)) ⟨#[u0,u1,u2,u3,u4,u5,u6,u7,u8,u9,aa,ab,ac,ad,ae,af,ag,.pointer (some ⟨g1,0,none⟩),ah,.pointer (some ⟨g2,0,none⟩),ai,aj,ak,al,am,an,ao,ap,aq,ar,au,av,aw,ax,ay,az,aA,aB,aC,aD,aE,aF,aG,aH,aI,aJ,aK,aL,aM,aN,aO,aP,aQ,aR,aS,aT,aU,aV,aW,aX,aY,aZ,ba,bb,bc,bd,be,bf,bg,bh,bi,bj,bk,bl,bm,bn,bo,bp,bq,br,bs,bt,bu,bv,bw,bx,bz,bA,bB,bC,bD,bE,bF,bG,bH,bI,bJ,bK,bL,bM,bN,bO,bP,bQ,bR,bS,bT,bU,bV,bW,bX,bY,bZ,ca,cb,cc,cd,ce,cf,cg,ch,ci,cj,ck,cl,cm,cn,co,cp,cq,cr,cs,ct,cu,cv,cw,cx,cy,cz,cA,cB,cC,cD,cE,cF,cG,cH,cI,cJ,cK,cL,cM,cN,cO,cP,cQ,cR,cS,cT,cU,cV,cW,cX,cY,cZ,da,db,dc,dd,de,df,dg,dh,di,dj,dk,dl,dm,dn,dp,dq,dr,ds,dt,du,dv,dw,dx,dy,dz,dA,dB,dC,dD,dE,dF,dG,dH,dI,dJ,dK,dL,dM,dN,dO,dP,dQ,dR,dS,dT,dU,dV,dW,dX,dY,dZ,ea,eb,ec,ed,ee,ef,eg,eh,ei,ej,ek,el,em],[]⟩ w:=by
 conv=>arg 2;whnf
 have HIN:=KZ9 (tV ⟨sc,us,⟨kd,nm,va,[x0,x1,x2,x3,x4,x5,x6,x7]⟩,pt,rs⟩ w);have HNI:=KZ9 (show decide (zv sc=80)=false from KZ8 hp);have HTR:=KZ9 (fun W=>pD ⟨sc,us,⟨kd,nm,va,[x0,x1,x2,x3,x4,x5,x6,x7]⟩,pt,rs⟩ W hw hub);rw [ht] at HTR;have HFM:=KZ9 (fun W=>kf ⟨sc,us,⟨kd,nm,va,[x0,x1,x2,x3,x4,x5,x6,x7]⟩,pt,rs⟩ W hw hub);have HAW:=KZ9 (fun W (h:Below w0.heap.size w0 W)=>qy W (hB.below h));have e1:decide ((a:Int)=2)=false:=KZ8 (by omega);have e2:((a:Int)==2)=false:=by simp;omega
 have e3:((a:Int) != 2)=true:=by simp;omega
 have HB1:=KZ9 b1;have HB2:=KZ9 b2;have HA:=KZ9 hA;obtain ⟨q0,q1,q2,q3,q4,q5,q6,q7,q8,q9,q10,q11,q12,q13,q14⟩:=BlkL.cs15 b1;clear b1 b2 hA hB hw hub hp ht;go_wp2_with fail
 all_goals try omega
 refine HIN.out.mono ?_;rintro e w1 ⟨rfl,hb1⟩;rw [HNI.out];have HA1:=KZ9 (HA.out.trans (hb1.mono HA.out.size));have c1:=HB1.out.below HB1.out.lt hb1;have c2:=HB2.out.below HB2.out.lt hb1;have HAL:=KZ9 (fun x:yg w1=>HAW.out x.1 (HA1.out.trans (x.2.mono HA1.out.size)));clear q0 q1 q2 q3 q4 q5 q6 q7 q8 q9 q10 q11 q12 q13 q14;obtain ⟨q0,q1,q2,q3,q4,q5,q6,q7,q8,q9,q10,q11,q12,q13,q14⟩:=BlkL.fs15 (fun x:yg w1=>(c1.below (by exact c1.lt) x.2));obtain ⟨s0,s1,s2⟩:=BlkL.fs3 (fun x:yg w1=>(c2.below (by exact c2.lt) x.2));clear c1 c2 hb1 HB1 HB2 HA HAW HIN HNI;go_upto_region 14 with fail
 all_goals try omega
 refine zM w1 (by kernel_rfl) (by kernel_rfl) (Below.refl _ _) ?_;repeat (go_big_quiet_step (fail))
 go_big_quiet_step (exact Calls.later (HTR.out _))
 repeat (go_big_quiet_step (fail))
 go_big_quiet_step (exact Calls.later (HAL.out _))
 repeat (go_big_quiet_step (fail))
 refine wpQuiet_nil ?_;intro w5 hw';obtain ⟨⟨w6,hb6⟩,hw6⟩:=hw';have hb5:Below w1.heap.size w1 w5:=hw6▸hb6;have HA5:=KZ9 (HA1.out.trans (hb5.mono HA1.out.size));clear hw6 hb6 hb5 q0 q1 q2 q3 q4 q5 q6 q7 q8 q9 q10 q11 q12 q13 q14 s0 s1 s2;go_wp2
 all_goals try omega
 go_ret;exact ⟨rfl,HA5.out⟩
theorem pw (cs cp cu cb:Bool) (ha:Option Addr) (hn hc:Nat) (a r:Nat) (fu:Bs) (ub:Bool) (gc g2:Nat) (w0 w:World) {u0 u1 u2 u3 u4 u5 u6 u7 u8 u9 aa ab ac ad ae af ag ah ai aj ak al am an ao ap aq ar au av aw ax ay az aA aB aC aD aE aF aG aH aI aJ aK aL aM aN aO aP aQ aR aS aT aU aV aW aX aY aZ ba bb bd be bf bg bh bi bj bk bl bm bn bo bp bq br bs bt bu bv bw bx bz bA bB bC bD bE bF bG bH bI bJ bK bL bM bN bO bP bQ bR bS bT bU bV bW bX bY bZ ca cc cd ce cf cg ch ci cj ck cl cm cn co cq cr ct cv cw cx cy cz cA cB cC cD cE cF cG cH cI cJ cK cL cM cN cO cP cQ cR cS cT cU cV cW cX cY cZ da db dc dd de df dg dh di dj dk dl dm dn dp dq dr ds dt du dv dw dx dy dz dA dB dC dD dE dF dG dH dI dJ dK dL dM dN dO dP dQ dR dS dT dU dV dW dX dY dZ ea eb ec ed ee ef eg eh ei ej ek el em en eo ep eq:Value} (hB:Base6 w0) (hA:Below w0.heap.size w0 w) (bc:BlkL w gc 41 [.bool cs,.bool cp,.bool cu,.bool cb,.slice ha hn hc]) (b2:BlkL w g2 34 (zP ⟨a,r,fu⟩)) (hact:a=if ub=true then 2 else if cp=true then 3 else 1) :
  Code.wp Tryz.prog (wk 13 gI) (bodyPost Tryz.prog Tryz.f4 (jn w0)) ⟨#[u0,u1,u2,u3,u4,u5,u6,u7,u8,u9,aa,ab,ac,ad,ae,.pointer (some ⟨gc,0,none⟩),af,ag,ah,.pointer (some ⟨g2,0,none⟩),ai,aj,ak,.bool ub,al,am,an,ao,ap,aq,ar,au,av,aw,ax,ay,az,aA,aB,aC,aD,aE,aF,aG,aH,aI,aJ,aK,aL,aM,aN,aO,aP,aQ,aR,aS,aT,aU,aV,aW,aX,aY,aZ,ba,bb,bd,be,bf,bg,bh,bi,bj,bk,bl,bm,bn,bo,bp,bq,br,bs,bt,bu,bv,bw,bx,bz,bA,bB,bC,bD,bE,bF,bG,bH,bI,bJ,bK,bL,bM,bN,bO,bP,bQ,bR,bS,bT,bU,bV,bW,bX,bY,bZ,ca,cc,cd,ce,cf,cg,ch,ci,cj,ck,cl,cm,cn,co,cq,cr,ct,cv,cw,cx,cy,cz,cA,cB,cC,cD,cE,cF,cG,cH,cI,cJ,cK,cL,cM,cN,cO,cP,cQ,cR,cS,cT,cU,cV,cW,cX,cY,cZ,da,db,dc,dd,de,df,dg,dh,di,dj,dk,dl,dm,dn,dp,dq,dr,ds,dt,du,dv,dw,dx,dy,dz,dA,dB,dC,dD,dE,dF,dG,dH,dI,dJ,dK,dL,dM,dN,dO,dP,dQ,dR,dS,dT,dU,dV,dW,dX,dY,dZ,ea,eb,ec,ed,ee,ef,eg,eh,ei,ej,ek,el,em,en,eo,ep,eq],[]⟩ w:=by
 conv=>arg 2;whnf
 have HAW:=KZ9 (fun W (h:Below w0.heap.size w0 W)=>qy W (hB.below h));have HA:=KZ9 hA;have s1:=bc.c 1 _ rfl;have c0:=b2.c 0 _ rfl;clear bc b2 hA hB;cases ub
 ·cases cp
  ·obtain rfl:a=1:=hact;go_wp2_with fail
   all_goals try omega
   refine (HAW.out _ HA.out).mono ?_;rintro e w7 ⟨rfl,hb7⟩;have HA7:=KZ9 (HA.out.trans (hb7.mono HA.out.size));clear hb7;go_wp2
   all_goals try omega
   go_ret;exact ⟨rfl,HA7.out⟩
  obtain rfl:a=3:=hact;go_wp2_with fail
  all_goals try omega
  refine (HAW.out _ HA.out).mono ?_;rintro e w7 ⟨rfl,hb7⟩;have HA7:=KZ9 (HA.out.trans (hb7.mono HA.out.size));clear hb7;go_wp2
  all_goals try omega
  go_ret;exact ⟨rfl,HA7.out⟩
 obtain rfl:a=2:=hact;go_wp2_with fail
 all_goals try omega
 refine (HAW.out _ HA.out).mono ?_;rintro e w7 ⟨rfl,hb7⟩;have HA7:=KZ9 (HA.out.trans (hb7.mono HA.out.size));clear hb7;go_wp2
 all_goals try omega
 go_ret;exact ⟨rfl,HA7.out⟩
theorem jN (sc us rs nm:Bs) (kd va x0 x1 x2 x3 x4 x5 x6 x7:Nat) (pt:Int) (cs cp cu cb:Bool) (ha:Option Addr) (hn hc:Nat) (a r:Nat) (fu:Bs) (mb:Bool) (gc g1 g2:Nat) (w0 w:World) {u0 u1 u2 u3 u4 u5 u6 u7 u8 u9 aa ab ac ad ae af ag ah ai aj ak al am an ao ap aq ar au av aw ax ay az aA aB aC aD aE aF aG aH aI aJ aK aL aM aN aO aP aQ aR aS aT aU aV aW aX aY aZ ba bb bd be bf bg bh bi bj bk bl bm bn bo bp bq br bs bt bu bv bw bx bz bA bB bC bD bE bF bG bH bI bJ bK bL bM bN bO bP bQ bR bS bT bU bV bW bX bY bZ ca cc cd ce cf cg ch ci cj ck cl cm cn co cq cr ct cv cw cx cy cz cA cB cC cD cE cF cG cH cI cJ cK cL cM cN cO cP cQ cR cS cT cU cV cW cX cY cZ da db dc dd de df dg dh di dj dk dl dm dn dp dq dr ds dt du dv dw dx dy dz dA dB dC dD dE dF dG dH dI dJ dK dL dM dN dO dP dQ dR dS dT dU dV dW dX dY dZ ea eb ec ed ee ef eg eh ei ej ek el em en eo ep:Value} (hB:Base6 w0) (hA:Below w0.heap.size w0 w) (bc:BlkL w gc 41 [.bool cs,.bool cp,.bool cu,.bool cb,.slice ha hn hc]) (b1:BlkL w g1 62 (za ⟨sc,us,⟨kd,nm,va,[x0,x1,x2,x3,x4,x5,x6,x7]⟩,pt,rs⟩)) (b2:BlkL w g2 34 (zP ⟨a,r,fu⟩)) (hact:a=if (cu||(cp&&(mb&&(decide (kd=1)&& !cb))))=true then 2 else if cp=true then 3 else 1) :
  Code.wp Tryz.prog (wk 12 gI) (bodyPost Tryz.prog Tryz.f4 (jn w0)) ⟨#[u0,u1,u2,u3,u4,u5,u6,u7,u8,u9,aa,ab,ac,ad,ae,.pointer (some ⟨gc,0,none⟩),af,.pointer (some ⟨g1,0,none⟩),ag,.pointer (some ⟨g2,0,none⟩),ah,ai,.bool mb,aj,ak,al,am,an,ao,ap,aq,ar,au,av,aw,ax,ay,az,aA,aB,aC,aD,aE,aF,aG,aH,aI,aJ,aK,aL,aM,aN,aO,aP,aQ,aR,aS,aT,aU,aV,aW,aX,aY,aZ,ba,bb,bd,be,bf,bg,bh,bi,bj,bk,bl,bm,bn,bo,bp,bq,br,bs,bt,bu,bv,bw,bx,bz,bA,bB,bC,bD,bE,bF,bG,bH,bI,bJ,bK,bL,bM,bN,bO,bP,bQ,bR,bS,bT,bU,bV,bW,bX,bY,bZ,ca,cc,cd,ce,cf,cg,ch,ci,cj,ck,cl,cm,cn,co,cq,cr,ct,cv,cw,cx,cy,cz,cA,cB,cC,cD,cE,cF,cG,cH,cI,cJ,cK,cL,cM,cN,cO,cP,cQ,cR,cS,cT,cU,cV,cW,cX,cY,cZ,da,db,dc,dd,de,df,dg,dh,di,dj,dk,dl,dm,dn,dp,dq,dr,ds,dt,du,dv,dw,dx,dy,dz,dA,dB,dC,dD,dE,dF,dG,dH,dI,dJ,dK,dL,dM,dN,dO,dP,dQ,dR,dS,dT,dU,dV,dW,dX,dY,dZ,ea,eb,ec,ed,ee,ef,eg,eh,ei,ej,ek,el,em,en,eo,ep],[]⟩ w:=by
 conv=>arg 2;whnf
 have HB:=KZ9 hB;have HA:=KZ9 hA;have HBC:=KZ9 bc;have HB2:=KZ9 b2;have s1:=bc.c 1 _ rfl;have s2:=bc.c 2 _ rfl;have s3:=bc.c 3 _ rfl;have p2:=b1.c 2 _ rfl;clear bc b1 b2 hA hB;apply wp_seq_k;intro K1 hK1;have HK1:=KZ9 hK1;clear hK1;cases cu
 ·cases cp
  ·go_wp2_with fail
   all_goals try omega
   apply HK1.out;exact pw _ _ _ _ _ _ _ _ _ _ _ _ _ _ _ HB.out HA.out HBC.out HB2.out (by first | exact hact | simpa using hact)
  cases mb
  ·go_wp2_with fail
   all_goals try omega
   apply HK1.out;exact pw _ _ _ _ _ _ _ _ _ _ _ _ _ _ _ HB.out HA.out HBC.out HB2.out (by first | exact hact | simpa using hact)
  by_cases hk:kd=1
  ·subst hk;cases cb
   ·go_wp2_with fail
    all_goals try omega
    apply HK1.out;exact pw _ _ _ _ _ _ _ _ _ _ _ _ _ _ _ HB.out HA.out HBC.out HB2.out (by first | exact hact | simpa using hact)
   go_wp2_with fail
   all_goals try omega
   apply HK1.out;exact pw _ _ _ _ _ _ _ _ _ _ _ _ _ _ _ HB.out HA.out HBC.out HB2.out (by first | exact hact | simpa using hact)
  have e1:decide ((kd:Int)=1)=false:=KZ8 (by omega);have e2:((kd:Int)==1)=false:=by simp;omega
  rw [KZ8 hk] at hact;go_wp2_with fail
  all_goals try omega
  apply HK1.out;exact pw _ _ _ _ _ _ _ _ _ _ _ _ _ _ _ HB.out HA.out HBC.out HB2.out (by first | exact hact | simpa using hact)
 go_wp2_with fail
 all_goals try omega
 apply HK1.out;exact pw _ _ _ _ _ _ _ _ _ _ _ _ _ _ _ HB.out HA.out HBC.out HB2.out (by first | exact hact | simpa using hact)
theorem Ja (sc us rs nm:Bs) (kd va x0 x1 x2 x3 x4 x5 x6 x7:Nat) (pt:Int) (cs cp cu cb:Bool) (ha:Option Addr) (hn hc:Nat) (l:Bs) (d:Int) (img:Bool) (a r:Nat) (fu:Bs) (g0 gc g1 g2:Nat) (w0 w:World) {u0 u1 u2 u3 u4 u5 u7 u8 u9 aa ab ac ad ae af ag ah ai aj ak al am an ao ap aq ar au av aw ax ay az aA aB aC aD aE aF aG aH aI aJ aK aL aM aN aO aP aQ aR aS aT aU aV aW aX aY aZ ba bb bd be bf bg bh bi bj bk bl bm bn bo bp bq br bs bt bu bv bw bx bz bA bB bC bD bE bF bG bH bI bJ bK bL bM bN bO bP bQ bR bS bT bU bV bW bX bY bZ ca cc cd ce cf cg ch ci cj ck cl cm cn co cq cr ct cv cw cx cy cz cA cB cC cD cE cF cG cH cI cJ cK cL cM cN cO cP cQ cR cS cT cU cV cW cX cY cZ da db dc dd de df dg dh di dj dk dl dm dn dp dq dr ds dt du dv dw dx dy dz dA dB dC dD dE dF dG dH dI dJ dK dL dM dN dO dP dQ dR dS dT dU dV dW dX dY dZ ea eb ec ed ee ef eg eh ei ej ek el em en eo ep eq:Value} (hB:Base6 w0) (hA:Below w0.heap.size w0 w) (b0:BlkL w g0 38 (wT l d img)) (bc:BlkL w gc 41 [.bool cs,.bool cp,.bool cu,.bool cb,.slice ha hn hc]) (b1:BlkL w g1 62 (za ⟨sc,us,⟨kd,nm,va,[x0,x1,x2,x3,x4,x5,x6,x7]⟩,pt,rs⟩)) (b2:BlkL w g2 34 (zP ⟨a,r,fu⟩)) (hact:a=if (cu||(cp&&((decide (d=2)||(decide (d=20)||(decide (d=9)&& !img)))&&(decide (kd=1)&& !cb))))=true then 2 else if cp=true then 3 else 1) :
  Code.wp Tryz.prog (wk 11 gI) (bodyPost Tryz.prog Tryz.f4 (jn w0)) ⟨#[u0,u1,u2,u3,u4,u5,.pointer (some ⟨g0,0,none⟩),u7,u8,u9,aa,ab,ac,ad,ae,.pointer (some ⟨gc,0,none⟩),af,.pointer (some ⟨g1,0,none⟩),ag,.pointer (some ⟨g2,0,none⟩),ah,ai,aj,ak,al,am,an,ao,ap,aq,ar,au,av,aw,ax,ay,az,aA,aB,aC,aD,aE,aF,aG,aH,aI,aJ,aK,aL,aM,aN,aO,aP,aQ,aR,aS,aT,aU,aV,aW,aX,aY,aZ,ba,bb,bd,be,bf,bg,bh,bi,bj,bk,bl,bm,bn,bo,bp,bq,br,bs,bt,bu,bv,bw,bx,bz,bA,bB,bC,bD,bE,bF,bG,bH,bI,bJ,bK,bL,bM,bN,bO,bP,bQ,bR,bS,bT,bU,bV,bW,bX,bY,bZ,ca,cc,cd,ce,cf,cg,ch,ci,cj,ck,cl,cm,cn,co,cq,cr,ct,cv,cw,cx,cy,cz,cA,cB,cC,cD,cE,cF,cG,cH,cI,cJ,cK,cL,cM,cN,cO,cP,cQ,cR,cS,cT,cU,cV,cW,cX,cY,cZ,da,db,dc,dd,de,df,dg,dh,di,dj,dk,dl,dm,dn,dp,dq,dr,ds,dt,du,dv,dw,dx,dy,dz,dA,dB,dC,dD,dE,dF,dG,dH,dI,dJ,dK,dL,dM,dN,dO,dP,dQ,dR,dS,dT,dU,dV,dW,dX,dY,dZ,ea,eb,ec,ed,ee,ef,eg,eh,ei,ej,ek,el,em,en,eo,ep,eq],[]⟩ w:=by
 conv=>arg 2;whnf
 have HB:=KZ9 hB;have HA:=KZ9 hA;have HBC:=KZ9 bc;have HB1:=KZ9 b1;have HB2:=KZ9 b2;have r1:=b0.c 1 _ rfl;have r2:=b0.c 2 _ rfl;clear bc b0 b1 b2 hA hB;apply wp_seq_k;intro K1 hK1;have HK1:=KZ9 hK1;clear hK1;by_cases h2:d=2
 ·subst h2;go_wp2_with fail
  all_goals try omega
  apply HK1.out;exact jN _ _ _ _ _ _ _ _ _ _ _ _ _ _ _ _ _ _ _ _ _ _ _ _ _ _ _ _ _ _ _ HB.out HA.out HBC.out HB1.out HB2.out (by first | exact hact | simpa using hact)
 have e2:decide (d=2)=false:=KZ8 h2;have f2:(d==2)=false:=by simpa using h2
 rw [e2] at hact;by_cases h20:d=20
 ·subst h20;go_wp2_with fail
  all_goals try omega
  apply HK1.out;exact jN _ _ _ _ _ _ _ _ _ _ _ _ _ _ _ _ _ _ _ _ _ _ _ _ _ _ _ _ _ _ _ HB.out HA.out HBC.out HB1.out HB2.out (by first | exact hact | simpa using hact)
 have e20:decide (d=20)=false:=KZ8 h20;have f20:(d==20)=false:=by simpa using h20
 rw [e20] at hact;by_cases h9:d=9
 ·subst h9;cases img
  ·go_wp2_with fail
   all_goals try omega
   apply HK1.out;exact jN _ _ _ _ _ _ _ _ _ _ _ _ _ _ _ _ _ _ _ _ _ _ _ _ _ _ _ _ _ _ _ HB.out HA.out HBC.out HB1.out HB2.out (by first | exact hact | simpa using hact)
  go_wp2_with fail
  all_goals try omega
  apply HK1.out;exact jN _ _ _ _ _ _ _ _ _ _ _ _ _ _ _ _ _ _ _ _ _ _ _ _ _ _ _ _ _ _ _ HB.out HA.out HBC.out HB1.out HB2.out (by first | exact hact | simpa using hact)
 have e9:decide (d=9)=false:=KZ8 h9;have f9:(d==9)=false:=by simpa using h9
 rw [e9] at hact;go_wp2_with fail
 all_goals try omega
 apply HK1.out;exact jN _ _ _ _ _ _ _ _ _ _ _ _ _ _ _ _ _ _ _ _ _ _ _ _ _ _ _ _ _ _ _ HB.out HA.out HBC.out HB1.out HB2.out (by first | exact hact | simpa using hact)
end Go.Proofs.YtjbciamhhfcdoaaGreatDoor
