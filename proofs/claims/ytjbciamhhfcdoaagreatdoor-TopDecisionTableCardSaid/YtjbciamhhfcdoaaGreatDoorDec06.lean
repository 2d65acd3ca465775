/- What the proof of TopDecisionTable uses, part Dec06. -/
import Derived.Test.YtjbciamhhfcdoaaGreatDoorDec05
import Derived.Laws.CopyOwn
set_option linter.unusedSimpArgs false
set_option linter.unusedVariables false
namespace Go.Proofs.YtjbciamhhfcdoaaGreatDoor
open Go.RowKit Hs
theorem RK (s:ByteArray) (w:World) (hB:Base w) (hs:s.size≤100000000):Calls Tryz.prog 103 #[.string s,.string ⟨#[58,58]⟩] w fun e w'=>e= .returned (.tuple #[.string (mk (rJ (un s)).1),.string (mk (rJ (un s)).2.1),.bool (rJ (un s)).2.2])∧Below w.heap.size w w':=by
 obtain ⟨_,⟨m,hm⟩,_⟩:=hB;refine (Tryz.strings_Cut s ⟨#[58,58]⟩ m w (by omega) hm).mono ?_;rintro e w' ⟨rfl,n,rfl⟩;have h:Lib.cut s.data.toList (⟨#[58,58]⟩:ByteArray).data.toList=rJ (un s):=Qq (un s);rw [h];exact ⟨rfl,below_drewN (Below.refl _ w) n⟩
def BlkN (w:World) (g:Nat) (T:TypeId) (cs:Array Value):Prop:=w.heap[g]? =some (.cells cs T (0,0))
theorem BlkN.lt {w:World} {g:Nat} {T:TypeId} {cs:Array Value} (h:BlkN w g T cs):g<w.heap.size:=(Array.getElem?_eq_some_iff.1 h).1
theorem BlkN.below {w w':World} {g:Nat} {T:TypeId} {cs:Array Value} (h:BlkN w g T cs) {b:Nat} (hg:g<b) (hb:Below b w w'):BlkN w' g T cs:=(hb.block g hg).trans h
theorem BlkN.new (w:World) (T:TypeId) (cs:Array Value):BlkN (w.alloc (.cells cs T)) w.heap.size T cs:=heap_alloc_new w _
theorem BlkN.alloc {w:World} {g:Nat} {T:TypeId} {cs:Array Value} (h:BlkN w g T cs) (o:Obj):BlkN (w.alloc o) g T cs:=(Below.heap_alloc w o g h.lt).trans h
def z8:List Nat:=[0,0,0,0,0,0,0,0]
theorem Yq (x:List Nat) (h:x.length≤8):splice (zg z8) 0 (zg x)=zg (x++List.replicate (8 - x.length) 0):=by
 rw [wL];unfold splice;simp only [List.take_zero,List.nil_append,Nat.zero_add,yc]
 congr 1
 show (List.replicate 8 (Value.int .u16 0)).drop x.length=(List.replicate (8 - x.length) 0).map _;rw [List.drop_replicate,List.map_replicate];rfl
theorem gR (x y:List Nat) (h:x.length+y.length≤8):splice (zg (x++List.replicate (8 - x.length) 0)) (8 - y.length) (zg y)=zg (x++(List.replicate (8 - x.length - y.length) 0++y)):=by
 unfold splice;rw [yc,List.drop_of_length_le (by simp;omega),List.append_nil];unfold zg;rw [←List.map_take,←List.map_append,List.take_append,List.take_of_length_le (by omega),List.take_replicate,←List.append_assoc]
 congr 3
 simp;omega
theorem xN (l:List Nat):(zg l).toArray.all (·.oneCell')=true:=by
 simp [zg,Value.oneCell']
theorem qd {l:List Nat}:∀ v∈zg l,v.oneCell'=true:=by
 intro v hv;obtain ⟨g,_,rfl⟩:=List.mem_map.1 hv;rfl
theorem zC:(Tryz.prog.info? 58).map (·.size)=some 8:=by kernel_rfl
theorem tI:(Tryz.prog.info? 57).map (·.size)=some 1:=by kernel_rfl
theorem Grps.src {w:World} {a:Option Addr} {n c:Nat} {l:List Nat} (h:Grps w (.slice a n c) l) (h0:0<(zg l).length):∃ ad,a=some ad∧∀ j v,(zg l)[j]? =some v→w.cell? (ad.add j)=some v:=by
 obtain ⟨_,a',cap,hv,_,_,hc⟩:=h;injection hv with e1 e2 e3
 subst e1;rcases hc with h1 | ⟨b,off,rfl,hlt,hcell⟩
 ·rw [yc] at h0;omega
 refine ⟨_,rfl,fun j v hj=> ?_⟩;have hadd:(⟨b,off,none⟩:Addr).add j=⟨b,off+j,none⟩:=by unfold Addr.add;split<;>simp_all
 rw [hadd];exact hcell j v hj
theorem rE (l:Bs) (last:Bool):((yH l last).getD []).length≤l.length+2:=by
 have hc:=splitD_count 58 l;unfold yH;split
 ·simp
 cases h:xS last (zi 58 l) [] with
 | none=>simp
 | some y =>
  have:=ZU last _ _ _ h;simp at this ⊢;omega
def KeptBut (g:Nat) (w w':World):Prop:=(∀ k,k≠g→w'.heap[k]? =w.heap[k]?)∧∀ B,B≤g→Below B w w'
theorem KeptBut.refl (g:Nat) (w:World):KeptBut g w w:=⟨fun _ _=>rfl,fun _ _=>Below.refl _ _⟩
theorem KeptBut.row (w:World) (g:Nat) (cs:Array Value):KeptBut g w (w.setRow g cs):=⟨fun k hk=>setRow_other w g k cs hk,fun B hB=>below_setRow (Below.refl _ _) hB cs⟩
theorem qL {w w':World} {g base:Nat} {e:TypeId} {size n:Nat} {v:Value} {xs:List Value} (h:w.ownsRow base e size v n xs) (hk:KeptBut g w w') (hg:g<base):w'.ownsRow base e size v n xs:=by
 refine ⟨h.1,?_⟩;rcases h.2 with h2 | ⟨k,cap,cur,hv,hbk,hg2,h3⟩
 ·exact .inl h2
 exact .inr ⟨k,cap,cur,hv,hbk,(hk.1 k (by omega)).trans hg2,h3⟩
theorem tA {P:Program} {w:World} {ops:Array Oper} {rest:List Oper} {o:Oper} {a:Act} {Q:Exit→Act→World→Prop} (hgd:o.guard=none) (d s:Operand) (dT sT:TypeId)
  (ho:o.op= .call { callee:= .builtin .copy,args:=#[d,s],argTypes:=#[dT,sT] }) (elem:TypeId) (hu:P.underlying dT=some (.slice elem)) (hsz:(P.info? elem).map (·.size)=some 1)
  (dp sp:Option Addr) (dLen dCap sLen sCap:Nat) (hd:a.eval d= .slice dp dLen dCap) (hs:a.eval s= .slice sp sLen sCap)
  (g off:Nat) (cur:List Value) (t:TypeId) (hg:w.heap[g]? =some (.cells cur.toArray t (0,0))) (cs:List Value) (hn:cs.length=Nat.min sLen dLen)
  (hpos:0<cs.length→dp=some ⟨g,off,none⟩∧∃ ad,sp=some ad∧∀ j v,cs[j]? =some v→w.cell? (ad.add j)=some v)
  (hfit:off+cs.length≤cur.length) (h1:∀ v∈cs,v.oneCell'=true)
  (h:∀ w',Hid (w'.heap[g]? =some (.cells (splice cur off cs).toArray t (0,0)))→KeptBut g w w'→wpList P ops Q rest (a.put o.dst (goInt cs.length)) w') :
  wpList P ops Q (o::rest) a w:=by
 by_cases h0:cs.length=0
 ·obtain rfl:cs=[]:=List.eq_nil_of_length_eq_zero h0;refine wpList_copy_nothing hgd d s dT sT ho elem hu hsz dp sp dLen dCap sLen sCap hd hs (by simpa using hn.symm) ?_;exact h w (show _=_ by simpa [splice] using hg) (KeptBut.refl _ _)
 obtain ⟨rfl,ad,rfl,hsrc⟩:=hpos (by omega);refine wpList_copy_own hgd d s dT sT ho elem hu hsz g off dLen dCap ad sLen sCap hd hs cur.toArray t hg cs hn hsrc (by simpa using hfit) h1 ?_;exact h _ (show _=_ by simpa [splice] using setRow_heap w g _ _ t _ hg) (KeptBut.row _ _ _)
theorem j8 (b m:Nat) (h:m≤8):∃ sa:Addr,Hid (0<m→sa=⟨b,8 - m,none⟩)∧∀ W:World,(Instr.sliceAt 58 (.pointer (some ⟨b,0,none⟩)) (some (.int .i64 (8 - (m:Int)))) none none).run Tryz.prog W= .ok (.slice (some sa) m m) W:=by
 have hal:Tryz.prog.arrayLen 58=8:=by kernel_rfl
 have hel:Tryz.prog.elem 58=57:=by kernel_rfl
 have hs:∀ W,(sizeOf 57).run Tryz.prog W= .ok 1 W:=by
  intro W;obtain ⟨i,hi,hsz⟩:=Option.map_eq_some_iff.1 tI;simp [sizeOf,typeInfo,hi,hsz]
 refine ⟨if 8=8 - m then ⟨b,0,none⟩ else (⟨b,0,none⟩:Addr).add ((8 - m)*1),KZ9 fun h0=> ?_,fun W=> ?_⟩
 ·rw [if_neg (by omega)];unfold Addr.add;split
  ·rename_i h1;simp at h1;simp [h1]
  simp
 rw [run_sliceAt_array_l W _ _ (by rw [hal,hel];exact Tryz.underlying58) .i64 _ (by omega) (by rw [hal];omega),hel,hs];have e1:(8 - (m:Int)).toNat=8 - m:=by omega
 have e2:8 - (8 - m)=m:=by omega
 simp only [Result.andThen,slicedAt,hal,e1,e2]
set_option maxRecDepth 20000
set_option maxHeartbeats 4000000
theorem RZ (s:ByteArray) (w:World) (hB:Base w) (hs:s.size≤100000):Calls Tryz.prog 233 #[.string s] w fun e w'=>e= .returned (.tuple #[.agg (zg (Xx (xG (un s))).1).toArray,.bool (Xx (xG (un s))).2])∧Below w.heap.size w w':=by
 have hlen:=Qt (un s);have hdef:Hid _:=KZ9 (XQ (un s));obtain ⟨R,hR⟩:=KZ6 (xG (un s));rw [←hR] at hdef ⊢;have hbA:Below w.heap.size w ((w.alloc (.cells (zg z8).toArray 58)).alloc (.cells (zg z8).toArray 58)):=((Below.refl _ w).alloc (Nat.le_refl _) _).alloc (by simp) _;have hr0:BlkN ((w.alloc (.cells (zg z8).toArray 58)).alloc (.cells (zg z8).toArray 58)) w.heap.size 58 (zg z8).toArray:=(BlkN.new w _ _).alloc _;have ho0:BlkN ((w.alloc (.cells (zg z8).toArray 58)).alloc (.cells (zg z8).toArray 58)) (w.heap.size+1) 58 (zg z8).toArray:=by
  have:=BlkN.new (w.alloc (.cells (zg z8).toArray 58)) 58 (zg z8).toArray
  simpa using this
 have hsz0:w.heap.size+2≤((w.alloc (.cells (zg z8).toArray 58)).alloc (.cells (zg z8).toArray 58)).heap.size:=by simp
 obtain ⟨W0,hW0⟩:=KZ6 (((w.alloc (.cells (zg z8).toArray 58)).alloc (.cells (zg z8).toArray 58)));rw [←hW0] at hbA hr0 ho0 hsz0;have HW0:Hid ((w.alloc (.cells #[.int .u16 0,.int .u16 0,.int .u16 0,.int .u16 0,.int .u16 0,.int .u16 0,.int .u16 0,.int .u16 0] 58)).alloc (.cells #[.int .u16 0,.int .u16 0,.int .u16 0,.int .u16 0,.int .u16 0,.int .u16 0,.int .u16 0,.int .u16 0] 58)=W0):=KZ9 hW0.symm;have B0:=hB.below hbA;have HCUT:=KZ9 (RK s W0 B0 (by omega));obtain ⟨C,hC⟩:=KZ6 (rJ (un s));rw [←hC] at HCUT hdef hlen;rw [zb] at hlen;obtain ⟨A,Bq,gap⟩:=C;simp only at hlen HCUT;clear hC hR hB hW0;have G1:=KZ9 (fun W h=>ZQ (mk A) (!gap) W h (by rw [zh];omega));have G2:=KZ9 (fun W h=>ZQ (mk Bq) true W h (by rw [zh];omega));simp only [zj] at G1 G2;have hdef:Hid (R=match yH A (!gap),yH Bq true with
  | some x,some y=>if (gap=false∧x.length+y.length=8)∨(gap=true∧x.length+y.length≤7) then some (x++(List.replicate (8 - x.length - y.length) 0++y)) else none
  | _,_=>none):=hdef
 obtain ⟨X,hX⟩:=KZ6 (yH A (!gap));obtain ⟨Y,hY⟩:=KZ6 (yH Bq true);have hXl:(X.getD []).length≤100002:=by rw [hX];exact Nat.le_trans (rE _ _) (by omega)
 have hYl:(Y.getD []).length≤100002:=by rw [hY];exact Nat.le_trans (rE _ _) (by omega)
 rw [←hX,←hY] at hdef;rw [←hX] at G1;rw [←hY] at G2;clear hX hY hlen;go_enter Tryz.func233,Tryz.ntmps233
 go_wp2_with fail
 rw [HW0.out];clear HW0;refine HCUT.out.mono ?_;rintro e w1 ⟨rfl,hb1⟩;have B1:=B0.below hb1;have hr1:=hr0.below (by omega) hb1;have ho1:=ho0.below (by omega) hb1;have hs1:=hb1.size;clear HCUT;go_wp2_with fail
 refine (G1.out _ B1).mono ?_;rintro e w2 ⟨v1,rfl,hg1,hb2⟩;have B2:=B1.below hb2;have hr2:=hr1.below hr1.lt hb2;have ho2:=ho1.below ho1.lt hb2;have hs2:=hb2.size;go_wp2_with fail
 refine (G2.out _ B2).mono ?_;rintro e w3 ⟨v2,rfl,hg2,hb3⟩;have hr3:=hr2.below hr2.lt hb3;have ho3:=ho2.below ho2.lt hb3;have hs3:=hb3.size;have hg1':=uw hg1 hb3;have hall:Below w.heap.size w w3:=hbA.trans ((hb1.trans ((hb2.trans (hb3.mono hb2.size)).mono hb1.size)).mono hbA.size);have HR3:=KZ9 hr3;have HO3:=KZ9 ho3;have hsh1:Grps w3 v1 (X.getD []):=Row.owned hg1';have hsh2:Grps w3 v2 (Y.getD []):=Row.owned hg2;have HG1:=KZ9 hg1';have HG2:=KZ9 hg2;have ho1':w.heap.size+1<w1.heap.size:=by omega
 clear hr0 hr1 hr2 hr3 ho0 ho1 ho2 ho3 hg1 hg1' hg2 G1 G2 B0 B1 B2;obtain ⟨a1,c1,rfl,hn1,hm1,_⟩:=hsh1.open;obtain ⟨a2,c2,rfl,hn2,hm2,_⟩:=hsh2.open;unfold maxLen at hm1 hm2;clear hsh1 hsh2;cases X with
 | none =>
  have hend:Hid (R=none):=KZ9 (hdef.out);clear hdef;simp only [Option.getD_none,Option.isSome_none,List.length_nil] at hn1 ⊢;go_wp2_with (first | refine wpList_store_row rfl 58 (.tmp 2) (.tmp 57) rfl w.heap.size (zg z8).toArray rfl rfl 58 _ HR3.out zC rfl (xN z8) ?_)
  all_goals try omega
  refine bodyPost_ret (zf rfl _ _ w.heap.size 58 _ _ rfl (setRow_heap w3 w.heap.size _ (zg z8).toArray _ _ HR3.out) Tryz.underlying58 rfl zC) rfl ?_;rw [hend.out];exact ⟨rfl,below_setRow hall (Nat.le_refl _) (zg z8).toArray⟩
 | some x =>
  cases Y with
  | none =>
   have hend:Hid (R=none):=KZ9 (hdef.out);clear hdef;simp only [Option.getD_none,Option.getD_some,Option.isSome_none,Option.isSome_some,List.length_nil] at hn1 hn2 ⊢;go_wp2_with (first | refine wpList_store_row rfl 58 (.tmp 2) (.tmp 57) rfl w.heap.size (zg z8).toArray rfl rfl 58 _ HR3.out zC rfl (xN z8) ?_)
   all_goals try omega
   refine bodyPost_ret (zf rfl _ _ w.heap.size 58 _ _ rfl (setRow_heap w3 w.heap.size _ (zg z8).toArray _ _ HR3.out) Tryz.underlying58 rfl zC) rfl ?_;rw [hend.out];exact ⟨rfl,below_setRow hall (Nat.le_refl _) (zg z8).toArray⟩
  | some y =>
   have hdef:Hid (R=if (gap=false∧x.length+y.length=8)∨(gap=true∧x.length+y.length≤7) then some (x++(List.replicate (8 - x.length - y.length) 0++y)) else none):=KZ9 hdef.out;simp only [Option.getD_some,Option.isSome_some] at hn1 hn2 hXl hYl HG1 HG2 ⊢;have e12:(x.length:Int)+(y.length:Int)=((x.length+y.length:Nat):Int):=by omega
   by_cases hok:(gap=false∧x.length+y.length=8)∨(gap=true∧x.length+y.length≤7)
   ·have hend:Hid (R=some (x++(List.replicate (8 - x.length - y.length) 0++y))):=KZ9 (by rw [hdef.out,if_pos hok]);have h8:x.length+y.length≤8:=by omega
    clear hdef e12;have S1:=KZ9 (Yq x (by omega));have S2:=KZ9 (gR x y h8);obtain ⟨sa,hsa,hsl⟩:=j8 (w.heap.size+1) y.length (by omega);rcases hok with ⟨rfl,hx8⟩ | ⟨rfl,hx7⟩
    all_goals
     (try have g1:((x.length:Int)+(y.length:Int) != 8)=false:=by simp;omega)
     (try have g2:decide ((7:Int)<(x.length:Int)+(y.length:Int))=false:=KZ8 (by omega))
     go_wp2_with ((with_reducible show wpList _ _ _ _ _ _);first
      | (refine tA rfl (.tmp 58) (.tmp 59) 171 171 rfl 57 Tryz.underlying171 tI _ _ 8 8 x.length c1 rfl rfl (w.heap.size+1) 0 (zg z8) 58 HO3.out (zg x) (by rw [yc];exact (Nat.min_eq_left (by omega)).symm) (fun h0=>⟨rfl,Grps.src (Row.owned HG1.out) h0⟩) (by rw [yc];show 0+x.length≤8;omega) qd ?_;intro w4 HQ1 hk1;have HGY:=KZ9 (qL HG2.out hk1 (by omega)))
      | (refine tA rfl (.tmp 64) (.tmp 65) 171 171 rfl 57 Tryz.underlying171 tI _ _ y.length y.length y.length c2 rfl rfl (w.heap.size+1) (8 - y.length) _ 58 HQ1.out (zg y) (by rw [yc];exact (Nat.min_self _).symm) (fun h0=>⟨congrArg some (hsa.out (by rw [yc] at h0;exact h0)),Grps.src (Row.owned HGY.out) h0⟩) (by rw [S1.out,yc,yc];simp;omega) qd ?_;intro w5 HQ2 hk2;rw [S1.out,S2.out] at HQ2;have HR5:=KZ9 ((hk2.1 _ (by omega)).trans ((hk1.1 _ (by omega)).trans HR3.out)))
      | refine wpList_load_row rfl 58 (.tmp 4) rfl (w.heap.size+1) rfl 58 _ _ _ HQ2.out Tryz.underlying58 rfl (by rw [zC];simp;omega) ?_
      | refine wpList_store_row rfl 58 (.tmp 2) (.tmp 67) rfl w.heap.size _ rfl rfl 58 _ HR5.out (by rw [zC];simp;omega) (by simp [z8];omega) (xN _) ?_)
     refine bodyPost_ret (zf rfl _ _ w.heap.size 58 _ _ rfl (setRow_heap w5 w.heap.size _ _ _ _ HR5.out) Tryz.underlying58 rfl (by rw [zC];simp;omega)) rfl ?_;rw [hend.out];exact ⟨rfl,below_setRow ((hall.trans (hk1.2 _ (by omega))).trans (hk2.2 _ (by omega))) (Nat.le_refl _) _⟩
   have hend:Hid (R=none):=KZ9 (by rw [hdef.out,if_neg hok]);clear hdef e12;cases gap
   ·have hne:x.length+y.length≠8:=fun h=>hok (.inl ⟨rfl,h⟩);have g1:((x.length:Int)+(y.length:Int) != 8)=true:=by simp;omega
    clear hok;go_wp2_with (first | refine wpList_store_row rfl 58 (.tmp 2) (.tmp 57) rfl w.heap.size (zg z8).toArray rfl rfl 58 _ HR3.out zC rfl (xN z8) ?_)
    all_goals try omega
    refine bodyPost_ret (zf rfl _ _ w.heap.size 58 _ _ rfl (setRow_heap w3 w.heap.size _ (zg z8).toArray _ _ HR3.out) Tryz.underlying58 rfl zC) rfl ?_;rw [hend.out];exact ⟨rfl,below_setRow hall (Nat.le_refl _) (zg z8).toArray⟩
   have hgt:7<x.length+y.length:=Nat.lt_of_not_le (fun h=>hok (.inr ⟨rfl,h⟩));have g2:decide ((7:Int)<(x.length:Int)+(y.length:Int))=true:=KZ7 (by omega);have g3:(7:Int)<(x.length:Int)+(y.length:Int):=by omega
   clear hok;go_wp2_with (first | refine wpList_store_row rfl 58 (.tmp 2) (.tmp 57) rfl w.heap.size (zg z8).toArray rfl rfl 58 _ HR3.out zC rfl (xN z8) ?_)
   all_goals try omega
   refine bodyPost_ret (zf rfl _ _ w.heap.size 58 _ _ rfl (setRow_heap w3 w.heap.size _ (zg z8).toArray _ _ HR3.out) Tryz.underlying58 rfl zC) rfl ?_;rw [hend.out];exact ⟨rfl,below_setRow hall (Nat.le_refl _) (zg z8).toArray⟩
end Go.Proofs.YtjbciamhhfcdoaaGreatDoor
namespace Hs
open Go Go.RowKit
theorem BlkL.setRow {w:World} {g:Nat} {T:TypeId} {l:List Value} (h:BlkL w g T l) (cs:List Value):BlkL (w.setRow g cs.toArray) g T cs:=setRow_heap w g _ _ _ _ h
theorem BlkL.setRow_other {w:World} {g:Nat} {T:TypeId} {l:List Value} (h:BlkL w g T l) {k:Nat} (hk:g≠k) (cs:Array Value):BlkL (w.setRow k cs) g T l:=(Go.setRow_other w k g cs hk).trans h
theorem BlkL.putCells {g:Nat} {T:TypeId}:∀ (vs:List Value) (o:Nat) (w:World) (l:List Value),BlkL w g T l→o+vs.length≤l.length→BlkL (w.setCells g o vs) g T (l.take o++(vs++l.drop (o+vs.length)))
 | [],o,w,l,h,_=>by simpa [World.setCells] using h
 | v::r,o,w,l,h,hl=>by
  simp only [List.length_cons] at hl;have h2:=BlkL.putCells r (o+1) _ _ (h.set o (by omega) v) (by simp;omega);rw [World.setCells];have e:(l.set o v).take (o+1)++(r++(l.set o v).drop (o+1+r.length))=l.take o++((v::r)++l.drop (o+(v::r).length)):=by
   rw [List.take_set,List.drop_set_of_lt (by omega),List.take_add_one,List.set_append_right _ _ (by simp;omega)];have:l[o]? =some l[o]:=List.getElem?_eq_getElem (by omega);rw [this];simp only [Option.toList_some,List.length_take,List.length_cons,List.cons_append,List.append_assoc];have e2:o - min o l.length=0:=by omega
   have e3:o+1+r.length=o+(r.length+1):=by omega
   rw [e2,e3];rfl
  rw [←e];exact h2
theorem BlkL.putCells_other {g k:Nat} (hk:g≠k) {T:TypeId} {l:List Value}:∀ (vs:List Value) (o:Nat) (w:World),BlkL w g T l→BlkL (w.setCells k o vs) g T l
 | [],o,w,h=>h
 | v::r,o,w,h=>by
  rw [World.setCells];exact BlkL.putCells_other hk r (o+1) _ (h.other hk o v)
theorem BlkL.range {w:World} {g:Nat} {T:TypeId} {l:List Value} (h:BlkL w g T l) (o:Nat) (cs:List Value) (hc:∀ j v,cs[j]? =some v→l[o+j]? =some v):w.rangeAt g o cs:=fun j v hj=>h.c (o+j) v (hc j v hj)
theorem BlkL.there {w:World} {g:Nat} {T:TypeId} {l:List Value} (h:BlkL w g T l) (o n:Nat) (hn:o+n≤l.length):w.there g o n:=fun j hj=>⟨by
 have:l[o+j]? =some (l[o+j]'(by omega)):=List.getElem?_eq_getElem _;rw [h.c (o+j) _ this];rfl,h.f (o+j)⟩
theorem uQ {B g:Nat} {w0:World} (hB:B≤g):∀ (vs:List Value) (o:Nat) (w:World),Below B w0 w→Below B w0 (w.setCells g o vs)
 | [],o,w,h=>h
 | v::r,o,w,h=>by
  rw [World.setCells];exact uQ hB r (o+1) _ (h.trans ⟨rfl,rfl,rfl,by simp,fun k hk=>Below.heap_setCell w ⟨g,o,none⟩ v k (fun e=>by have:k=g:=e;omega)⟩)
end Hs
namespace Go.Proofs.YtjbciamhhfcdoaaGreatDoor
open Go.RowKit Hs
def zc (h:HostP):List Value:= .int .i64 (h.kind:Int):: .string (mk h.name):: .int .u32 (h.v4:Int)::zg h.v6
def za (u:UrlP):List Value:= .string (mk u.scheme):: .string (mk u.user)::(zc u.host++[.int .i64 u.port,.string (mk u.rest)])
def ym (h:HostP):Prop:=h.v6.length=8∧(∀ x∈h.v6,x<65536)∧h.v4<4294967296
theorem xR {h:HostP} (h8:h.v6.length=8):(zc h).length=11:=by simp [zc,h8]
theorem xo {u:UrlP} (h8:u.host.v6.length=8):(za u).length=15:=by simp [za,xR h8]
theorem yL (h:HostP):∀ v∈zc h,v.oneCell'=true:=by
 intro v hv;unfold zc at hv;rcases List.mem_cons.1 hv with rfl | hv
 ·rfl
 rcases List.mem_cons.1 hv with rfl | hv
 ·rfl
 rcases List.mem_cons.1 hv with rfl | hv
 ·rfl
 exact qd v hv
theorem yk (u:UrlP):∀ v∈za u,v.oneCell'=true:=by
 intro v hv;unfold za at hv;rcases List.mem_cons.1 hv with rfl | hv
 ·rfl
 rcases List.mem_cons.1 hv with rfl | hv
 ·rfl
 rcases List.mem_append.1 hv with hv | hv
 ·exact yL _ v hv
 simp at hv;rcases hv with rfl | rfl<;>rfl
theorem ze {l:List Value} (h:∀ v∈l,v.oneCell'=true):l.toArray.all (·.oneCell')=true:=all_oneCell_toArray h
theorem zx:(Tryz.prog.info? 60).map (·.size)=some 11:=by kernel_rfl
theorem zN:(Tryz.prog.info? 62).map (·.size)=some 15:=by kernel_rfl
theorem xI {h:HostP} (h8:h.v6.length=8):(Tryz.prog.info? 60).map (·.size)=some (zc h).toArray.size:=by rw [zx,List.size_toArray,xR h8]
theorem zV {u:UrlP} (h8:u.host.v6.length=8):(Tryz.prog.info? 62).map (·.size)=some (za u).toArray.size:=by rw [zN,List.size_toArray,xo h8]
theorem vV:ym zk:=⟨rfl,by decide,by decide⟩
end Go.Proofs.YtjbciamhhfcdoaaGreatDoor
namespace Hs
open Go
theorem si {l:List Nat} (h:l.length=8):∃ a b c d e f g i,l=[a,b,c,d,e,f,g,i]:=by
 match l,h with
 | [a,b,c,d,e,f,g,i],_=>exact ⟨a,b,c,d,e,f,g,i,rfl⟩
end Hs
namespace Go.Proofs.YtjbciamhhfcdoaaGreatDoor
open Go.RowKit Hs
theorem uR (w:World):w.alloc (.cells #[.int .i64 0,.string ⟨#[]⟩,.int .u32 0,.int .u16 0,.int .u16 0,.int .u16 0,.int .u16 0,.int .u16 0,.int .u16 0,.int .u16 0,.int .u16 0] 60)=w.alloc (.cells (zc zk).toArray 60):=rfl
set_option maxRecDepth 20000
set_option maxHeartbeats 4000000
theorem Sz (s:ByteArray) (w:World) (hB:Base w) (hs:s.size≤100000) (hh:(un s).head? =some 91):Calls Tryz.prog 208 #[.string s] w fun e w'=>(∃ h c,e= .returned (.tuple #[.agg (zc h).toArray,.int .i64 c])∧((c=0∧rV (un s)=some h)∨(c≠0∧h=zk∧rV (un s)=none)))∧Below w.heap.size w w':=by
 have hlen:(un s).length=s.size:=zb s;have hpos:0<s.size:=by
  rw [←hlen];cases h:un s with
  | nil=>rw [h] at hh;cases hh
  | cons a r=>simp
 have hl:=qU s hpos;have hdef:rV (un s)=if (un s).getLast? =some 93 then (xG (((un s).take ((un s).length - 1)).drop 1)).map (fun v=>⟨3,[],0,v⟩) else none:=rfl
 rw [hl,hlen] at hdef;have hp1:s.size - 1<s.size:=by omega
 have hbA:Below w.heap.size w (w.alloc (.cells (zc zk).toArray 60)):=(Below.refl _ w).alloc (Nat.le_refl _) _;have hr0:BlkL (w.alloc (.cells (zc zk).toArray 60)) w.heap.size 60 (zc zk):=BlkL.new w _ _;have hsz0:w.heap.size+1≤(w.alloc (.cells (zc zk).toArray 60)).heap.size:=by simp
 obtain ⟨W0,hW0⟩:=KZ6 (w.alloc (.cells (zc zk).toArray 60));rw [←hW0] at hbA hr0 hsz0;have HW0:=KZ9 ((uR w).trans hW0.symm);have B0:=hB.below hbA;have HR0:=KZ9 hr0;clear hW0 hr0;obtain ⟨n,hn⟩:=KZ6 s.size;by_cases hc:(s[s.size - 1]'hp1)=93
 ·have hd2:=hdef.trans (if_pos (by rw [hc]));have cs:((s[s.size - 1]'hp1).toNat:Int)=93:=by rw [hc];rfl
  have h1:1≤s.size - 1:=by
   rcases Nat.eq_or_lt_of_le hpos with h0 | h0
   ·exfalso;have h2:=pg s hpos;rw [h2] at hh;have h3:s[0]=91:=Option.some.inj hh;have h4:s[s.size - 1]'hp1=s[0]:=by congr 1;omega
    rw [h4,h3] at hc;exact absurd hc (by decide)
   omega
  have hx:s.extract 1 (s.size - 1)=mk (((un s).take (s.size - 1)).drop 1):=by
   rw [yP];unfold seg;rw [List.drop_take]
  have hp6:=RZ (mk (((un s).take (s.size - 1)).drop 1)) W0 B0 (by rw [zh,List.length_drop,List.length_take];omega);rw [zj] at hp6;have HP6:=KZ9 hp6;have HX:=KZ9 hx;clear hp6 hx hc hdef hl hh hlen hB;go_enter Tryz.func208,Tryz.ntmps208
  go_wp2_with fail
  rw [HW0.out];rw [HX.out];refine HP6.out.mono ?_;rintro e w1 ⟨rfl,hb1⟩;have hr1:=HR0.out.below (by omega) hb1;have hsz1:=hb1.size;have hall:Below w.heap.size w w1:=hbA.trans (hb1.mono (by omega));have HALL:=KZ9 hall;have HD:=KZ9 hd2;have hne:w.heap.size≠w1.heap.size:=by omega
  clear HP6 HX hb1 hbA hall hd2 HW0 B0;cases hp:xG (((un s).take (s.size - 1)).drop 1) with
  | none =>
   have hfin:=KZ9 (HD.out.trans (by rw [hp]));rw [show Xx none=(z8,false) from rfl];clear HD hp;have hN:=heap_alloc_new w1 (.cells (zg z8).toArray 58);have hR2:=(hr1.alloc (.cells (zg z8).toArray 58)).setRow_other hne (zg z8).toArray;have HN:=KZ9 hN;have HR2:=KZ9 hR2;clear hN hR2;go_wp2_with (first
    | refine wpList_store_row rfl 58 (.tmp 5) (.tmp 19) rfl w1.heap.size (zg z8).toArray rfl rfl 58 _ HN.out zC rfl (xN z8) ?_
    | refine wpList_store_row rfl 60 (.tmp 2) (.tmp 24) rfl w.heap.size (zc zk).toArray rfl rfl 60 _ HR2.out zx rfl (ze (yL zk)) ?_)
   all_goals try omega
   refine bodyPost_ret (zf rfl _ _ w.heap.size 60 _ _ rfl (HR2.out.setRow (zc zk)) Tryz.underlying60 rfl zx) rfl ?_;exact ⟨⟨zk,14,rfl,.inr ⟨by decide,rfl,hfin.out⟩⟩,below_setRow (below_setRow (HALL.out.trans (((Below.refl _ w1).alloc (Nat.le_refl _) _).mono (by omega))) (by omega) _) (Nat.le_refl _) _⟩
  | some v =>
   have hfin:=HD.out;rw [hp] at hfin;have HFIN:Hid (rV (un s)=some ⟨3,[],0,v⟩):=KZ9 hfin;rw [show Xx (some v)=(v,true) from rfl];have h8:=(uZ hp).1;obtain ⟨a,b,c,d,e,f,g,i,rfl⟩:=si h8;clear HD hp hfin h8;have hN:=heap_alloc_new w1 (.cells (zg z8).toArray 58);have hN2:=setRow_heap _ w1.heap.size _ (zg [a,b,c,d,e,f,g,i]).toArray _ _ hN;have hR2:=(hr1.alloc (.cells (zg z8).toArray 58)).setRow_other hne (zg [a,b,c,d,e,f,g,i]).toArray;have HN:=KZ9 hN;have HN2:=KZ9 hN2;have HR2:=KZ9 hR2;clear hN hR2 hN2;go_wp2_with (first
    | refine wpList_store_row rfl 58 (.tmp 5) (.tmp 19) rfl w1.heap.size (zg [a,b,c,d,e,f,g,i]).toArray rfl rfl 58 _ HN.out zC rfl (xN _) ?_
    | refine wpList_load_row rfl 58 (.tmp 5) rfl w1.heap.size rfl 58 _ _ _ HN2.out Tryz.underlying58 rfl zC ?_
    | refine wpList_store_row rfl 60 (.tmp 2) (.tmp 23) rfl w.heap.size (zc ⟨3,[],0,[a,b,c,d,e,f,g,i]⟩).toArray rfl rfl 60 _ HR2.out zx rfl (ze (yL _)) ?_)
   all_goals try omega
   refine bodyPost_ret (zf rfl _ _ w.heap.size 60 _ _ rfl (HR2.out.setRow (zc ⟨3,[],0,[a,b,c,d,e,f,g,i]⟩)) Tryz.underlying60 rfl zx) rfl ?_;exact ⟨⟨_,0,rfl,.inl ⟨rfl,HFIN.out⟩⟩,below_setRow (below_setRow (HALL.out.trans (((Below.refl _ w1).alloc (Nat.le_refl _) _).mono (by omega))) (by omega) _) (Nat.le_refl _) _⟩
 have hfin:=KZ9 (hdef.trans (if_neg (fun e=>hc (Option.some.inj e))));have g1:(((s[s.size - 1]'hp1).toNat:Int)==93)=false:=by
  simp;intro e;exact hc (UInt8.toNat_inj.1 (by show (s[s.size - 1]'hp1).toNat=93;omega))
 clear hc hdef hl hh hlen hB;go_enter Tryz.func208,Tryz.ntmps208
 go_wp2_with (first
   | refine wpList_store_row rfl 60 (.tmp 2) (.tmp 24) rfl w.heap.size (zc zk).toArray rfl rfl 60 _ (heap_alloc_new w _) zx rfl (ze (yL zk)) ?_)
 all_goals try omega
 refine bodyPost_ret (zf rfl _ _ w.heap.size 60 _ _ rfl ((BlkL.new w 60 (zc zk)).setRow (zc zk)) Tryz.underlying60 rfl zx) rfl ?_;exact ⟨⟨zk,14,rfl,.inr ⟨by decide,rfl,hfin.out⟩⟩,below_setRow ((Below.refl _ w).alloc (Nat.le_refl _) _) (Nat.le_refl _) _⟩
theorem Ti (b:UInt8) (w:World):Calls Tryz.prog 234 #[.int .u8 (b.toNat:Int)] w fun e w'=>e= .returned (.int .i64 (hxI b))∧w=w':=by
 have hc:=pQ b;have hb:=b.toNat_lt;obtain ⟨x,hx⟩:=KZ6 b.toNat;rw [←hx] at hc hb ⊢;obtain ⟨v,hvv⟩:=KZ6 (hxI b);rw [←hvv] at hc ⊢;clear hx hvv;rcases hc with ⟨h1,h2,h3⟩ | ⟨h1,h2,h3⟩ | ⟨h1,h2,h3⟩ | ⟨h1,h2,h3,h4⟩
 ·have hr:=KZ9 h3;clear h3;go_enter Tryz.func234,Tryz.ntmps234
  go_wp2
  all_goals try omega
  all_goals
   go_ret;rw [hr.out];exact ⟨rfl,rfl⟩
 ·have hr:=KZ9 h3;clear h3;go_enter Tryz.func234,Tryz.ntmps234
  go_wp2
  all_goals try omega
  all_goals
   go_ret;rw [hr.out];exact ⟨rfl,rfl⟩
 ·have hr:=KZ9 h3;clear h3;go_enter Tryz.func234,Tryz.ntmps234
  go_wp2
  all_goals try omega
  all_goals
   go_ret;rw [hr.out];exact ⟨rfl,rfl⟩
 have hr:=KZ9 h4;clear h4;go_enter Tryz.func234,Tryz.ntmps234
 go_wp2
 all_goals try omega
 all_goals
  go_ret;rw [hr.out];exact ⟨rfl,rfl⟩
theorem Yy (b:UInt8) (w:World):Calls Tryz.prog 200 #[.int .u8 (b.toNat:Int)] w fun e w'=>e= .returned (.int .i64 (hxI b))∧w=w':=by
 have hc:=pQ b;have hb:=b.toNat_lt;obtain ⟨x,hx⟩:=KZ6 b.toNat;rw [←hx] at hc hb ⊢;obtain ⟨v,hvv⟩:=KZ6 (hxI b);rw [←hvv] at hc ⊢;clear hx hvv;rcases hc with ⟨h1,h2,h3⟩ | ⟨h1,h2,h3⟩ | ⟨h1,h2,h3⟩ | ⟨h1,h2,h3,h4⟩
 ·have hr:=KZ9 h3;clear h3;go_enter Tryz.func200,Tryz.ntmps200
  go_wp2
  all_goals try omega
  all_goals
   go_ret;rw [hr.out];exact ⟨rfl,rfl⟩
 ·have hr:=KZ9 h3;clear h3;go_enter Tryz.func200,Tryz.ntmps200
  go_wp2
  all_goals try omega
  all_goals
   go_ret;rw [hr.out];exact ⟨rfl,rfl⟩
 ·have hr:=KZ9 h3;clear h3;go_enter Tryz.func200,Tryz.ntmps200
  go_wp2
  all_goals try omega
  all_goals
   go_ret;rw [hr.out];exact ⟨rfl,rfl⟩
 have hr:=KZ9 h4;clear h4;go_enter Tryz.func200,Tryz.ntmps200
 go_wp2
 all_goals try omega
 all_goals
  go_ret;rw [hr.out];exact ⟨rfl,rfl⟩
theorem Jg {w:World} {B e size n:Nat} {v:Value} {xs:List Value} (h:w.ownsRow B e size v n xs) (q:Nat):(w.drewN q).ownsRow B e size v n xs:=h
set_option maxHeartbeats 8000000
theorem Qa (s:ByteArray) (w:World) (hs:s.size≤100000):Calls Tryz.prog 209 #[.string s] w fun e w'=>(∃ t ok,e= .returned (.tuple #[.string t,.bool ok])∧((ok=true∧pctV (un s)=some (un t))∨(ok=false∧t=⟨#[]⟩∧pctV (un s)=none)))∧Below w.heap.size w w':=by
 obtain ⟨iB0,iB⟩:=info_parts vp;have hlen:(un s).length=s.size:=zb s;obtain ⟨l,hl⟩:=KZ6 (un s);have hst0:pctV l=sG [] (l.drop 0):=by rw [List.drop_zero];unfold sG;cases pctV l<;>simp
 rw [←hl] at hlen ⊢;have HL:=KZ9 hl;have HST0:=KZ9 hst0;obtain ⟨n,hn⟩:=KZ6 s.size;rw [←hn] at hs;have hsn:(s.size:Int)=(n:Int):=by rw [hn]
 have HLEN:=KZ9 (hlen.trans hn.symm);have HN:=KZ9 hn;clear hl hst0 hlen hn;go_enter Tryz.func209,Tryz.ntmps209
 go_wp2;go_step3;go_wp2_with (first | (at_make;go_loud (refine wpList_make_own _ rfl _ _ 32 rfl w.heap.size 5 iB0 (.int .u8 0) 1 Tryz.underlying32 iB.1 iB.2.1 iB.2.2.1 .i64 .i64 _ n rfl rfl (by omega) (by rw [iB.2.2.2];omega) (by unfold maxLen;omega) (Nat.le_refl _) ?_);intro w1 hown1 hgrow1) | go_in)
 have hbel1:Below w.heap.size w w1:=(Below.refl _ _).grown hgrow1 (Nat.le_refl _) (by intro k hk;cases hk);go_step3;go_wp2
 all_goals try omega
 go_loopw [4,5] (fun ov iv wr=>∃ (k:Nat) (o:Bs),iv= .int .i64 k∧k≤n∧o.length≤k∧wr.ownsRow w.heap.size 5 1 ov o.length (yb o)∧Hid (pctV l=sG o (l.drop k))∧Below w.heap.size w wr) (fun _ iv _=>n - (intOf iv).toNat)
 case atStart=>exact ⟨0,[],rfl,by omega,by simp,hown1,HST0,hbel1⟩
 case round =>
  obtain ⟨k,o,rfl,hk,hol,hown,hst,hnx⟩:=hrel;have hown0:=hown;have hsize:=hnx.size;by_cases hlt:k<n
  ·have hks:k<s.size:=by rw [←HN.out];exact hlt
   have hkl:k<l.length:=by rw [HLEN.out];exact hlt
   have hx:l[k]=s[k]:=by
    have:=HL.out;subst this;exact zL s k hks
   have hdr:l.drop k=s[k]::l.drop (k+1):=by rw [←hx];exact List.drop_eq_getElem_cons hkl
   have hst2:=hst.out;rw [hdr] at hst2;by_cases hp:s[k]=37
   ·have cs:(s[k].toNat:Int)=37:=by rw [hp];rfl
    rw [hp] at hst2;by_cases h2:k+2<n
    ·have hk1:k+1<s.size:=by rw [←HN.out];omega
     have hk2:k+2<s.size:=by rw [←HN.out];omega
     have hx1:l[k+1]'(by rw [HLEN.out];omega)=s[k+1]:=by
      have:=HL.out;subst this;exact zL s (k+1) hk1
     have hx2:l[k+2]'(by rw [HLEN.out];omega)=s[k+2]:=by
      have:=HL.out;subst this;exact zL s (k+2) hk2
     have hdr2:l.drop (k+1)=s[k+1]::s[k+2]::l.drop (k+3):=by
      rw [List.drop_eq_getElem_cons (by rw [HLEN.out];omega),hx1,List.drop_eq_getElem_cons (by rw [HLEN.out];omega),hx2]
     rw [hdr2] at hst2;have hI1:(0:Int)≤(k:Int)+1:=by omega
     have hI2:(k:Int)+1<(n:Int):=by omega
     have hI3:(0:Int)≤(k:Int)+2:=by omega
     have hI4:(k:Int)+2<(n:Int):=by omega
     have hb1:=sm s[k+1];have hb2:=sm s[k+2];have hd1:=fun W=>Ti s[k+1] W;have hd2:=fun W=>Ti s[k+2] W;by_cases hbad:hxI s[k+1]<0∨hxI s[k+2]<0
     ·have hfin:=KZ9 (hst2.trans (ry (kB hbad)));obtain ⟨a,ha⟩:=KZ6 (hxI s[k+1]);obtain ⟨b,hb⟩:=KZ6 (hxI s[k+2]);simp only [←ha] at hb1 hd1 hbad;simp only [←hb] at hb2 hd2 hbad;have HD1:=KZ9 hd1;have HD2:=KZ9 hd2;clear hst hst2 hdr hdr2 hx hx1 hx2 ha hb hd1 hd2 hp hown hown0;go_wp2
      all_goals try omega
      refine wp_region_quiet_lit (by kernel_rfl) (by kernel_rfl) ?_;repeat (go_big_quiet_step (fail))
      go_big_quiet_want
      go_big_quiet_op
      apply Exists.intro;refine ⟨fun _=> ?_,?_⟩
      ·exact Calls.quiet_of_same ((HD1.out _).mono (fun _ _ h=>⟨h.1,h.2.symm⟩))
      go_big_quiet_on
      repeat (go_big_quiet_step (fail))
      go_big_quiet_want
      go_big_quiet_op
      apply Exists.intro;refine ⟨fun _=> ?_,?_⟩
      ·exact Calls.quiet_of_same ((HD2.out _).mono (fun _ _ h=>⟨h.1,h.2.symm⟩))
      go_big_quiet_on
      repeat (go_big_quiet_step (fail))
      refine wpQuiet_nil ?_;intro _ hw';obtain ⟨nq,hw''⟩:=hw';subst hw'';go_wp2
      all_goals try omega
      all_goals
       (try rw [Exit.noGoto_ret])
       go_ret2;exact ⟨⟨_,_,rfl,.inr ⟨rfl,rfl,hfin.out⟩⟩,below_drewN hnx _⟩
     have hst3:=KZ9 (hst2.trans (XN (fun e=>hbad (.inl e)) (fun e=>hbad (.inr e))));obtain ⟨a,ha⟩:=KZ6 (hxI s[k+1]);obtain ⟨b,hb⟩:=KZ6 (hxI s[k+2]);simp only [←ha] at hb1 hd1 hbad hst3;simp only [←hb] at hb2 hd2 hbad hst3;have HD1:=KZ9 hd1;have HD2:=KZ9 hd2;clear hst hst2 hdr hdr2 hx hx1 hx2 ha hb hd1 hd2 hp;go_wp2
     all_goals try omega
     refine wp_region_quiet_lit (by kernel_rfl) (by kernel_rfl) ?_;repeat (go_big_quiet_step (fail))
     go_big_quiet_want
     go_big_quiet_op
     apply Exists.intro;refine ⟨fun _=> ?_,?_⟩
     ·exact Calls.quiet_of_same ((HD1.out _).mono (fun _ _ h=>⟨h.1,h.2.symm⟩))
     go_big_quiet_on
     repeat (go_big_quiet_step (fail))
     go_big_quiet_want
     go_big_quiet_op
     apply Exists.intro;refine ⟨fun _=> ?_,?_⟩
     ·exact Calls.quiet_of_same ((HD2.out _).mono (fun _ _ h=>⟨h.1,h.2.symm⟩))
     go_big_quiet_on
     repeat (go_big_quiet_step (fail))
     refine wpQuiet_nil ?_;intro _ hw';obtain ⟨nq,hw''⟩:=hw';subst hw'';have ha0:0≤a∧a<16:=⟨by omega,hb1.2⟩;have hb0:0≤b∧b<16:=⟨by omega,hb2.2⟩;have hval:((UInt8.ofNat (16*a+b).toNat).toNat:Int)=16*a+b:=by
      rw [UInt8.toNat_ofNat'];omega
     obtain ⟨c,hc⟩:=KZ6 (UInt8.ofNat (16*a+b).toNat);rw [←hc] at hval;have hst4:Hid (pctV l=sG (o++[c]) (List.drop (k+3) l)):=by rw [hc];exact hst3
     have hownq:=Jg hown0 nq;have hnxq:=below_drewN hnx nq;clear hst3 hc hbad hown hown0 hnx hsize;generalize wr.drewN nq=wq at hownq hnxq ⊢;have hsizeq:=hnxq.size;go_wp2_with (at_builtin;refine wpList_append_own _ rfl (.tmp 48) (.tmp 54) 32 rfl (w.heap.size) 5 iB0 (.int .u8 0) 1 1 Tryz.underlying32 iB.1 iB.2.1 iB.2.2.1 iB.2.2.2 rfl (by decide) _ _ _ rfl (hownq.alloc _) ⟨wq.heap.size,0,none⟩ 1 1 [_] rfl rfl (cell_one_new _ _ _) (by intro u hu;simp at hu;subst hu;rfl) (by unfold maxLen;omega) (by omega) (by simp;omega) ?_;intro v1 w2 hown1 hgrow2 hnil1)
     all_goals try omega
     go_roundw
     case rel =>
      refine ⟨k+3,o++[c],by go_num,by omega,by simp;omega,?_,hst4,(hnxq.alloc (by omega) _).grown hgrow2 (by simp;omega) (fun j hj=>(hownq.lt j hj).1)⟩;rw [zU,List.length_append];have e:yb [c]=[.int .u8 (16*a+b)]:=by show [Value.int .u8 (c.toNat:Int)]=_;rw [hval]
      rw [e];exact hown1
     case measure=>simp [intOf];omega
    have hfin:=KZ9 (hst2.trans (ry (tX (by rw [List.length_drop,HLEN.out];omega))));have hle:(n:Int)≤(k:Int)+2:=by omega
    clear hst hst2 hdr hx;go_wp2
    all_goals try omega
    (try rw [Exit.noGoto_ret])
    go_ret2;exact ⟨⟨_,_,rfl,.inr ⟨rfl,rfl,hfin.out⟩⟩,hnx⟩
   have hst3:=KZ9 (hst2.trans (kC hp));have g1:((s[k].toNat:Int) != 37)=true:=by
    simp;intro e;exact hp (UInt8.toNat_inj.1 (by show s[k].toNat=37;omega))
   clear hst hst2 hdr hx hp;go_wp2_with (at_builtin;refine wpList_append_own _ rfl (.tmp 21) (.tmp 25) 32 rfl (w.heap.size) 5 iB0 (.int .u8 0) 1 1 Tryz.underlying32 iB.1 iB.2.1 iB.2.2.1 iB.2.2.2 rfl (by decide) _ _ _ rfl (hown.alloc _) ⟨wr.heap.size,0,none⟩ 1 1 [_] rfl rfl (cell_one_new _ _ _) (by intro u hu;simp at hu;subst hu;rfl) (by unfold maxLen;omega) (by omega) (by simp;omega) ?_;intro v1 w2 hown1 hgrow2 hnil1)
   all_goals try omega
   go_roundw
   case rel =>
    refine ⟨k+1,o++[s[k]],by go_num,by omega,by simp;omega,?_,hst3,(hnx.alloc (by omega) _).grown hgrow2 (by simp;omega) (fun j hj=>(hown0.lt j hj).1)⟩;rw [zU,List.length_append];exact hown1
   case measure=>simp [intOf];omega
  have hkn:k=n:=by omega
  have hfin:pctV l=some o:=by rw [hst.out,List.drop_of_length_le (by rw [HLEN.out];omega),XO]
  have HFIN:=KZ9 hfin;have hcv:=yI (P:=Tryz.prog) (Row.owned hown) (src:=32) (dst:=9) Tryz.underlying32 Tryz.underlying5 Tryz.underlying9;clear hst hfin;go_wp2
  all_goals try omega
  go_goals
  (try rw [Exit.noGoto_ret])
  go_ret2;exact ⟨⟨_,_,rfl,.inl ⟨rfl,by rw [HFIN.out,zj]⟩⟩,hnx⟩
def JC (a b c d e f g h:Nat):Int:=bits .or .u64 (bits .or .u64 (bits .or .u64 (bits .or .u64 (bits .or .u64 (bits .or .u64 (bits .or .u64 (IntKind.u64.wrap a) (IntKind.u64.wrap (IntKind.u64.wrap b*256))) (IntKind.u64.wrap (IntKind.u64.wrap c*65536))) (IntKind.u64.wrap (IntKind.u64.wrap d*16777216))) (IntKind.u64.wrap (IntKind.u64.wrap e*4294967296))) (IntKind.u64.wrap (IntKind.u64.wrap f*1099511627776))) (IntKind.u64.wrap (IntKind.u64.wrap g*281474976710656))) (IntKind.u64.wrap (IntKind.u64.wrap h*72057594037927936))
theorem TC (s:ByteArray) (h8:8≤s.size) (hs:s.size≤100000000) (w:World):Calls Tryz.prog 253 #[.string s] w fun e w'=>e= .returned (.int .u64 (JC s[0].toNat s[1].toNat s[2].toNat s[3].toNat s[4].toNat s[5].toNat s[6].toNat s[7].toNat))∧∃ m,w'=w.drewN m:=by
 have i0:(0:Int)<(s.size:Int):=by omega
 have i1:(1:Int)<(s.size:Int):=by omega
 have i2:(2:Int)<(s.size:Int):=by omega
 have i3:(3:Int)<(s.size:Int):=by omega
 have i4:(4:Int)<(s.size:Int):=by omega
 have i5:(5:Int)<(s.size:Int):=by omega
 have i6:(6:Int)<(s.size:Int):=by omega
 have i7:(7:Int)<(s.size:Int):=by omega
 have n0:0<s.size:=by omega
 have n1:1<s.size:=by omega
 have n2:2<s.size:=by omega
 have n3:3<s.size:=by omega
 have n4:4<s.size:=by omega
 have n5:5<s.size:=by omega
 have n6:6<s.size:=by omega
 have n7:7<s.size:=by omega
 go_enter Tryz.func253,Tryz.ntmps253
 go_wp2;go_quiet (fail)
 go_wp2;go_ret;exact ⟨rfl,_,rfl⟩
theorem uM {B:Nat} {a w:World} (h:Below B a w) (n:Nat):Below B a (w.drewN n):=⟨h.os,h.tape,h.output,h.size,h.block⟩
def Asc (t:ByteArray):Prop:=(un t).all (fun b=>decide (b.toNat<128))=true
theorem Asc.part {t:ByteArray} (h:Asc t) (a b:Nat):Asc (t.extract a b):=by
 unfold Asc at *;rw [xk];rw [List.all_eq_true] at *;intro x hx;exact h x (List.mem_of_mem_drop (List.mem_of_mem_take hx))
theorem wX (t:ByteArray) (a:Nat) (h:a≤t.size):(t.extract a t.size).size=t.size - a:=by
 have:=congrArg List.length (xk t a t.size);rw [zb,List.length_take,List.length_drop,zb] at this;omega
theorem pq (s:ByteArray) (w:World) (hs:s.size≤100000000) (ha:(un s).all (fun b=>decide (b.toNat<128))=true):Calls Tryz.prog 236 #[.string s] w fun e w'=>e= .returned (.bool true)∧Below w.heap.size w w':=by
 go_enter Tryz.func236,Tryz.ntmps236
 go_wp2
 all_goals try omega
 go_loopg [0] s.size (fun m sv wr=>∃ t:ByteArray,m=t.size∧sv= .string t∧t.size≤100000000∧Hid ((un t).all (fun b=>decide (b.toNat<128))=true)∧Below w.heap.size w wr)
 case atStart=>exact ⟨s,rfl,rfl,hs,KZ9 ha,Below.refl _ _⟩
 case round =>
  obtain ⟨t,rfl,rfl,hts,hat,hnx⟩:=hrel;rcases Nat.eq_zero_or_pos t.size with h0 | hpos
  ·have h0I:(t.size:Int)=0:=by omega
   go_wp2
   all_goals try omega
   go_ret;exact ⟨rfl,hnx⟩
  have hb:t[0].toNat<128:=by
   have:=List.all_eq_true.1 hat.out t[0] (by rw [←zL t 0 hpos];exact List.getElem_mem _);exact of_decide_eq_true this
  have hbI:decide ((t[0].toNat:Int)<128)=true:=KZ7 (by omega);have hword:∀ X:ByteArray,8≤X.size→X.size≤100000000→∃ x,∀ W:World,Calls Tryz.prog 253 #[.string X] W fun e w'=>e= .returned (.int .u64 x)∧∃ m,w'=W.drewN m:=fun X h8 hx=>⟨_,fun W=>TC X h8 hx W⟩;have HWORD:=KZ9 hword;clear hword;have hA1:=KZ9 (show Asc (t.extract 1 t.size) from Asc.part (show Asc t from hat.out) 1 t.size);have hs1:=wX t 1 hpos;obtain ⟨t1,ht1⟩:∃ t1,t.extract 1 t.size=t1:=⟨_,rfl⟩;rw [ht1] at hA1 hs1;have hl1:t1.size<t.size:=by omega
  have hc1:t1.size≤100000000:=by omega
  clear hs1;by_cases h9:8<t1.size
  ·obtain ⟨x,hx⟩:=HWORD.out t1 (by omega) (by omega);have HX:=KZ9 hx;have g8:decide ((8:Int)<(t1.size:Int))=true:=KZ7 (by omega);clear hx;go_wp2_with fail
   all_goals try omega
   refine (HX.out _).mono ?_;rintro e w2 ⟨rfl,m2,rfl⟩;have hnx2:=uM hnx m2;generalize wr.drewN m2=wr2 at hnx2 ⊢;go_upto_if 24 with fail
   all_goals try omega
   generalize (bits BinOp.and IntKind.u64 x 9259542123273814144==0)=q;cases q
   ·go_wp2
    all_goals try omega
    all_goals
     go_roundg t1.size
     case measure=>omega
     case rel=>exact ⟨t1,rfl,rfl,by omega,hA1,hnx2⟩
   have hA2:=KZ9 (show Asc (t1.extract 8 t1.size) from Asc.part (show Asc t1 from hA1.out) 8 t1.size);have hs2:=wX t1 8 (by omega);obtain ⟨t2,ht2⟩:∃ t2,t1.extract 8 t1.size=t2:=⟨_,rfl⟩;rw [ht2] at hA2 hs2;have hl2:t2.size<t1.size:=by omega
   have hc2:t2.size≤100000000:=by omega
   clear hs2;by_cases h16:16<t2.size
   ·have hs3:=wX t2 8 (by omega);obtain ⟨t3,ht3⟩:∃ t3,t2.extract 8 t2.size=t3:=⟨_,rfl⟩;rw [ht3] at hs3;have hl3:8≤t3.size:=by omega
    have hc3:t3.size≤100000000:=by omega
    clear hs3;obtain ⟨y1,hy1⟩:=HWORD.out t2 (by omega) (by omega);obtain ⟨y2,hy2⟩:=HWORD.out t3 (by omega) (by omega);have HY1:=KZ9 hy1;have HY2:=KZ9 hy2;have g16:decide ((16:Int)<(t2.size:Int))=true:=KZ7 (by omega);have gn8:8≤t2.size:=by omega
    have gI8:(8:Int)≤(t2.size:Int):=by omega
    clear hy1 hy2;go_wp2_with fail
    all_goals try omega
    refine wp_region_quiet_lit (by kernel_rfl) (by kernel_rfl) ?_;repeat (go_big_quiet_step (fail))
    go_big_quiet_want
    go_big_quiet_op
    apply Exists.intro;refine ⟨fun _=> ?_,?_⟩
    ·exact Calls.quiet_of (HY1.out _)
    go_big_quiet_on
    repeat (go_big_quiet_step (fail))
    go_big_quiet_want
    go_big_quiet_op
    apply Exists.intro;refine ⟨fun _=> ?_,?_⟩
    ·exact Calls.quiet_of (HY2.out _)
    go_big_quiet_on
    repeat (go_big_quiet_step (fail))
    refine wpQuiet_nil ?_;intro _ hw';obtain ⟨nq,hw''⟩:=hw';subst hw'';generalize (bits BinOp.and IntKind.u64 (bits BinOp.or IntKind.u64 y1 y2) 9259542123273814144==0)=q2;have hnx3:=uM hnx2 nq;generalize wr2.drewN nq=wr3 at hnx3 ⊢;cases q2
    ·go_wp2
     all_goals try omega
     all_goals
      go_roundg t2.size
      case measure=>omega
      case rel=>exact ⟨t2,rfl,rfl,by omega,hA2,hnx3⟩
    have hA4:=KZ9 (show Asc (t2.extract 16 t2.size) from Asc.part (show Asc t2 from hA2.out) 16 t2.size);have hs4:=wX t2 16 (by omega);obtain ⟨t4,ht4⟩:∃ t4,t2.extract 16 t2.size=t4:=⟨_,rfl⟩;rw [ht4] at hA4 hs4;have hl4:t4.size<t.size:=by omega
    have hc4:t4.size≤100000000:=by omega
    have gn16:16≤t2.size:=by omega
    have gI16:(16:Int)≤(t2.size:Int):=by omega
    clear hs4;go_wp2
    all_goals try omega
    go_loopg [0] t4.size (fun m sv wr=>∃ v:ByteArray,m=v.size∧sv= .string v∧v.size<t.size∧v.size≤100000000∧Hid (Asc v)∧Below w.heap.size w wr)
    case atStart=>exact ⟨t4,rfl,rfl,hl4,hc4,hA4,hnx3⟩
    case round =>
     obtain ⟨v,rfl,rfl,hvt,hvc,hva,hnv⟩:=hrel;by_cases h32:32<v.size
     ·have q8:=wX v 8 (by omega);have q16:=wX v 16 (by omega);have q24:=wX v 24 (by omega);obtain ⟨v8,hv8⟩:∃ v8,v.extract 8 v.size=v8:=⟨_,rfl⟩;obtain ⟨v16,hv16⟩:∃ v16,v.extract 16 v.size=v16:=⟨_,rfl⟩;obtain ⟨v24,hv24⟩:∃ v24,v.extract 24 v.size=v24:=⟨_,rfl⟩;rw [hv8] at q8;rw [hv16] at q16;rw [hv24] at q24;obtain ⟨z1,hz1⟩:=HWORD.out v (by omega) (by omega);obtain ⟨z2,hz2⟩:=HWORD.out v8 (by omega) (by omega);obtain ⟨z3,hz3⟩:=HWORD.out v16 (by omega) (by omega);obtain ⟨z4,hz4⟩:=HWORD.out v24 (by omega) (by omega);have HZ1:=KZ9 hz1;have HZ2:=KZ9 hz2;have HZ3:=KZ9 hz3;have HZ4:=KZ9 hz4;have g32:decide ((32:Int)<(v.size:Int))=true:=KZ7 (by omega);have m8:8≤v.size:=by omega
      have m16:16≤v.size:=by omega
      have m24:24≤v.size:=by omega
      have m32:32≤v.size:=by omega
      have I8:(8:Int)≤(v.size:Int):=by omega
      have I16:(16:Int)≤(v.size:Int):=by omega
      have I24:(24:Int)≤(v.size:Int):=by omega
      have I32:(32:Int)≤(v.size:Int):=by omega
      clear hz1 hz2 hz3 hz4 q8 q16 q24;go_wp2_with fail
      all_goals try omega
      refine wp_region_quiet_lit (by kernel_rfl) (by kernel_rfl) ?_;repeat (go_big_quiet_step (fail))
      go_big_quiet_want
      go_big_quiet_op
      apply Exists.intro;refine ⟨fun _=> ?_,?_⟩
      ·exact Calls.quiet_of (HZ1.out _)
      go_big_quiet_on
      repeat (go_big_quiet_step (fail))
      go_big_quiet_want
      go_big_quiet_op
      apply Exists.intro;refine ⟨fun _=> ?_,?_⟩
      ·exact Calls.quiet_of (HZ2.out _)
      go_big_quiet_on
      repeat (go_big_quiet_step (fail))
      go_big_quiet_want
      go_big_quiet_op
      apply Exists.intro;refine ⟨fun _=> ?_,?_⟩
      ·exact Calls.quiet_of (HZ3.out _)
      go_big_quiet_on
      repeat (go_big_quiet_step (fail))
      go_big_quiet_want
      go_big_quiet_op
      apply Exists.intro;refine ⟨fun _=> ?_,?_⟩
      ·exact Calls.quiet_of (HZ4.out _)
      go_big_quiet_on
      repeat (go_big_quiet_step (fail))
      refine wpQuiet_nil ?_;intro _ hw';obtain ⟨nr,hw''⟩:=hw';subst hw'';generalize (bits BinOp.and IntKind.u64 (bits BinOp.or IntKind.u64 (bits BinOp.or IntKind.u64 z1 z2) (bits BinOp.or IntKind.u64 z3 z4)) 9259542123273814144==0)=q3;have hnw:=uM hnv nr;cases q3
      ·go_wp2
       all_goals try omega
       all_goals
        go_roundg v.size
        case measure=>omega
        case rel=>exact ⟨v,rfl,rfl,by omega,hva,hnw⟩
      have hA5:=KZ9 (show Asc (v.extract 32 v.size) from Asc.part (show Asc v from hva.out) 32 v.size);have hs5:=wX v 32 (by omega);obtain ⟨v5,hv5⟩:∃ v5,v.extract 32 v.size=v5:=⟨_,rfl⟩;rw [hv5] at hA5 hs5;have hl5:v5.size<v.size:=by omega
      clear hs5;go_wp2
      all_goals try omega
      all_goals
       go_roundg v5.size
       case measure=>omega
       case rel=>exact ⟨v5,rfl,rfl,by omega,by omega,hA5,hnw⟩
     have g32:decide ((32:Int)<(v.size:Int))=false:=KZ8 (by omega);go_wp2_with fail
     all_goals try omega
     go_quiet (fail)
     have hnw:=uM hnv nq;go_wp2
     all_goals try omega
     all_goals
      go_roundg v.size
      case measure=>omega
      case rel=>exact ⟨v,rfl,rfl,by omega,hva,hnw⟩
   have g16:decide ((16:Int)<(t2.size:Int))=false:=KZ8 (by omega);go_wp2_with fail
   all_goals try omega
   go_quiet (fail)
   have hnx3:=uM hnx2 nq;go_wp2
   all_goals try omega
   all_goals
    go_roundg t2.size
    case measure=>omega
    case rel=>exact ⟨t2,rfl,rfl,by omega,hA2,hnx3⟩
  have g8:decide ((8:Int)<(t1.size:Int))=false:=KZ8 (by omega);go_wp2
  all_goals try omega
  all_goals
   go_roundg t1.size
   case measure=>omega
   case rel=>exact ⟨t1,rfl,rfl,by omega,hA1,hnx⟩
end Go.Proofs.YtjbciamhhfcdoaaGreatDoor
namespace Hs
open Go Go.RowKit
theorem gL {w:World} (s:ByteArray) (p:Nat):Below w.heap.size w (w.iter s p):=(Below.refl _ _).alloc (Nat.le_refl _) _
end Hs
namespace Go.Proofs.YtjbciamhhfcdoaaGreatDoor
open Go.RowKit Hs
theorem rH (s:ByteArray) (w:World) (hs:s.size≤100000000) (ha:Asc s):Calls Tryz.prog 237 #[.string s] w fun e w'=>e= .returned (.int .i64 (s.size:Int))∧Below w.heap.size w w':=by
 refine (Tryz.utf8_RuneCountInString_ascii s w (by omega) ?_).mono ?_
 ·intro j b hb;have h1:(un s)[j]? =some b:=hb;exact of_decide_eq_true (List.all_eq_true.1 ha b (List.mem_of_getElem? h1))
 rintro e w' ⟨rfl,rfl⟩;exact ⟨rfl,gL _ _⟩
set_option maxRecDepth 20000
set_option maxHeartbeats 4000000
theorem pH (s:ByteArray) (w:World) (hs:s.size≤100000000) (ha:Asc s):Calls Tryz.prog 212 #[.string s] w fun e w'=>(∃ t c,e= .returned (.tuple #[.string t,.int .i64 c])∧((c=0∧x8 (un s)=some (un t))∨(c≠0∧t=⟨#[]⟩∧x8 (un s)=none)))∧Below w.heap.size w w':=by
 have hlen:(un s).length=s.size:=zb s;have hdef:x8 (un s)=if 256<s.size then none else if ya (zt (un s))=true then some (zt (un s)) else none:=by unfold x8;rw [hlen]
 have hv:=fun W=>pq s W hs ha;have hr:=fun W=>rH s W hs ha;have HV:=KZ9 hv;have HR:=KZ9 hr;have HDEF:=KZ9 hdef;have hlow:=fun W=>ti s W hs;have HLOW:=KZ9 hlow;have hval:=fun W=>kp (mk (zt (un s))) W (by rw [zh,yK,hlen];exact hs);rw [zj] at hval;obtain ⟨ok,hok⟩:=KZ6 (ya (zt (un s)));rw [←hok] at hdef;simp only [←hok] at hval;have HVAL:=KZ9 hval;have HDEF2:=KZ9 hdef;obtain ⟨n,hn⟩:=KZ6 s.size;rw [←hn] at hs;have hsI:(s.size:Int)=(n:Int):=by rw [hn]
 have HN:=KZ9 hn;clear hv hr hdef hlow hval hok hlen HDEF hn;go_enter Tryz.func212,Tryz.ntmps212
 go_wp2_with fail
 refine (HV.out _).mono ?_;rintro e w1 ⟨rfl,hb1⟩;have HB1:=KZ9 hb1;clear hb1;go_wp2_with fail
 all_goals try omega
 refine (HR.out _).mono ?_;rintro e w2 ⟨rfl,hb2⟩;have HB2:=KZ9 (HB1.out.trans (hb2.mono HB1.out.size));clear hb2;by_cases h256:256<n
 ·have g1:decide ((256:Int)<(n:Int))=true:=KZ7 (by omega);have hfin:=KZ9 (HDEF2.out.trans (if_pos (by rw [←HN.out];exact h256)));go_wp2
  all_goals try omega
  go_ret2;exact ⟨⟨_,_,rfl,.inr ⟨by decide,rfl,hfin.out⟩⟩,HB2.out⟩
 have g1:decide ((256:Int)<(n:Int))=false:=KZ8 (by omega);have hfin:=KZ9 (HDEF2.out.trans (if_neg (by rw [←HN.out];exact h256)));go_wp2_with fail
 all_goals try omega
 refine (HLOW.out _).mono ?_;rintro e w3 ⟨rfl,hb3⟩;have HB3:=KZ9 (HB2.out.trans (hb3.mono HB2.out.size));clear hb3;go_wp2_with fail
 all_goals try omega
 refine (HR.out _).mono ?_;rintro e w4 ⟨rfl,hb4⟩;have HB4:=KZ9 (HB3.out.trans (hb4.mono HB3.out.size));clear hb4;go_wp2_with fail
 all_goals try omega
 refine (HVAL.out _).mono ?_;rintro e w5 ⟨rfl,hb5⟩;have HB5:=KZ9 (HB4.out.trans (hb5.mono HB4.out.size));clear hb5;cases ok
 ·have hf:=KZ9 (hfin.out.trans (if_neg (by simp)));go_wp2
  all_goals try omega
  go_ret2;exact ⟨⟨_,_,rfl,.inr ⟨by decide,rfl,hf.out⟩⟩,HB5.out⟩
 have hf:=KZ9 (hfin.out.trans (if_pos rfl));go_wp2
 all_goals try omega
 go_ret2;exact ⟨⟨_,_,rfl,.inl ⟨rfl,by rw [hf.out,zj]⟩⟩,HB5.out⟩
end Go.Proofs.YtjbciamhhfcdoaaGreatDoor
namespace Hs
open Go
theorem tg (n b0:Nat):∀ (l:List Nat) (out:Bs) (delta bias done:Nat),delta+l.length<10 ^ 14 →
  (zw n b0 l out delta bias done).1.length≤out.length+15*l.length∧(zw n b0 l out delta bias done).2.1≤delta+l.length∧(zw n b0 l out delta bias done).2.2.2≤done+l.length
 | [],out,delta,bias,done,_=>by simp [zw]
 | p::r,out,delta,bias,done,h=>by
  simp only [List.length_cons] at h ⊢;unfold zw;split
  ·have:=tg n b0 r out (delta+1) bias done (by omega);omega
  split
  ·have:=tg n b0 r (out++vx delta 0 bias) 0 (xV delta (done+1) (decide (done=b0))) (done+1) (by omega);have h2:=uO 14 delta 0 bias (by omega);rw [List.length_append] at this;omega
  have:=tg n b0 r out delta bias done (by omega);omega
theorem kP (n D:Nat):∀ l:List Nat,zz n D l≤D
 | []=>Nat.le_refl _
 | p::r=>by
  have:=kP n D r;unfold zz;split<;>omega
theorem WH (pts:List Nat) (b0:Nat) (hL:pts.length≤256):∀ (f n:Nat) (out:Bs) (delta bias done:Nat),done+f*256≤65792→delta+f*73300772000+256<10 ^ 14 →
  (qq pts b0 f n out delta bias done).length≤out.length+f*3840
 | 0,n,out,delta,bias,done,_,_=>by simp [qq]
 | f+1,n,out,delta,bias,done,h1,h2=>by
  unfold qq;split
  ·omega
  have hm:=kP n 1114112 pts;have hp:(zz n 1114112 pts - n)*(done+1)≤1114112*65793:=Nat.mul_le_mul (by omega) (by omega);have hb:=tg (zz n 1114112 pts) b0 pts out (delta+(zz n 1114112 pts - n)*(done+1)) bias done (by omega);have:=WH pts b0 hL f (zz n 1114112 pts+1)
   (zw (zz n 1114112 pts) b0 pts out (delta+(zz n 1114112 pts - n)*(done+1)) bias done).1
   ((zw (zz n 1114112 pts) b0 pts out (delta+(zz n 1114112 pts - n)*(done+1)) bias done).2.1+1)
   (zw (zz n 1114112 pts) b0 pts out (delta+(zz n 1114112 pts - n)*(done+1)) bias done).2.2.1
   (zw (zz n 1114112 pts) b0 pts out (delta+(zz n 1114112 pts - n)*(done+1)) bias done).2.2.2 (by omega) (by omega)
  omega
theorem WG {pts:List Nat} {c:Bs} (h:sx pts=some c):c.length≤1000000:=by
 unfold sx at h;split at h
 ·cases h
 rename_i hL;split at h
 ·cases h
 injection h with h
 rw [←h];have hb:(zD pts).length≤pts.length:=by unfold zD;rw [List.length_map];exact List.length_filter_le _ _
 have:=WH pts (zD pts).length (by omega) pts.length 128 (zD pts++if (zD pts).length=0 then [] else [45]) 0 72 (zD pts).length (by omega) (by omega);rw [List.length_append] at this;have h1:(if (zD pts).length=0 then ([]:Bs) else [45]).length≤1:=by split<;>simp
 omega
end Hs
namespace Go.Proofs.YtjbciamhhfcdoaaGreatDoor
open Go.RowKit Hs
theorem gW (s:ByteArray) (w:World) (hs:s.size≤100000000):Calls Tryz.prog 237 #[.string s] w fun e w'=>e= .returned (.int .i64 ((xD (un s)).length:Int))∧Below w.heap.size w w':=by
 refine (Tryz.utf8_RuneCountInString s w (by omega)).mono ?_;rintro e w' ⟨rfl,p,rfl⟩;exact ⟨by rw [gS],gL _ _⟩
theorem Sk (s:ByteArray) (w:World) (hU:U8 w) (hs:s.size≤100000000):Calls Tryz.prog 236 #[.string s] w fun e w'=>e= .returned (.bool (Lib.validD (un s)))∧Below w.heap.size w w' :=
 Tryz.utf8_ValidString s w (by omega) hU
set_option maxRecDepth 20000
set_option maxHeartbeats 8000000
theorem kr (s:ByteArray) (w:World) (hU:U8 w) (hs:s.size≤100000) (ha:rp (un s)=false):Calls Tryz.prog 212 #[.string s] w fun e w'=>(∃ t c,e= .returned (.tuple #[.string t,.int .i64 c])∧((c=0∧xQ (un s)=some (un t))∨(c≠0∧t=⟨#[]⟩∧xQ (un s)=none)))∧Below w.heap.size w w':=by
 obtain ⟨iN0,iN⟩:=info_parts qZ;have hlen:(un s).length=s.size:=zb s;obtain ⟨l,hl⟩:=KZ6 (un s);have HDEF:Hid (xQ l=if Lib.validD l=false then none else if 256<(xD l).length then none else match sx (xD (zt l)) with
  | none=>none
  | some c=>if ya (xnP++c)=true then some (xnP++c) else none):=KZ9 rfl
 have hv:=Sk s w hU (by omega);have hr:=fun W=>gW s W (by omega);have hlow:=fun W=>ti s W (by omega);have hplt:=YD l.length l (Nat.le_refl _);rw [←hl] at hv hr hlow ha hlen ⊢;have hsz0:(mk (zt l)).size=l.length:=by rw [zh,yK]
 obtain ⟨n,hn⟩:=KZ6 l.length;have hsI:(s.size:Int)=(n:Int):=by omega
 have hn6:n≤100000:=by omega
 rw [←hn] at hplt hsz0;have HNL:=KZ9 hn;obtain ⟨m,hm⟩:=KZ6 ((xD l).length);rw [←hm] at hplt HDEF;simp only [←hm] at hr;have hmn:m≤n:=by rw [hm,hn];exact qE l
 clear hn;obtain ⟨ok,hok⟩:=KZ6 (Lib.validD l);rw [←hok] at HDEF hv hplt;have HR:=KZ9 hr;have HLOW:=KZ9 hlow;have HV:=KZ9 hv;clear hr hlow hv hok hm hs hl hlen;cases ok
 ·have hfin:=KZ9 (HDEF.out.trans (if_pos rfl));go_enter Tryz.func212,Tryz.ntmps212
  go_wp2_with fail
  refine HV.out.mono ?_;rintro e w1 ⟨rfl,hb1⟩;go_wp2
  all_goals try omega
  go_ret2;exact ⟨⟨_,_,rfl,.inr ⟨by decide,rfl,hfin.out⟩⟩,hb1⟩
 have HD2:=KZ9 (HDEF.out.trans (if_neg (by simp)));have hlt:=hplt rfl ha;clear HDEF hplt ha;go_enter Tryz.func212,Tryz.ntmps212
 go_wp2_with fail
 refine HV.out.mono ?_;rintro e w1 ⟨rfl,hb1⟩;have HB1:=KZ9 hb1;clear hb1 HV;go_wp2_with fail
 all_goals try omega
 refine (HR.out _).mono ?_;rintro e w2 ⟨rfl,hb2⟩;have HB2:=KZ9 (HB1.out.trans (hb2.mono HB1.out.size));clear hb2 HB1;by_cases h256:256<m
 ·have g1:decide ((256:Int)<(m:Int))=true:=KZ7 (by omega);have hfin:=KZ9 (HD2.out.trans (if_pos h256));clear HD2;go_wp2
  all_goals try omega
  go_ret2;exact ⟨⟨_,_,rfl,.inr ⟨by decide,rfl,hfin.out⟩⟩,HB2.out⟩
 have g1:decide ((256:Int)<(m:Int))=false:=KZ8 (by omega);have g2:decide ((m:Int)<(n:Int))=true:=KZ7 (by omega);have HD3:=KZ9 (HD2.out.trans (if_neg h256));clear HD2;go_wp2_with fail
 all_goals try omega
 refine (HLOW.out _).mono ?_;rintro e w3 ⟨rfl,hb3⟩;have HB3:=KZ9 (HB2.out.trans (hb3.mono HB2.out.size));clear hb3 HB2;go_wp2_with fail
 all_goals try omega
 refine (HR.out _).mono ?_;rintro e w4 ⟨rfl,hb4⟩;have hb04:=HB3.out.trans (hb4.mono HB3.out.size);have HB4:=KZ9 hb04;have hs04:=hb04.size;clear hb4 HB3 hb04 HLOW HR;obtain ⟨q,hq⟩:=KZ6 (zt l);have hqs:(mk q).size=n:=by rw [hq];exact hsz0
 have hql:q.length=n:=by rw [←zh];exact hqs
 rw [←hq] at HD3 ⊢;obtain ⟨sq,hsq⟩:=KZ6 (mk q);rw [←hsq] at hqs ⊢;have hun:un sq=q:=by rw [hsq,zj]
 clear hq hsz0 hsq;go_wp2
 all_goals try omega
 go_loopg [5] n (fun f pv wr=>∃ (pos k:Nat) (done:List Nat),wr.heap[w4.heap.size]? =some (.stringIter sq pos)∧wr.ownsRow (w4.heap.size+1) 3 1 pv k (zq done)∧Hid (xD q=done++xD (q.drop pos))∧n≤pos+f∧k≤pos∧pos≤n∧Below w.heap.size w wr∧done.length=k∧(∀ p∈done,p≤1114111))
 case atStart=>exact ⟨0,0,[],World.iter_heap _ _ _,World.ownsRow_nil _ _ _ _,KZ9 (by rw [List.drop_zero];rfl),by omega,by omega,by omega,HB4.out.alloc hs04 _,rfl,fun p h=>by cases h⟩
 case round =>
  obtain ⟨pos,k,done,hit,hown,hst,hf,hkp,hpn,hbw,hdk,hdone⟩:=hrel;by_cases hp:pos<n
  ·obtain ⟨g',rfl⟩:∃ g',gk=g'+1:=⟨gk - 1,by omega⟩;have hnx:∀ ty,(Instr.next (.pointer (some ⟨w4.heap.size,0,none⟩)) true ty).run Tryz.prog wr=_:=fun ty=>Lib.run_next_any_at wr w4.heap.size sq pos ty hit (by omega);have hdl:=Lib.decodeL_drop sq pos;have hdl2:Lib.decodeL (q.drop pos)=Utf8.decode sq pos:=by rw [←hun];exact hdl
   have hrl:=Lib.rune_le sq pos;have hwd:=Lib.width_pos sq pos;have hwl:=Lib.decodeL_le (q.drop pos) (by intro e;have:=congrArg List.length e;simp at this;omega);have hst2:Hid (xD q=(done++[(Utf8.decode sq pos).1])++xD (q.drop (pos+(Utf8.decode sq pos).2))):=by
    refine KZ9 ?_;rw [hst.out,ww (by intro e;have:=congrArg List.length e;simp at this;omega),hdl2,List.drop_drop,List.append_assoc];rfl
   rw [hdl2,List.length_drop] at hwl;obtain ⟨R,hR⟩:∃ R,(Utf8.decode sq pos).1=R:=⟨_,rfl⟩;obtain ⟨K,hK⟩:∃ K,(Utf8.decode sq pos).2=K:=⟨_,rfl⟩;rw [hR,hK] at hnx hst2;rw [hR] at hrl;rw [hK] at hwd hwl;have hit2:=Lib.iterAt_heap wr w4.heap.size sq pos (pos+K) hit;have hbw2:=Lib.below_iterAt hbw (k:=w4.heap.size) (by omega) sq (pos+K);have hown2:=ownsRow_iterAt hown (Nat.lt_succ_self _) sq (pos+K);obtain ⟨W,hWd⟩:∃ W,wr.iterAt w4.heap.size sq (pos+K)=W:=⟨_,rfl⟩;rw [hWd] at hnx hit2 hbw2 hown2;have hltW:w4.heap.size<W.heap.size:=(Array.getElem?_eq_some_iff.1 hit2).1;have hsW:=hbw2.size;have hit3:∀ o,(W.alloc o).heap[w4.heap.size]? =some (.stringIter sq (pos+K)):=fun o=>by
    show (W.heap.push o)[w4.heap.size]? =_;rw [Array.getElem?_push_lt hltW,←Array.getElem?_eq_getElem hltW];exact hit2
   clear hWd hK hR hdl hdl2 hst hit hbw hown;go_wp2_with (at_builtin;refine wpList_append_own _ rfl (.tmp 30) (.tmp 33) 140 rfl ((w4.heap.size+1)) 3 iN0 (.int .i64 0) 1 8 Tryz.underlying140 iN.1 iN.2.1 iN.2.2.1 iN.2.2.2 rfl (by decide) _ _ _ rfl (hown2.alloc _) ⟨W.heap.size,0,none⟩ 1 1 [_] rfl rfl (cell_one_new _ _ _) (by intro u hu;simp at hu;subst hu;rfl) (by unfold maxLen;omega) (by omega) (by simp;omega) ?_;intro v1 w5 hown1 hgrow1 hnil1)
   all_goals try omega
   go_roundg g'
   case measure=>omega
   case rel =>
    refine ⟨pos+K,k+1,done++[R],(hgrow1.block _ (by simp;omega) (fun e=> ?_)).trans (hit3 _),?_,hst2,by omega,by omega,by omega,?_,by simp;omega,?_⟩
    ·have:=(hown2.lt _ e.symm).1;omega
    ·rw [xH,show zq [R]=[.int .i64 (R:Int)] from rfl];exact hown1
    ·exact (hbw2.alloc hsW _).grown hgrow1 (by simp;omega) (fun j hj=>by have:=(hown2.lt j hj).1;omega)
    intro p hp;rcases List.mem_append.1 hp with h | h
    ·exact hdone p h
    rw [List.mem_singleton.1 h];exact hrl
  have hnx:∀ ty,(Instr.next (.pointer (some ⟨w4.heap.size,0,none⟩)) true ty).run Tryz.prog wr=_:=fun ty=>Lib.run_next_end_at wr w4.heap.size sq pos ty hit (by omega);have hfin:xD q=done:=by rw [hst.out,List.drop_of_length_le (by omega),XH,List.append_nil]
  have henc:=Zw _ done wr (Nums.owned hown) (by have:=qE q;rw [hfin] at this;omega) (fun p h=>by have:=hdone p h;omega);have HE:=KZ9 henc;have HFIN:=KZ9 hfin;clear henc hfin hst hdone;go_wp2_with fail
  all_goals try omega
  refine HE.out.mono ?_;rintro e w6 ⟨⟨sc,ec,rfl,hcase⟩,hb6⟩;have hB6:=hbw.trans (hb6.mono hbw.size);have HB6:=KZ9 hB6;clear hb6 hB6 HE;rcases hcase with ⟨rfl,henc2⟩ | ⟨hne,rfl,henc2⟩
  ·have HD4:Hid (xQ l=if ya (xnP++un sc)=true then some (xnP++un sc) else none):=KZ9 (by rw [HD3.out,HFIN.out,henc2]);obtain ⟨T,hT⟩:=KZ6 ((⟨#[120,110,45,45]⟩:ByteArray)++sc);have huT:un T=xnP++un sc:=by rw [hT,yo];rfl
   have hTs:T.size=sc.size+4:=by rw [←zb,huT,List.length_append,zb,Nat.add_comm];rfl
   rw [←huT] at HD4;have hscl:sc.size≤1000000:=by have:=WG henc2;rwa [zb] at this
   have hval:=fun W=>kp T W (by omega);obtain ⟨ok2,hok2⟩:=KZ6 (ya (un T));rw [←hok2] at HD4;simp only [←hok2] at hval;have HVAL:=KZ9 hval;rw [hT] at hTs;have hT2:=hT.symm;clear HD3 hT huT hval hok2 henc2;go_wp2_with fail
   all_goals try omega
   refine (HVAL.out _).mono ?_;rintro e w7 ⟨rfl,hb7⟩;have HB7:=KZ9 (HB6.out.trans (hb7.mono HB6.out.size));clear hb7;cases ok2
   ·have hf:=KZ9 (HD4.out.trans (if_neg (by simp)));go_wp2
    all_goals try omega
    go_ret2;exact ⟨⟨_,_,rfl,.inr ⟨by decide,rfl,hf.out⟩⟩,HB7.out⟩
   have hf:=KZ9 (HD4.out.trans (if_pos rfl));go_wp2
   all_goals try omega
   go_ret2;exact ⟨⟨_,_,rfl,.inl ⟨rfl,hf.out⟩⟩,HB7.out⟩
  have hf:Hid (xQ l=none):=KZ9 (by rw [HD3.out,HFIN.out,henc2]);have g3:((ec:Int) != 0)=true:=by simp;omega
  go_wp2
  all_goals try omega
  go_ret2;exact ⟨⟨_,_,rfl,.inr ⟨by decide,rfl,hf.out⟩⟩,HB6.out⟩
def Base6 (w:World):Prop:=Base w∧w.cell? ⟨5,15,none⟩=some (.int .u8 4)
theorem Base6.below {w w':World} (h:Base6 w) (hb:Below w.heap.size w w'):Base6 w' :=
 ⟨h.1.below hb,((yA hb).1 _ _ (World.block_lt_of_cell? w _ h.2)).trans h.2⟩
theorem RI (w:World) (h:w.cell? ⟨5,15,none⟩=some (.int .u8 4)):Calls Tryz.prog 269 #[.int .u64 16] w fun e w'=>e= .returned (.int .i64 4)∧w=w':=by
 have e1:bits BinOp.and IntKind.u64 16 (IntKind.u64.wrap (-16))=16:=by kernel_rfl
 have e2:IntKind.u64.wrap (16*285870213051353865)=4573923408821661840:=by kernel_rfl
 go_enter Tryz.func269,Tryz.ntmps269
 go_wp2;go_ret;exact ⟨rfl,rfl⟩
theorem Jj (w:World) (h:w.cell? ⟨5,15,none⟩=some (.int .u8 4)):Calls Tryz.prog 262 #[.int .u64 16] w fun e w'=>e= .returned (.int .i64 4)∧w=w':=by
 have HT:=KZ9 (RI w h);clear h;go_enter Tryz.func262,Tryz.ntmps262
 go_wp2_with fail
 refine (HT.out).mono ?_;rintro e w2 ⟨rfl,rfl⟩;go_wp2;go_ret;exact ⟨rfl,rfl⟩
theorem Py (w:World):Calls Tryz.prog 261 #[.int .i64 16] w fun e w'=>e= .returned (.bool true)∧w=w':=by
 go_enter Tryz.func261,Tryz.ntmps261
 go_wp2;go_ret;exact ⟨rfl,rfl⟩
theorem P6 (d:Nat) (h:d<16) (h2:d<(⟨#[48,49,50,51,52,53,54,55,56,57,97,98,99,100,101,102,103,104,105,106,107,108,109,110,111,112,113,114,115,116,117,118,119,120,121,122]⟩:ByteArray).size):(⟨#[48,49,50,51,52,53,54,55,56,57,97,98,99,100,101,102,103,104,105,106,107,108,109,110,111,112,113,114,115,116,117,118,119,120,121,122]⟩:ByteArray)[d]'h2=uL d:=by
 have:∀ d:Fin 16,(⟨#[48,49,50,51,52,53,54,55,56,57,97,98,99,100,101,102,103,104,105,106,107,108,109,110,111,112,113,114,115,116,117,118,119,120,121,122]⟩:ByteArray)[d.1]'(Nat.lt_of_lt_of_le d.2 (by decide))=uL d.1:=by decide
 exact this ⟨d,h⟩
theorem JK (x:Nat) (hx:x<65536):bits .and .u64 (x:Int) 15=((x % 16:Nat):Int):=by
 have h:=u64_and_nat x 15 (by omega) (by omega);have e:x &&& 15=x % 16:=Nat.and_two_pow_sub_one_eq_mod x 4;rw [e] at h;exact h
theorem BlkN.set {w:World} {g:Nat} {T:TypeId} {cs:Array Value} (h:BlkN w g T cs) (j:Nat) (v:Value):BlkN (w.setCell ⟨g,j,none⟩ v) g T (cs.setIfInBounds j v):=by
 have hlt:=h.lt;have h':w.heap[g]= .cells cs T (0,0):=by simpa [BlkN,Array.getElem?_eq_getElem hlt] using h
 show (w.heap.modify g _)[g]? =_;rw [Array.getElem?_eq_getElem (by simpa using hlt),Array.getElem_modify_self,h'];rfl
theorem rQ (cs:Array Value) (j:Nat) (v:Value) (h:j<cs.size):(cs.setIfInBounds j v).toList.drop j=v::cs.toList.drop (j+1):=by
 rw [Array.toList_setIfInBounds,List.drop_eq_getElem_cons (by simpa using h),List.getElem_set_self,List.drop_set_of_lt (by omega)]
theorem PA:(Tryz.prog.info? 5).map (·.size)=some 1:=by kernel_rfl
theorem Ys (b j:Nat) (h:j<65) (W:World):(Instr.sliceAt 257 (.pointer (some ⟨b,0,none⟩)) (some (.int .i64 (j:Int))) none none).run Tryz.prog W= .ok (.slice (some ⟨b,j,none⟩) (65 - j) (65 - j)) W:=by
 have hal:Tryz.prog.arrayLen 257=65:=by kernel_rfl
 have hel:Tryz.prog.elem 257=5:=by kernel_rfl
 have hs:∀ W,(sizeOf 5).run Tryz.prog W= .ok 1 W:=by
  intro W;obtain ⟨i,hi,hsz⟩:=Option.map_eq_some_iff.1 PA;simp [sizeOf,typeInfo,hi,hsz]
 have hadd:(⟨b,0,none⟩:Addr).add (j*1)=⟨b,j,none⟩:=by
  unfold Addr.add;split
  ·rename_i h1;simp at h1;simp [h1]
  simp
 rw [run_sliceAt_array_l W _ _ (by rw [hal,hel];exact Tryz.underlying257) .i64 _ (by omega) (by rw [hal];omega),hel,hs];simp only [Result.andThen,slicedAt,hal,Int.toNat_natCast];rw [if_neg (by omega),hadd]
theorem QL {W:World} {g j:Nat} {cs:Array Value} {t:Bs} (h:BlkN W g 257 cs) (hs:cs.size=65) (hj:j<65) (ht:j+t.length=65) (hd:cs.toList.drop j=yb t):Row W (.slice (some ⟨g,j,none⟩) (65 - j) (65 - j)) 1 (65 - j) (yb t):=by
 refine ⟨by rw [g9];omega,_,_,rfl,Nat.le_refl _,by unfold maxLen;omega,.inr ⟨g,j,rfl,h.lt,fun i u hi=> ?_⟩⟩;rw [cell_of_row W g (j+i) cs _ _ h,←hi,←hd,List.getElem?_drop];simp
theorem RM (n:Nat) (w:World) (hB:Base6 w) (hn:n<65536):Calls Tryz.prog 247 #[.slice none 0 0,.int .u64 (n:Int),.int .i64 16,.bool false,.bool false] w fun e w'=>e= .returned (.tuple #[.slice none 0 0,.string (mk (xJ n))])∧Below w.heap.size w w':=by
 have HP:=KZ9 (fun W=>Py W);have HT:=KZ9 (fun W h=>Jj W h);have HB:=KZ9 hB;clear hB;go_enter Tryz.func247,Tryz.ntmps247
 go_wp2_with fail
 refine (HP.out _).mono ?_;rintro e w2 ⟨rfl,rfl⟩;go_wp2_with fail
 refine (HT.out _ ?_).mono ?_
 ·exact ((yA ((Below.refl _ w).alloc (Nat.le_refl _) _)).1 _ _ (World.block_lt_of_cell? w _ HB.out.2)).trans HB.out.2
 rintro e w2 ⟨rfl,rfl⟩;have h0:BlkN (w.alloc (.cells Tryz.zeroCells257 257)) w.heap.size 257 Tryz.zeroCells257:=BlkN.new w _ _;have hz:Tryz.zeroCells257.size=65:=by kernel_rfl
 have HZ:=KZ9 (And.intro h0 hz);have hbA:Below w.heap.size w (w.alloc (.cells Tryz.zeroCells257 257)):=(Below.refl _ w).alloc (Nat.le_refl _) _;have HA:=KZ9 hbA;clear h0 hz hbA HP HT;go_wp2;go_loopw [1,13] (fun uv iv wr=>∃ (m q:Nat) (t:Bs) (cur:Array Value),uv= .int .u64 m∧iv= .int .i64 q∧m<65536∧q≤65∧61≤q∧Hid (q+t.length=65∧xJ n=xJ m++t∧cur.size=65∧cur.toList.drop q=yb t)∧Hid (BlkN wr w.heap.size 257 cur)∧Below w.heap.size w wr) (fun uv _ _=>(intOf uv).toNat)
 case atStart=>exact ⟨n,65,[],_,rfl,rfl,hn,by omega,by omega,KZ9 ⟨rfl,by simp,HZ.out.2,by rw [List.drop_of_length_le (by rw [Array.length_toList,HZ.out.2];exact Nat.le_refl _)];rfl⟩,KZ9 HZ.out.1,HA.out⟩
 case round =>
  obtain ⟨m,q,t,cur,rfl,rfl,hm,hq,hq1,hst,hblk,hnx⟩:=hrel;have hq2:62≤q:=by
   have h4:=tN n hn;have h1:0<(xJ m).length:=List.length_pos_iff.2 (uK m).1;have e:=congrArg List.length hst.out.2.1;rw [List.length_append] at e;have:=hst.out.1;omega
  obtain ⟨j,rfl⟩:∃ j,q=j+1:=⟨q - 1,by omega⟩;have hj:j<cur.size:=by rw [hst.out.2.2.1];omega
  obtain ⟨u0,hu0⟩:∃ u,cur[j]? =some u:=⟨cur[j],Array.getElem?_eq_getElem hj⟩;have c0:wr.cell? ⟨w.heap.size,j,none⟩=some u0:=by rw [cell_of_row wr w.heap.size j cur _ _ hblk.out];exact hu0
  have f0:wr.frozen? ⟨w.heap.size,j,none⟩=false:=Lib.frozen_of_heap hblk.out j;clear hu0;have hcs:Hid (j<cur.size):=KZ9 hj;clear hj;by_cases hge:16≤m
  ·have g1:decide ((16:Int)≤(m:Int))=true:=KZ7 (by omega);obtain ⟨d,hd⟩:=KZ6 (m % 16);have ha:bits .and .u64 (m:Int) 15=(d:Int):=by rw [hd];exact JK m hm
   have hd16:d<16:=by omega
   have hdl:d<(⟨#[48,49,50,51,52,53,54,55,56,57,97,98,99,100,101,102,103,104,105,106,107,108,109,110,111,112,113,114,115,116,117,118,119,120,121,122]⟩:ByteArray).size:=Nat.lt_of_lt_of_le hd16 (by decide);have HL:=KZ9 (P6 d hd16 hdl);have HD:=KZ9 hd;clear hd;go_wp2
   all_goals try omega
   go_roundw
   case rel =>
    refine ⟨m / 16,j,uL d::t,cur.setIfInBounds j (.int .u8 ((⟨#[48,49,50,51,52,53,54,55,56,57,97,98,99,100,101,102,103,104,105,106,107,108,109,110,111,112,113,114,115,116,117,118,119,120,121,122]⟩:ByteArray)[d].toNat:Int)),by go_num,rfl,by omega,by omega,by omega,KZ9 ⟨?_,?_,?_,?_⟩,KZ9 (hblk.out.set j _),hnx.setCell (p:=⟨w.heap.size,j,none⟩) (Nat.le_refl _) _⟩
    ·have:=hst.out.1;rw [List.length_cons];omega
    ·rw [hst.out.2.1,HD.out];unfold xJ;rw [uy (by decide) hge,List.append_assoc];rfl
    ·rw [Array.size_setIfInBounds];exact hst.out.2.2.1
    rw [rQ cur j _ hcs.out,hst.out.2.2.2,HL.out];rfl
   case measure=>simp [intOf];omega
  have g1:decide ((16:Int)≤(m:Int))=false:=KZ8 (by omega);have hd16:m<16:=by omega
  have hdl:m<(⟨#[48,49,50,51,52,53,54,55,56,57,97,98,99,100,101,102,103,104,105,106,107,108,109,110,111,112,113,114,115,116,117,118,119,120,121,122]⟩:ByteArray).size:=Nat.lt_of_lt_of_le hd16 (by decide);have hsl:=Ys w.heap.size j (by omega);have h2:=hblk.out.set j (.int .u8 ((⟨#[48,49,50,51,52,53,54,55,56,57,97,98,99,100,101,102,103,104,105,106,107,108,109,110,111,112,113,114,115,116,117,118,119,120,121,122]⟩:ByteArray)[m].toNat:Int));have hrow:=QL (j:=j) (t:=uL m::t) h2 (by rw [Array.size_setIfInBounds];exact hst.out.2.2.1) (by omega) (by have:=hst.out.1;rw [List.length_cons];omega) (by rw [rQ cur j _ hcs.out,hst.out.2.2.2,P6 m hd16 hdl];rfl);have hcv:=yI hrow Tryz.underlying32 Tryz.underlying5 Tryz.underlying9;have hfin:Hid (uL m::t=xJ n):=KZ9 (by rw [hst.out.2.1];unfold xJ;rw [vf hd16];rfl)
  rw [hfin.out] at hcv;clear h2 hrow hst hblk hcs hfin;go_wp2
  all_goals try omega
  go_ret2;exact ⟨rfl,hnx.setCell (p:=⟨w.heap.size,j,none⟩) (Nat.le_refl _) _⟩
theorem RJ (n:Nat) (w:World) (hB:Base6 w) (hn:n<65536):Calls Tryz.prog 224 #[.int .u64 (n:Int),.int .i64 16] w fun e w'=>e= .returned (.string (mk (xJ n)))∧Below w.heap.size w w':=by
 have HS:=KZ9 (RM n w hB hn);clear hB;go_enter Tryz.func224,Tryz.ntmps224
 go_wp2_with fail
 refine HS.out.mono ?_;rintro e w2 ⟨rfl,hb2⟩;go_wp2;go_ret;exact ⟨rfl,hb2⟩
theorem Pz (n:Nat) (w:World) (hB:Base6 w) (hn:n<65536):Calls Tryz.prog 193 #[.int .u64 (n:Int),.int .i64 16] w fun e w'=>e= .returned (.string (mk (xJ n)))∧Below w.heap.size w w':=by
 have HS:=KZ9 (RJ n w hB hn);clear hB;go_enter Tryz.func193,Tryz.ntmps193
 go_wp2_with fail
 refine HS.out.mono ?_;rintro e w2 ⟨rfl,hb2⟩;go_wp2;go_ret;exact ⟨rfl,hb2⟩
theorem Tj (w:World) (T:TypeId) (l:List Nat):∀ j (hj:j<l.length),(w.alloc (.cells (zg l).toArray T)).cell? ⟨w.heap.size,j,none⟩=some (.int .u16 (l[j]:Int)):=by
 intro j hj;rw [World.cell?_alloc_mark];simp [zg,List.getElem?_eq_getElem hj]
theorem sP {l:List Nat} {k:Nat} (h:k<l.length) (h0:l[k]=0):wd (l.drop k)=wd (l.drop (k+1))+1:=by
 rw [List.drop_eq_getElem_cons h,wd,if_pos h0]
theorem rN {l:List Nat} {k:Nat} (h:k<l.length) (h0:l[k]≠0):wd (l.drop k)=0:=by
 rw [List.drop_eq_getElem_cons h,wd,if_neg h0]
theorem UB {l:List Nat} {k:Nat} (h:k<l.length) (b:Nat × Nat):xz (l.drop k) k b=xz (l.drop (k+1)) (k+1) (if b.2<wd (l.drop k) then (k,wd (l.drop k)) else b):=by
 rw [List.drop_eq_getElem_cons h,xz]
theorem RY (l:List Nat) (w:World) (h8:l.length=8) (hl:∀ x∈l,x<65536):Calls Tryz.prog 142 #[.agg (zg l).toArray] w fun e w'=>e= .returned (.tuple #[.int .i64 (xz l 0 (0,0)).1,.int .i64 (xz l 0 (0,0)).2])∧Below w.heap.size w w':=by
 have hcell:=Tj w 58 l;have hbA:Below w.heap.size w (w.alloc (.cells (zg l).toArray 58)):=(Below.refl _ w).alloc (Nat.le_refl _) _;have hszA:w.heap.size<(w.alloc (.cells (zg l).toArray 58)).heap.size:=by simp
 have HA:=KZ9 (And.intro hbA (And.intro hszA hcell));have H8:=KZ9 h8;clear hcell hbA hszA;go_enter Tryz.func142,Tryz.ntmps142
 go_wp2;go_loopw [4,5,8] (fun av mv iv wr=>∃ (k a m:Nat),iv= .int .i64 k∧k≤8∧av= .int .i64 a∧mv= .int .i64 m∧a≤8∧m≤8∧Hid (xz l 0 (0,0)=xz (l.drop k) k (a,m))∧Below (w.alloc (.cells (zg l).toArray 58)).heap.size (w.alloc (.cells (zg l).toArray 58)) wr) (fun _ _ iv _=>8 - (intOf iv).toNat)
 case atStart=>exact ⟨0,0,0,rfl,by omega,rfl,rfl,by omega,by omega,KZ9 rfl,Below.refl _ _⟩
 case round =>
  obtain ⟨k,a,m,rfl,hk,rfl,rfl,ha,hm,hst,hnx⟩:=hrel;by_cases hlt:k<8
  ·have hkl:k<l.length:=by rw [H8.out];exact hlt
   have hst2:Hid (xz l 0 (0,0)=xz (l.drop (k+1)) (k+1) (if m<wd (l.drop k) then (k,wd (l.drop k)) else (a,m))):=KZ9 (by rw [hst.out,UB hkl]);have hw1:w.heap.size<wr.heap.size:=Nat.lt_of_lt_of_le HA.out.2.1 hnx.size;have HCR:Hid (∀ j (hj:j<l.length),wr.cell? ⟨w.heap.size,j,none⟩=some (.int .u16 (l[j]:Int))):=KZ9 (fun j hj=>((yA hnx).1 w.heap.size j HA.out.2.1).trans (HA.out.2.2 j hj));clear hst;go_wp2;go_loopw [7] (fun nv wq=>∃ (j:Nat),nv= .int .i64 j∧k+j≤8∧Hid (wd (l.drop k)=j+wd (l.drop (k+j)))∧Below wr.heap.size wr wq) (fun nv _=>8 - (intOf nv).toNat)
   case atStart=>exact ⟨0,rfl,by omega,KZ9 (by simp),Below.refl _ _⟩
   case round =>
    obtain ⟨j,rfl,hj,hrun,hnq⟩:=hrel;by_cases hjl:k+j<8
    ·have hjl2:k+j<l.length:=by rw [H8.out];exact hjl
     have g1:decide ((k:Int)+(j:Int)<8)=true:=KZ7 (by omega);have c0:=((yA hnq).1 w.heap.size (k+j) hw1).trans (HCR.out (k+j) hjl2);have hx:=hl l[k+j] (List.getElem_mem hjl2);by_cases h0:l[k+j]=0
     ·have hr2:Hid (wd (l.drop k)=(j+1)+wd (l.drop (k+(j+1)))):=KZ9 (by rw [hrun.out,sP hjl2 h0];simp only [←Nat.add_assoc];omega);rw [h0] at c0;clear hrun h0 hx;go_wp2
      all_goals try omega
      go_roundw
      case rel=>exact ⟨j+1,by go_num,by omega,hr2,hnq⟩
      case measure=>simp [intOf];omega
     obtain ⟨x,hxx⟩:=KZ6 (l[k+j]);have hfin:Hid (wd (l.drop k)=j):=KZ9 (by rw [hrun.out,rN hjl2 h0,Nat.add_zero]);rw [←hxx] at c0 h0 hx;have g2:((x:Int)==0)=false:=by simp;omega
     clear hrun hxx;by_cases hmj:m<j
     ·have hst3:Hid (xz l 0 (0,0)=xz (l.drop (k+1)) (k+1) (k,j)):=KZ9 (by rw [hst2.out,hfin.out,if_pos hmj]);clear hst2 hfin;have g3:decide ((m:Int)<(j:Int))=true:=KZ7 (by omega);go_wp2
      all_goals try omega
      go_roundw
      case rel=>exact ⟨k+1,k,j,by go_num,by omega,rfl,rfl,by omega,by omega,hst3,hnx.trans (hnq.mono hnx.size)⟩
      case measure=>simp [intOf];omega
     have hst3:Hid (xz l 0 (0,0)=xz (l.drop (k+1)) (k+1) (a,m)):=KZ9 (by rw [hst2.out,hfin.out,if_neg hmj]);clear hst2 hfin;have g3:decide ((m:Int)<(j:Int))=false:=KZ8 (by omega);go_wp2
     all_goals try omega
     go_roundw
     case rel=>exact ⟨k+1,a,m,by go_num,by omega,rfl,rfl,by omega,by omega,hst3,hnx.trans (hnq.mono hnx.size)⟩
     case measure=>simp [intOf];omega
    have hfin:Hid (wd (l.drop k)=j):=KZ9 (by rw [hrun.out,List.drop_of_length_le (by rw [H8.out];omega)];rfl);have g1:decide ((k:Int)+(j:Int)<8)=false:=KZ8 (by omega);clear hrun;by_cases hmj:m<j
    ·have hst3:Hid (xz l 0 (0,0)=xz (l.drop (k+1)) (k+1) (k,j)):=KZ9 (by rw [hst2.out,hfin.out,if_pos hmj]);clear hst2 hfin;have g3:decide ((m:Int)<(j:Int))=true:=KZ7 (by omega);go_wp2
     all_goals try omega
     go_roundw
     case rel=>exact ⟨k+1,k,j,by go_num,by omega,rfl,rfl,by omega,by omega,hst3,hnx.trans (hnq.mono hnx.size)⟩
     case measure=>simp [intOf];omega
    have hst3:Hid (xz l 0 (0,0)=xz (l.drop (k+1)) (k+1) (a,m)):=KZ9 (by rw [hst2.out,hfin.out,if_neg hmj]);clear hst2 hfin;have g3:decide ((m:Int)<(j:Int))=false:=KZ8 (by omega);go_wp2
    all_goals try omega
    go_roundw
    case rel=>exact ⟨k+1,a,m,by go_num,by omega,rfl,rfl,by omega,by omega,hst3,hnx.trans (hnq.mono hnx.size)⟩
    case measure=>simp [intOf];omega
  obtain rfl:k=8:=by omega
  have hend:Hid (xz l 0 (0,0)=(a,m)):=KZ9 (by rw [hst.out,List.drop_of_length_le (by rw [H8.out];omega)];rfl);clear hst;go_wp2;go_ret2;rw [hend.out];exact ⟨rfl,HA.out.1.trans (hnx.mono HA.out.1.size)⟩
theorem vo (c:UInt8):∀ L:List Bs,List.intercalate [c] L=ye c L
 | []=>rfl
 | [p]=>by simp [List.intercalate,ye]
 | p::q::r=>by
  have ih:=vo c (q::r);show List.intercalate [c] (p::q::r)=p++c::ye c (q::r);rw [←ih];simp [List.intercalate,List.intersperse]
theorem V8 (v:Value) (L:List Bs) (w:World) (hst:Strs w v L) (hl:(ye 58 L).length≤1000) (hn:L.length≤1000):Calls Tryz.prog 194 #[v,.string ⟨#[58]⟩] w fun e w'=>e= .returned (.string (mk (ye 58 L)))∧Below w.heap.size w w':=by
 obtain ⟨a,cap,rfl,h1,h2,hc⟩:=hst.open;cases L with
 | nil =>
  refine (Tryz.strings_Join_none a cap ⟨#[58]⟩ w).mono ?_;rintro e w' ⟨rfl,rfl⟩;exact ⟨rfl,Below.refl _ _⟩
 | cons x r =>
  obtain ⟨b,off,rfl,hb,hcell⟩:=hc (by simp);have hx:((x::r).map mk).length=(x::r).length:=by simp
  have hm:(((x::r).map mk).map (·.data.toList))=x::r:=by
   rw [List.map_map]
   conv=>rhs;rw [←List.map_id (x::r)]
   apply List.map_congr_left;intro y _;exact zj y
  have hj:Lib.join (((x::r).map mk).map (·.data.toList)) (⟨#[58]⟩:ByteArray).data.toList=ye 58 (x::r):=by
   rw [hm];exact vo 58 (x::r)
  have:=Tryz.strings_Join b off cap ((x::r).map mk) ⟨#[58]⟩ w (by
   intro j y hy;have hjl:j<(x::r).length:=by have:=(List.getElem?_eq_some_iff.1 hy).1;simpa using this
   rw [List.getElem?_map,List.getElem?_eq_getElem hjl] at hy;have hy:=Option.some.inj hy;rw [←hy];exact hcell j hjl) hb (by rw [hx];omega) (by rw [hx];exact h1) (by rw [hj];omega)
  rw [hj,hx] at this;exact this
theorem Ri {w:World} {v:Value} {n:Nat} {L:List Bs} (h:Row w v 1 n (zy L)) (hl:L.length=n):Strs w v L:=by
 subst hl;exact h
theorem YU (v:Value) (l:List Nat) (w:World) (hB:Base6 w) (hg:Grps w v l) (h8:l.length≤8) (hl:∀ x∈l,x<65536):Calls Tryz.prog 143 #[v] w fun e w'=>e= .returned (.string (mk (yu l)))∧Below w.heap.size w w':=by
 obtain ⟨iS0,iS⟩:=info_parts qY;obtain ⟨a,c,rfl,hn,hm,hc⟩:=hg.open;unfold maxLen at hm;have HC:=KZ9 hc;have HB:=KZ9 hB;have HL:=KZ9 hl;obtain ⟨n,hn0⟩:∃ n,l.length=n:=⟨_,rfl⟩;rw [hn0] at hn h8 ⊢;have HN:=KZ9 hn0;clear hc hg hB hl hn0;go_enter Tryz.func143,Tryz.ntmps143
 go_wp2;go_loopw [3,8] (fun ov iv wr=>∃ (k:Nat),iv= .int .i64 k∧k≤n∧wr.ownsRow w.heap.size 9 1 ov k (zy ((l.take k).map xJ))∧Below w.heap.size w wr) (fun _ iv _=>n - (intOf iv).toNat)
 case atStart=>exact ⟨0,rfl,by omega,World.ownsRow_nil _ _ _ _,Below.refl _ _⟩
 case round =>
  obtain ⟨k,rfl,hk,hown,hnx⟩:=hrel;have hsz:=hnx.size;by_cases hlt:k<n
  ·obtain ⟨b,off,rfl,hb1,hcell⟩:=HC.out (by rw [HN.out];omega);have hkl:k<l.length:=by rw [HN.out];exact hlt
   have c0:=((yA hnx).1 b (off+k) hb1).trans (hcell k hkl);have hx:=HL.out l[k] (List.getElem_mem hkl);have hst:Hid ((l.take (k+1)).map xJ=(l.take k).map xJ++[xJ l[k]]):=KZ9 (by rw [List.take_succ_eq_append_getElem hkl,List.map_append];rfl);obtain ⟨x,hxx⟩:=KZ6 (l[k]);rw [←hxx] at c0 hx hst;have HF:=KZ9 (Pz x wr (HB.out.below hnx) hx);clear hxx hcell hkl;go_wp2_with fail
   refine HF.out.mono ?_;rintro e w2 ⟨rfl,hb2⟩;have hown2:=uw hown hb2;have hs2:=hb2.size;go_wp2_with (first | (at_builtin;refine wpList_append_own _ rfl (.tmp 12) (.tmp 16) 39 rfl (w.heap.size) 9 iS0 (.string ByteArray.empty) 1 16 Tryz.underlying39 iS.1 iS.2.1 iS.2.2.1 iS.2.2.2 rfl (by decide) _ _ _ rfl (hown2.alloc _) ⟨w2.heap.size,0,none⟩ 1 1 [_] rfl rfl (cell_one_new _ _ _) (by intro u hu;simp at hu;subst hu;rfl) (by unfold maxLen;omega) (by omega) (by simp;omega) ?_;intro v1 w3 hown1 hgrow1 hnil1))
   go_roundw
   case rel =>
    refine ⟨k+1,by go_num,by omega,?_,(hnx.trans (hb2.mono hnx.size)).alloc (by omega) _ |>.grown hgrow1 (by simp;omega) (fun j hj=>(hown2.lt j hj).1)⟩;rw [hst.out,xF];exact hown1
   case measure=>simp [intOf];omega
  obtain rfl:k=n:=by omega
  have e:=Row.owned hown;rw [List.take_of_length_le (by rw [HN.out];exact Nat.le_refl _)] at e;have hst:=Ri e (by rw [List.length_map,HN.out]);clear e;have hjl:=wb l HL.out;have HJ:=KZ9 (V8 _ (l.map xJ) wr hst (by show (yu l).length≤_;rw [HN.out] at hjl;omega) (by rw [List.length_map,HN.out];omega));clear hst hown hjl;go_wp2_with fail
  refine HJ.out.mono ?_;rintro e w2 ⟨rfl,hb2⟩;go_wp2;go_ret;exact ⟨rfl,hnx.trans (hb2.mono hnx.size)⟩
theorem Vv (b m:Nat) (h:m≤8) (W:World):(Instr.sliceAt 58 (.pointer (some ⟨b,0,none⟩)) none (some (.int .i64 (m:Int))) none).run Tryz.prog W= .ok (.slice (some ⟨b,0,none⟩) m 8) W:=by
 have hal:Tryz.prog.arrayLen 58=8:=by kernel_rfl
 have hel:Tryz.prog.elem 58=57:=by kernel_rfl
 have hs:∀ W,(sizeOf 57).run Tryz.prog W= .ok 1 W:=by
  intro W;obtain ⟨i,hi,hsz⟩:=Option.map_eq_some_iff.1 tI;simp [sizeOf,typeInfo,hi,hsz]
 rw [run_sliceAt_array_h W _ _ (by rw [hal,hel];exact Tryz.underlying58) .i64 _ (by omega) (by rw [hal];omega),hel,hs];simp [Result.andThen,slicedAt,hal,Addr.add]
theorem Vw (b e:Nat) (h:e≤8):∃ sa:Addr,Hid (e<8→sa=⟨b,e,none⟩)∧∀ W:World,(Instr.sliceAt 58 (.pointer (some ⟨b,0,none⟩)) (some (.int .i64 (e:Int))) none none).run Tryz.prog W= .ok (.slice (some sa) (8 - e) (8 - e)) W:=by
 obtain ⟨sa,h1,h2⟩:=j8 b (8 - e) (by omega);have e1:8 - ((8 - e:Nat):Int)=(e:Int):=by omega
 have e2:8 - (8 - e)=e:=by omega
 rw [e1] at h2;rw [e2] at h1;exact ⟨sa,KZ9 (fun h=>h1.out (by omega)),h2⟩
theorem pS {w:World} {g:Nat} {T:TypeId} {l:List Nat} (h:BlkN w g T (zg l).toArray) (a:Option Addr) (o n c:Nat) (ha:0<n→a=some ⟨g,o,none⟩) (hon:o+n≤l.length) (hc:n≤c) (hm:c≤maxLen):Grps w (.slice a n c) ((l.drop o).take n):=by
 have hl:((l.drop o).take n).length=n:=by rw [List.length_take,List.length_drop];omega
 refine ⟨by rw [yc,hl,Nat.mul_one],a,c,by rw [hl],by omega,hm,?_⟩;rcases Nat.eq_zero_or_pos n with h0 | h0
 ·exact .inl (by rw [hl];exact h0)
 refine .inr ⟨g,o,ha h0,h.lt,fun j u hj=> ?_⟩;rw [cell_of_row w g (o+j) _ _ _ h];have hjn:j<n:=by have:=(List.getElem?_eq_some_iff.1 hj).1;rw [yc,hl] at this;exact this
 unfold zg at hj ⊢;rw [List.getElem?_map,List.getElem?_take_of_lt hjn,List.getElem?_drop] at hj;rw [List.getElem?_toArray,List.getElem?_map];exact hj
theorem qm (s:ByteArray) (w:World) (hB:Base w) (hs:s.size≤100000000):Calls Tryz.prog 80 #[.string s] w fun e w'=>e= .returned (.bool (yq (un s)))∧Below w.heap.size w w':=by
 have HS:=KZ9 (Wo s w hB hs);have hlen:=wU (un s);have hpos:=uF (un s);have hpv:Hid (yq (un s)=let p:=((zH (un s)).getLast?).getD [];if vq p then (zr p).2 else (yz 10 p).2&& !p.isEmpty):=KZ9 rfl;obtain ⟨R,hR⟩:=KZ6 (yq (un s));rw [←hR] at hpv ⊢;clear hR;obtain ⟨L,hL⟩:=KZ6 (zH (un s));rw [←hL] at hpv HS hlen hpos;clear hL;rw [zb] at hlen;obtain ⟨n,hn0⟩:∃ n,L.length=n+1:=⟨L.length - 1,by omega⟩;have hxl:=hlen (L[n]'(by omega)) (List.getElem_mem _);have hlast:Hid (L.getLast? =some (L[n]'(by omega))):=KZ9 (by rw [List.getLast?_eq_getElem?];simp only [hn0,Nat.add_sub_cancel];exact List.getElem?_eq_getElem _);have HN:=KZ9 hn0;clear hlen hpos;go_enter Tryz.func80,Tryz.ntmps80
 go_wp2_with fail
 refine HS.out.mono ?_;rintro e w1 ⟨v,rfl,hst,hb⟩;clear HS;obtain ⟨a,c,rfl,hn,hm,hc⟩:=hst.open;unfold maxLen at hm;obtain ⟨b,off,rfl,hb1,hcell⟩:=hc (by rw [HN.out];omega);have c0:=hcell n (by rw [HN.out];omega);rw [HN.out] at hn ⊢;obtain ⟨x,hx⟩:∃ x,x=L[n]'(by rw [HN.out];omega):=⟨_,rfl⟩;rw [←hx] at c0 hxl hlast;rw [hlast.out] at hpv;simp only [Option.getD_some] at hpv;clear hcell hc hst hx hn0 hlast HN;have ch:=fun W=>R3 (mk x) W (by rw [zh];omega);have cn:=fun W=>tL (mk x) W (by rw [zh];omega);have cd:=fun W=>sZ (mk x) W (by rw [zh];omega);simp only [zj] at ch cn cd;cases hh:vq x
 ·rw [hh] at ch hpv;have CH:=KZ9 ch;have CD:=KZ9 cd;obtain ⟨m,hm2⟩:=KZ6 (yz 10 x);rw [←hm2] at CD hpv;obtain ⟨y,ok⟩:=m;simp only at CD;cases ok
  ·have hend:Hid (R=false):=KZ9 (by rw [hpv.out];rfl);clear ch cn cd hpv hm2 hh;go_wp2_with fail
   refine (CH.out _).mono ?_;rintro e w2 ⟨rfl,rfl⟩;go_wp2_with fail
   refine (CD.out _).mono ?_;rintro e w2 ⟨rfl,rfl⟩;go_wp2_with fail
   go_ret;rw [hend.out];exact ⟨rfl,hb⟩
  cases hx0:x.isEmpty
  ·have hend:Hid (R=true):=KZ9 (by rw [hpv.out,hx0];rfl);have e1:(mk x).toList.isEmpty=false:=by rw [zl,zj];exact hx0
   clear ch cn cd hpv hm2 hh hx0;go_wp2_with fail
   refine (CH.out _).mono ?_;rintro e w2 ⟨rfl,rfl⟩;go_wp2_with fail
   refine (CD.out _).mono ?_;rintro e w2 ⟨rfl,rfl⟩;go_wp2_with fail
   go_ret;rw [hend.out];exact ⟨rfl,hb⟩
  have hend:Hid (R=false):=KZ9 (by rw [hpv.out,hx0];rfl);have e1:(mk x).toList.isEmpty=true:=by rw [zl,zj];exact hx0
  clear ch cn cd hpv hm2 hh hx0;go_wp2_with fail
  refine (CH.out _).mono ?_;rintro e w2 ⟨rfl,rfl⟩;go_wp2_with fail
  refine (CD.out _).mono ?_;rintro e w2 ⟨rfl,rfl⟩;go_wp2_with fail
  go_ret;rw [hend.out];exact ⟨rfl,hb⟩
 rw [hh] at ch hpv;have CH:=KZ9 ch;have CN:=KZ9 cn;have hend:Hid (R=(zr x).2):=KZ9 (by rw [hpv.out];rfl);clear ch cn cd hpv hh;go_wp2_with fail
 refine (CH.out _).mono ?_;rintro e w2 ⟨rfl,rfl⟩;go_wp2_with fail
 refine (CN.out _).mono ?_;rintro e w2 ⟨rfl,rfl⟩;go_wp2_with fail
 go_ret;rw [hend.out];exact ⟨rfl,hb⟩
end Go.Proofs.YtjbciamhhfcdoaaGreatDoor
