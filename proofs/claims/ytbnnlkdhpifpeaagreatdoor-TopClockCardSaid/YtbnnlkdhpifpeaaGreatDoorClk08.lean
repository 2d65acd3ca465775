/- What the proof of TopClock uses, part Clk08. -/
import Derived.Test.YtbnnlkdhpifpeaaGreatDoorClk07
set_option linter.unusedSimpArgs false
set_option linter.unusedVariables false
namespace Go.Proofs.YtbnnlkdhpifpeaaGreatDoor
open Go.RowKit Hs
theorem ts {P:Program} {fn:Func} {p:Tmp} {ty:TypeId} (h:fn.results=#[.cell p ty]) (tmps:Array Value) (w:World) (g:Nat) (t:TypeId) (cs:Array Value) (d:TypeDesc)
  (hp:tmps.getD p undef= .pointer (some ⟨g,0,none⟩)) (hg:w.heap[g]? =some (.cells cs t (0,0))) (hu:P.underlying ty=some d) (hd:(match d with | .struct _ | .array _ _=>true | _=>false)=true) (hi:(P.info? ty).map (·.size)=some cs.size) :
  (results fn tmps).run P w= .ok (.agg cs) w:=by
 have hp':tmps[p]?.getD undef= .pointer (some ⟨g,0,none⟩):=by simpa using hp
 simp [results,h,hp',asAddr,run_loadVar_row w g t ty cs (0,0) d hg hu hd hi,Result.andThen]
set_option maxRecDepth 20000
set_option maxHeartbeats 2000000
theorem T9 (clk:Int) (T:List PinP) (v:Value) (w:World) (hT:Pins w v T) (hl:T.length≤1000):Calls Tryz.prog 48 #[.agg #[.int .i64 clk,v]] w fun e w'=>∃ a c,e= .returned (.agg #[.int .i64 clk,.slice a T.length c])∧Pins w' (.slice a T.length c) T∧(∀ k,(Value.slice a T.length c).ownBlock=some k→w.heap.size≤k∧k<w'.heap.size)∧Below w.heap.size w w':=by
 obtain ⟨va,vc,rfl,_,_,_⟩:=hT.open;obtain ⟨W0,hW0⟩:∃ W0,(w.alloc (.cells #[.int .i64 clk,.slice va T.length vc] 49)).alloc (.cells #[.int .i64 0,.slice none 0 0] 49)=W0:=⟨_,rfl⟩;have hb0:Below w.heap.size w W0:=by rw [←hW0];exact ((Below.refl _ w).alloc (Nat.le_refl _) _).alloc (by simp) _
 have hx0:BlkL W0 w.heap.size 49 [.int .i64 clk,.slice va T.length vc]:=by rw [←hW0];exact (BlkL.new w _ _).alloc _
 have hy0:BlkL W0 (w.heap.size+1) 49 [.int .i64 0,.slice none 0 0]:=by
  have h8:=BlkL.new (w.alloc (.cells #[.int .i64 clk,.slice va T.length vc] 49)) 49 [.int .i64 0,.slice none 0 0];rw [World.size_alloc] at h8;rw [←hW0];exact h8
 have hs0:W0.heap.size=w.heap.size+2:=by rw [←hW0];simp
 have HCL:=KZ9 (ko _ T W0.drew (hT.below (hb0.drew)) hl);have HX0:=KZ9 hx0;have HY0:=KZ9 hy0;have HS0:=KZ9 hs0;have HB0:=KZ9 hb0;have HW0:=KZ9 hW0;have c0:=hx0.c 0 _ rfl;have c1:=hx0.c 1 _ rfl;clear hT hb0 hx0 hy0 hs0 hW0;go_enter Tryz.func48,Tryz.ntmps48
 go_upto_region 1 with fail
 rw [HW0.out];go_region_held3 (fun W=>W.cell? ⟨w.heap.size,0,none⟩=some (.int .i64 clk)∧W.cell? ⟨w.heap.size,1,none⟩=some (.slice va T.length vc)) (go_keep) (first
  | (go_at_call 25;refine HCL.out.mono ?_;rintro e w1 ⟨a,c,rfl,ho,hb1⟩;have hx1:=HX0.out.drew.below HX0.out.lt hb1;have d0:=hx1.c 0 _ rfl;have d1:=hx1.c 1 _ rfl;have hy1:=HY0.out.drew.below HY0.out.lt hb1;have y0:=hy1.c 0 _ rfl;have y1:=hy1.c 1 _ rfl;have f0:=hy1.f 0;have f1:=hy1.f 1))
 all_goals (
  have HO:=KZ9 ho;have HY1:=KZ9 hy1;have HB1:=KZ9 (HB0.out.drew.trans (hb1.mono HB0.out.size));clear ho hb1 hx1 hy1 d0 d1 y0 y1 f0 f1 c0 c1;go_wp2)
 have hR:=(HY1.out.set 0 (by simp) (.int .i64 clk)).set 1 (by simp) (.slice a T.length c);have hbz:But (fun k=>k=w.heap.size+1) w1 ((w1.setCell ⟨w.heap.size+1,0,none⟩ (.int .i64 clk)).setCell ⟨w.heap.size+1,1,none⟩ (.slice a T.length c)):=((But.refl (fun k=>k=w.heap.size+1) w1).set (.inl rfl) 0 (.int .i64 clk)).set (.inl rfl) 1 (.slice a T.length c);have hge:∀ k,(Value.slice a T.length c).ownBlock=some k→w.heap.size+2≤k:=fun k hk=>by
  have h8:=(HO.out.lt k hk).1;have h9:=HS0.out;change W0.heap.size≤k at h8;omega
 refine bodyPost_ret (ts rfl _ _ (w.heap.size+1) 49 _ _ rfl hR Tryz.underlying49 rfl xW) rfl ?_;refine ⟨a,c,rfl,Row.but (Row.owned HO.out) hbz (fun k hk e=>by have:=hge k hk;omega),fun k hk=>⟨by have:=hge k hk;omega,by have:=(HO.out.lt k hk).2;simpa using this⟩,?_⟩;exact HB1.out.trans (hbz.to_below (fun k hk=>by omega) HB1.out.size)
theorem Q3 (clk now:Int) (T:List PinP) (v:Value) (w:World) (hB:Base w) (hT:Pins w v T) (hok:OkS clk T):Calls Tryz.prog 23 #[.agg #[.int .i64 clk,v],.int .i64 now] w fun e w'=>∃ a c,e= .returned (.agg #[.int .i64 (max clk (min now 1099511627776)),.slice a T.length c])∧Pins w' (.slice a T.length c) T∧(∀ k,(Value.slice a T.length c).ownBlock=some k→w.heap.size≤k∧k<w'.heap.size)∧Below w.heap.size w w':=by
 obtain ⟨va,vc,rfl,_,_,_⟩:=hT.open;obtain ⟨W0,hW0⟩:∃ W0,(w.alloc (.cells #[.int .i64 clk,.slice va T.length vc] 49)).alloc (.cells #[.int .i64 0,.slice none 0 0] 49)=W0:=⟨_,rfl⟩;have hb0:Below w.heap.size w W0:=by rw [←hW0];exact ((Below.refl _ w).alloc (Nat.le_refl _) _).alloc (by simp) _
 have hx0:BlkL W0 w.heap.size 49 [.int .i64 clk,.slice va T.length vc]:=by rw [←hW0];exact (BlkL.new w _ _).alloc _
 have hy0:BlkL W0 (w.heap.size+1) 49 [.int .i64 0,.slice none 0 0]:=by
  have h8:=BlkL.new (w.alloc (.cells #[.int .i64 clk,.slice va T.length vc] 49)) 49 [.int .i64 0,.slice none 0 0];rw [World.size_alloc] at h8;rw [←hW0];exact h8
 have hs0:W0.heap.size=w.heap.size+2:=by rw [←hW0];simp
 have HVS:=KZ9 (xM clk T _ W0 (hB.below hb0) (hT.below hb0) hok);have HCP:=KZ9 (fun W (hW:Below w.heap.size w W)=>T9 clk T _ W (hT.below hW) (by have:=hok.2.2.1;omega));have HX0:=KZ9 hx0;have HY0:=KZ9 hy0;have HS0:=KZ9 hs0;have HB0:=KZ9 hb0;have HW0:=KZ9 hW0;have c0:=hx0.c 0 _ rfl;have c1:=hx0.c 1 _ rfl;clear hT hb0 hx0 hy0 hs0 hW0 hB hok;go_enter Tryz.func23,Tryz.ntmps23
 go_upto_region 1 with fail
 rw [HW0.out];go_wp2_with fail
 refine HVS.out.mono ?_;rintro e w1 ⟨rfl,hb1⟩;have hx1:=HX0.out.below HX0.out.lt hb1;have d0:=hx1.c 0 _ rfl;have d1:=hx1.c 1 _ rfl;have HY1:=KZ9 (HY0.out.below HY0.out.lt hb1);have HB1:=KZ9 (HB0.out.trans (hb1.mono HB0.out.size));have HS1:Hid (w.heap.size+2≤w1.heap.size):=KZ9 (by have:=hb1.size;have:=HS0.out;omega);clear hx1 hb1 c0 c1 HVS HX0 HY0 HB0 HS0 HW0;go_wp2_with fail
 refine (HCP.out w1 HB1.out).mono ?_;rintro e w2 ⟨a,c,rfl,hp2,hown,hb2⟩;have hz:=BlkL.new w2 49 [.int .i64 clk,.slice a T.length c];have hy2:=(HY1.out.below HY1.out.lt hb2).alloc (.cells #[.int .i64 clk,.slice a T.length c] 49);have hs2:w.heap.size+2≤w2.heap.size:=Nat.le_trans HS1.out hb2.size;have HP2:=KZ9 (hp2.below ((Below.refl _ w2).alloc (Nat.le_refl _) (.cells #[.int .i64 clk,.slice a T.length c] 49)));have HB2:=KZ9 ((HB1.out.trans (hb2.mono HB1.out.size)).alloc (by omega) (.cells #[.int .i64 clk,.slice a T.length c] 49));have HO2:Hid (∀ k,(Value.slice a T.length c).ownBlock=some k→w.heap.size+2≤k):=KZ9 (fun k hk=>Nat.le_trans HS1.out (hown k hk).1);have HR2:Hid (∀ k,(Value.slice a T.length c).ownBlock=some k→k<w2.heap.size):=KZ9 (fun k hk=>(hown k hk).2);obtain ⟨W3,hW3⟩:∃ W3,w2.alloc (.cells #[.int .i64 clk,.slice a T.length c] 49)=W3:=⟨_,rfl⟩;have HW3:=KZ9 hW3
 have HSZ3:Hid (W3.heap.size=w2.heap.size+1):=KZ9 (by rw [←hW3];simp);rw [hW3] at hz hy2 HP2 HB2;have z0:=hz.c 0 _ rfl;have z1:=hz.c 1 _ rfl;have y0:=hy2.c 0 _ rfl;have y1:=hy2.c 1 _ rfl;have fz0:=hz.f 0;have f0:=hy2.f 0;have f1:=hy2.f 1;have hne:w.heap.size+1≠w2.heap.size:=by omega
 have HZ:=KZ9 hz;have HY2:=KZ9 hy2;clear hz hy2 hp2 hown hb2 hW3 HCP d0 d1;go_upto_region 4 with fail
 rw [HW3.out];go_wp2_with fail
 have hbz:But (fun k=>k=w2.heap.size∨k=w.heap.size+1) W3 (((W3.setCell ⟨w2.heap.size,0,none⟩ (.int .i64 (max clk (min now 1099511627776)))).setCell ⟨w.heap.size+1,0,none⟩ (.int .i64 (max clk (min now 1099511627776)))).setCell ⟨w.heap.size+1,1,none⟩ (.slice a T.length c)):=(((But.refl (fun k=>k=w2.heap.size∨k=w.heap.size+1) W3).set (.inl (.inl rfl)) 0 (.int .i64 (max clk (min now 1099511627776)))).set (.inl (.inr rfl)) 0 (.int .i64 (max clk (min now 1099511627776)))).set (.inl (.inr rfl)) 1 (.slice a T.length c);have hR:=((HY2.out.other hne 0 (.int .i64 (max clk (min now 1099511627776)))).set 0 (by simp) (.int .i64 (max clk (min now 1099511627776)))).set 1 (by simp) (.slice a T.length c);refine bodyPost_ret (ts rfl _ _ (w.heap.size+1) 49 _ _ rfl hR Tryz.underlying49 rfl xW) rfl ?_
 refine ⟨a,c,rfl,Row.but HP2.out hbz (fun k hk e=>by have:=HO2.out k hk;have:=HR2.out k hk;omega),fun k hk=>⟨by have:=HO2.out k hk;omega,?_⟩,?_⟩
 ·have h8:=HR2.out k hk;have h9:=hbz.size;have h7:=HSZ3.out;omega
 exact HB2.out.trans (hbz.to_below (fun k hk=>by omega) HB2.out.size)
end Go.Proofs.YtbnnlkdhpifpeaaGreatDoor
namespace Go.Proofs.YtbnnlkdhpifpeaaGreatDoor
open Go.RowKit Go.Maps Hs
theorem tN:Keyed Tryz.prog 3:=int_keyed Tryz.underlying3
theorem Rb (i:Nat) (hi:i≤1000):keyOf Tryz.prog 3 (.int .i64 (i:Int))=some (KL i):=keyOf_int_mk Tryz.underlying3 (by
 have h1:(IntKind.i64.min:Int)= -9223372036854775808:=by decide
 have h2:(IntKind.i64.max:Int)=9223372036854775807:=by decide
 simp only [Lit.wf,h1,h2,Bool.and_eq_true,decide_eq_true_eq];omega)
theorem X6 {I:DK} {w1 w2:World} {K:Nat→Prop} {n i c:Nat} {S C d:Bs} {a:Option Addr} (h:Disk I w1 K n S C) (hi:i<n) (hd:d.length=64) (hb:Below w1.heap.size w1 w2) (ho:w2.ownsRow w1.heap.size 5 1 (.slice a 64 c) 64 (zc d)) :
  ∃ w3,(Instr.mapUpdate 83 (.map (some I.mb)) (.int .i64 (i:Int)) (.slice a 64 c)).run Tryz.prog w2= .ok () w3∧Disk I w3 (fun k=>K k∨(w1.heap.size≤k∧k<w3.heap.size)) n S (splice C (64*i) d)∧But I.S w1 w3:=by
 have hn2:=h.n2;have h2:=h.below hb;have hne:=h.ne;have hk:=Rb i (by omega);have hnm:n<maxLen:=Nat.lt_of_le_of_lt hn2 (by simp [maxLen]);have hu:=Tryz.underlying83;obtain ⟨hl,⟨e,_⟩ | ⟨g,cap,cur,e,hbg,hg,rest⟩⟩:=ho
 ·cases e
 injection e with e1 _ e2
 subst e1 e2;obtain ⟨⟨cnt,D,e1,e2,e3⟩,e4,e5,e6,e7,e8⟩:=h2;obtain ⟨w3,hrun,hown,hturn⟩:=e2.store tN hu hnm hk (show xk (.slice (some ⟨g,0,none⟩) 64 c)=some (slD g 64 c,[]) from rfl);have hgr:=hturn.grown;have hgS:¬ I.S g:=by
  intro hgs;have:=h.lt g hgs;omega
 have hb3:But (fun k=>k=I.mb) w2 w3:= .of_grown hgr (fun k e=>(Option.some.inj e).symm);have hlt:=(Array.getElem?_eq_some_iff.1 hg).1;have hc:=e3.put (w':=w3) (K':=fun k=>K k∨(w1.heap.size≤k∧k<w3.heap.size)) (e2.tidy tN) hi (b:=g) (c:=c) e6 hd (fun b cur hb hs hc=>hb3.block b (Array.getElem?_eq_some_iff.1 hc).1 (fun e=>hs (.inr (.inr e)))) ⟨by simpa using hl,.inr ⟨g,c,cur,rfl,Nat.zero_le _,(hb3.block g hlt (fun e=>hgS (.inr (.inr e)))).trans hg,rest⟩⟩ (.inr ⟨hbg,by have:=hb3.size;omega⟩) hgS (fun k h=> .inl h);refine ⟨w3,hrun,⟨⟨cnt,_,e1.but hb3 hne.2.1,hc.tight tN hown,hc⟩,e4.but hb3 hne.2.2,e5,?_,e7,e8⟩,?_⟩
 ·rw [length_splice _ _ _ (by omega)];exact e6
 exact (But.of_below I.S hb).trans ((But.refl I.S w2).step hb3 (fun i e=> .inl (.inr (.inr e))))
theorem gO (v:Value) (l:Bs) (w:World) (hv:Byts w v l) (hl:l.length=64):Calls Tryz.prog 136 #[v] w fun e w'=>∃ a c,e= .returned (.slice a 64 c)∧w'.ownsRow w.heap.size 5 1 (.slice a 64 c) 64 (zc l)∧Below w.heap.size w w':=by
 have h:=ci v l w hv (by omega);rw [hl] at h;exact h
set_option maxRecDepth 20000
theorem jU (I:DK) (w:World) (K:Nat→Prop) (n i:Nat) (S C d:Bs) (v:Value) (h:Disk I w K n S C) (hi:i<n) (hv:Byts w v d) (hd:d.length=64) (hf:∀ k,v.ownBlock=some k→¬ I.S k):Calls Tryz.prog 72 #[.pointer (some ⟨I.dd,0,none⟩),.int .i64 (i:Int),v] w fun e w'=>e= .returned (.int .i64 0)∧Disk I w' (fun k=>K k∨(w.heap.size≤k∧k<w'.heap.size)) n S (splice C (64*i) d)∧But I.S w w':=by
 obtain ⟨a,cap,rfl,k1,k2,_⟩:=hv.open;rw [hd] at k1 hf hv ⊢;have HV:=KZ9 hv;have HF:=KZ9 hf;have HSC:=KZ9 (tq I w K n S C h);have HBG:=KZ9 (jV I w K n S C h);have HD:=KZ9 hd;clear hv hf h;go_enter Tryz.func72,Tryz.ntmps72
 go_wp2_with (first | (go_at_call 64;refine HSC.out.mono ?_;rintro e w' ⟨rfl,rfl⟩))
 all_goals try omega
 refine HBG.out.mono ?_;rintro e w1 ⟨rfl,hd1,hb1,hs1⟩;have HS1:=KZ9 hs1;have hv1:Byts w1 (.slice a 64 cap) d:=HV.out.but hb1 HF.out;have HCL:=KZ9 (fun W (hW:Byts W (.slice a 64 cap) d)=>gO (.slice a 64 cap) d W hW HD.out);have HST:=KZ9 (fun w2 (a2:Option Addr) (c:Nat) (hb:Below w1.heap.size w1.drew w2) ho=>X6 (a:=a2) (c:=c) hd1 hi HD.out ((Below.refl _ w1).drew.trans hb) ho);have hm1:∀ W,Below w1.heap.size w1 W→W.cell? ⟨I.dd,1,none⟩=some (.map (some I.mb)):=by
  obtain ⟨⟨cnt,D,e1,e2,e3⟩,_⟩:=hd1;intro W hW;exact (hW.cell (p:=⟨I.dd,1,none⟩) e1.lt).trans (e1.c 1 _ rfl)
 have c1:w1.drew.cell? ⟨I.dd,1,none⟩=some (.map (some I.mb)):=hm1 w1 (Below.refl _ _);have HM:=KZ9 hm1;have hvd:Byts w1.drew (.slice a 64 cap) d:=hv1;have HVD:=KZ9 hvd;have HB1:=KZ9 hb1;clear hv1 hvd hb1 hm1 hd1 HV HF HBG HSC;go_wp2_with fail
 all_goals try omega
 go_region_with (go_at_call 136;refine (HCL.out _ HVD.out).mono ?_;rintro e w2 ⟨a2,c2,rfl,hown,hb2⟩;have k1:=HM.out w2 ((Below.refl _ w1).drew.trans hb2);obtain ⟨w3,hrun,hd3,hb3⟩:=HST.out w2 a2 c2 hb2 hown)
 all_goals (go_wp2;go_ret;exact ⟨rfl,by rw [←HS1.out];exact hd3,HB1.out.trans hb3⟩)
theorem WC (w:World):(zeroValue 34).run Tryz.prog w= .ok (.slice none 0 0) w:=by kernel_rfl
theorem qZ {w:World} {ops:Array Oper} {rest:List Oper} {o:Oper} {a:Act} {Q:Exit→Act→World→Prop} (hg:o.guard=none) (m x:Operand) (hop:o.op=Op.lookup 83 m x true)
  (b n:Nat) (D:DataW Unit) (hm:a.eval m= .map (some b)) (hown:w.ownsMap Tryz.prog 3 xk b n D) (i:Nat) (hi:i≤1000) (hx:a.eval x= .int .i64 (i:Int)) (g c:Nat) (hh:has D (KL i)=true) (hat:∀ zd,D.atKey (KL i) zd=slD g 64 c)
  (hK:wpList Tryz.prog ops Q rest (a.put o.dst (.tuple #[.slice (some ⟨g,0,none⟩) 64 c,.bool true])) w):wpList Tryz.prog ops Q (o::rest) a w :=
 wpList_lookup_own_ok w hg m x _ hop 3 34 tN Tryz.underlying83 xk (WC w) (.agg []) [] rfl b n D hm hown _ (KL i) hx (Rb i hi) (fun v ps hv=>by
  rw [hat] at hv;rw [jT hv,hh];exact hK)
theorem qY {w:World} {ops:Array Oper} {rest:List Oper} {o:Oper} {a:Act} {Q:Exit→Act→World→Prop} (hg:o.guard=none) (m x:Operand) (hop:o.op=Op.lookup 83 m x true)
  (b n:Nat) (D:DataW Unit) (hm:a.eval m= .map (some b)) (hown:w.ownsMap Tryz.prog 3 xk b n D) (i:Nat) (hi:i≤1000) (hx:a.eval x= .int .i64 (i:Int)) (hh:has D (KL i)=false)
  (hK:∀ v,wpList Tryz.prog ops Q rest (a.put o.dst (.tuple #[v,.bool false])) w):wpList Tryz.prog ops Q (o::rest) a w :=
 wpList_lookup_own_ok w hg m x _ hop 3 34 tN Tryz.underlying83 xk (WC w) (.agg []) [] rfl b n D hm hown _ (KL i) hx (Rb i hi) (fun v ps hv=>by
  rw [hh];exact hK v)
theorem UM {I:DK} {w:World} {K:Nat→Prop} {n i:Nat} {S C:Bs} (h:Disk I w K n S C) (hi:i<n) (he:sec S i=sec C i):Byts w (.slice (some ⟨I.sb,64*i,none⟩) 64 (64*n - 64*i)) (sec C i):=by
 have hl:=xE h.lc hi;have hn:=h.n2;refine ⟨by simp,_,_,by rw [hl],by omega,Nat.le_trans (show 64*n - 64*i≤6400 by omega) (by simp [maxLen]),.inr ⟨I.sb,64*i,rfl,h.row.lt,fun j u hj=> ?_⟩⟩;refine h.row.c _ _ ?_;rw [←he] at hj;rw [←hj];unfold zc;rw [List.getElem?_map,List.getElem?_map,getElem?_sec];split
 ·rfl
 have h2:=(List.getElem?_eq_some_iff.1 hj).1;rw [zX,he,hl] at h2;omega
theorem cF (I:DK) (w:World) (K:Nat→Prop) (n i:Nat) (S C:Bs) (h:Disk I w K n S C) (hi:i<n):Calls Tryz.prog 121 #[.pointer (some ⟨I.dd,0,none⟩),.int .i64 (i:Int)] w fun e w'=>∃ g c,e= .returned (.tuple #[.slice (some ⟨g,0,none⟩) 64 c,.int .i64 0])∧w'.ownsRow w.heap.size 5 1 (.slice (some ⟨g,0,none⟩) 64 c) 64 (zc (sec C i))∧Disk I w' K n S C∧But I.S w w':=by
 have HSC:=KZ9 (tq I w K n S C h);have HBG:=KZ9 (jV I w K n S C h);have hn2:=h.n2;have hlen:=xE h.lc hi;have hii:i≤1000:=by omega
 clear h;go_enter Tryz.func121,Tryz.ntmps121
 go_wp2_with (first | (go_at_call 64;refine HSC.out.mono ?_;rintro e w' ⟨rfl,rfl⟩))
 all_goals try omega
 refine HBG.out.mono ?_;rintro e w1 ⟨rfl,hd1,hb1,hs1⟩;have HCL:=KZ9 (fun (v:Value) (hW:Byts w1 v (sec C i))=>gO v (sec C i) w1 hW hlen);have HSL:=KZ9 (Rs I w1 K n i S C hd1 hi);have HSB:=KZ9 (fun he=>UM hd1 hi he);have HD1:=KZ9 hd1;have HB1:=KZ9 hb1;have HEND:Hid (∀ w2 a c,Below w1.heap.size w1 w2→w2.ownsRow w1.heap.size 5 1 (.slice a 64 c) 64 (zc (sec C i))→∃ g,a=some ⟨g,0,none⟩∧w2.ownsRow w.heap.size 5 1 (.slice (some ⟨g,0,none⟩) 64 c) 64 (zc (sec C i))∧Disk I w2 K n S C∧But I.S w w2):=fun w2 a c hb ho=>by
  rw [hs1] at ho;refine (match a,ho with | a,ho=> ?_);have ho':=ho;rcases ho.2 with ⟨e,_⟩ | ⟨g,cap,cur,e,_⟩
  ·cases e
  injection e with e1 _ e2
  subst e1;exact ⟨g,rfl,ho',HD1.out.below hb,HB1.out.below hb⟩
 obtain ⟨⟨cnt,D,e1,e2,e3⟩,e4,e5,e6,e7,e8⟩:=hd1;have c1:=e1.c 1 _ rfl;have HM:=KZ9 e2;cases hh:has D (KL i) with
 | false =>
  have he:=e3.same i hi hh;have HH:=KZ9 hh;have HCL2:=KZ9 (HCL.out _ (HSB.out he));clear e1 e2 e3 e4 e5 e6 hh he hb1 HBG HSC HCL HSB;go_wp2_with (first
   | (at_lookup;refine qY rfl _ _ rfl I.mb n D rfl HM.out i hii rfl HH.out ?_;intro v)
   | (go_at_call 30;refine HSL.out.mono ?_;rintro e w' ⟨rfl,rfl⟩))
  all_goals try omega
  refine HCL2.out.mono ?_;rintro e w2 ⟨a,c,rfl,ho,hb⟩;obtain ⟨g,rfl,r1,r2,r3⟩:=HEND.out w2 a c hb ho;go_wp2;go_ret2;exact ⟨g,c,rfl,r1,r2,r3⟩
 | true =>
  obtain ⟨g0,c0,hat,ho,hg1,hg2⟩:=e3.held i hi hh;have hby:Byts w1 (.slice (some ⟨g0,0,none⟩) 64 c0) (sec C i):=Byts.owned (by rw [hlen];exact ho);have HH:=KZ9 hh;have HAT:=KZ9 hat;have HCL2:=KZ9 (HCL.out _ hby);clear e1 e2 e3 e4 e5 e6 hh hb1 HBG HSC HCL HSB hat ho hg1 hg2 hby HSL;go_wp2_with (first
   | (at_lookup;refine qZ rfl _ _ rfl I.mb n D rfl HM.out i hii rfl g0 c0 HH.out HAT.out ?_))
  all_goals try omega
  refine HCL2.out.mono ?_;rintro e w2 ⟨a,c,rfl,ho,hb⟩;obtain ⟨g,rfl,r1,r2,r3⟩:=HEND.out w2 a c hb ho;go_wp2;go_ret2;exact ⟨g,c,rfl,r1,r2,r3⟩
end Go.Proofs.YtbnnlkdhpifpeaaGreatDoor
namespace Go.Proofs.YtbnnlkdhpifpeaaGreatDoor
open Go.RowKit Go.Maps Hs
open Go.ChangeMaps Go.MapKept Go.WideShapes
theorem bj (n:Nat):(madeCells (Value.int .u8 0).cells (n*1)).toList=zc (zs n):=by
 apply List.ext_getElem?;intro k;by_cases h:k<n<;>simp [madeCells,Value.cells,zc,zs,h,Nat.mod_one]
theorem Qv {w:World} {g:Nat} {T:TypeId} {l:List Value} (h:BlkL w g T l) (cs:List Value):BlkL (w.setRow g cs.toArray) g T cs:=setRow_heap w g _ _ _ _ h
theorem dS {w:World} {b n:Nat} {D:DataW Unit} (hown:w.ownsMap Tryz.prog 3 xk b n D):∃ w3,(Builtin.clear_ #[83] 0 #[.map (some b)]).run Tryz.prog w= .ok (.tuple #[]) w3∧w3.ownsMap Tryz.prog 3 xk b 0 (.map [])∧w.grownBy w3 (some b)∧w3.heap.size=w.heap.size:=by
 obtain ⟨es,clock,hb,F,hs,hD⟩:=hown;refine ⟨setBlock w b (.map #[] clock),?_,⟨#[],clock,heap_setBlock_same hb _,⟨by simp,stamped_empty clock,by simp⟩,Nat.le_refl _,rfl⟩,⟨rfl,rfl,rfl,by simp [setBlock],fun i _ hi=>heap_setBlock_other hb _ (fun e=>hi (by rw [e]))⟩,by simp [setBlock]⟩;simp [Builtin.clear_,run_underlying Tryz.underlying83,MapKept.run_getObj_map hb,MapKept.run_setObj_map _ hb,Result.andThen,setBlock]
theorem jD {w:World} {ops:Array Oper} {rest:List Oper} {o:Oper} {a:Act} {Q:Exit→Act→World→Prop} (hg:o.guard=none) (it:Operand) (hop:o.op=Op.next it false) {I:DK} {W0:World} {K:Nat→Prop} {n:Nat} {S C:Bs} {D:DataW Unit} (hc:Cach I W0 K n S C D) (b r m:Nat) (left:Lit→Bool) (cnt:Nat)
  (hit:a.eval it= .pointer (some ⟨r,0,none⟩)) (h:w.ranges Tryz.prog 3 xk b r m D left cnt) (hl:∀ kl,left kl=true→has D kl=true)
  (hDone:(∀ kl,left kl=false)→wpList Tryz.prog ops Q rest (a.put o.dst (.tuple #[.bool false])) w)
  (hMore:∀ (i g c:Nat) (w':World) (cnt':Nat),i<n→W0.ownsRow 0 5 1 (.slice (some ⟨g,0,none⟩) 64 c) 64 (zc (sec C i))→K g→¬ I.S g→w'.ranges Tryz.prog 3 xk b r m D (fun z=>left z&& !z.sameKey (KL i)) cnt'→cnt'<cnt →
   w.grownBy w' (some r)→w'.heap.size=w.heap.size→(Instr.entry (.pointer (some ⟨r,0,none⟩))).run Tryz.prog w'= .ok (.tuple #[.int .i64 (i:Int),.slice (some ⟨g,0,none⟩) 64 c]) w'→wpList Tryz.prog ops Q rest (a.put o.dst (.tuple #[.bool true,.int .i64 (i:Int),.slice (some ⟨g,0,none⟩) 64 c])) w') :
  wpList Tryz.prog ops Q (o::rest) a w :=
 wpList_next_ranges w hg it hop 3 tN xk (fun x:Int=>Value.int .i64 x) (fun x:Option Addr × Nat × Nat=>Value.slice x.1 x.2.1 x.2.2) (fun key kl hk=>by obtain ⟨x,rfl,_⟩:=Maps.keyOf_int_inv Tryz.underlying3 hk;exact ⟨x,rfl⟩)
  (fun v y hv=>by obtain ⟨a,n,c,rfl⟩:=Zm hv;exact ⟨(a,n,c),rfl⟩) b r m D left cnt hit h (fun _ h=>hDone h) (fun x c kl y w' cnt' hkey hlk hv hat hrg hlt hgr hsz hen=>by
   obtain ⟨x',ex,rfl,_⟩:=Maps.keyOf_int_inv Tryz.underlying3 hkey;cases ex;obtain ⟨i,hi,ei⟩:=hc.keys _ (hl _ hlk);have ex:x=(i:Int):=by unfold KL at ei;injection ei
   subst ex;obtain ⟨g,c0,h1,h2,h3,h4⟩:=hc.held i hi (hl _ hlk);have hy:y.1=slD g 64 c0:=(hat (.agg [])).symm.trans (h1 (.agg []));have hv2:=jT (show xk (Value.slice c.1 c.2.1 c.2.2)=some (slD g 64 c0,y.2) by rw [←hy];exact hv);rw [hv2] at hen ⊢;exact hMore i g c0 w' cnt' hi h2 h3 h4 hrg hlt hgr hsz hen)
theorem QS (n:Nat) (w:World) (h1:1≤n) (h2:n≤100):Calls Tryz.prog 18 #[.int .i64 (n:Int)] w fun e w'=>∃ I:DK,e= .returned (.tuple #[.pointer (some ⟨I.dd,0,none⟩),.int .i64 0])∧Disk I w' (fun _=>False) n (zs (64*n)) (zs (64*n))∧(∀ k,I.S k→w.heap.size≤k)∧Below w.heap.size w w':=by
 obtain ⟨iB0,iB⟩:=info_parts yD;have hmm:=@run_makeMap Tryz.prog;go_enter Tryz.func18,Tryz.ntmps18
 go_wp2_with (at_make;refine wpList_make_full _ rfl _ _ 34 rfl w.heap.size 5 iB0 (.int .u8 0) 1 Tryz.underlying34 iB.1 iB.2.1 iB.2.2.1 .i64 .i64 _ _ (64*n) rfl rfl (by omega) (by omega) (by rw [iB.2.2.2];omega) (by unfold maxLen;omega) (Nat.le_refl _) ?_;intro w1 hown1 hgrow1)
 all_goals try omega
 go_ret2;have hb1:Below w.heap.size w w1:=(Below.refl _ w).grown hgrow1 (Nat.le_refl _) (by simp);have hb:Below w.heap.size w ((w1.alloc (.map #[] 0)).alloc (.cells (wk ⟨w1.heap.size+1,w.heap.size,w1.heap.size⟩ n 0).toArray 86)):=(hb1.alloc hb1.size _).alloc (by simp;have:=hb1.size;omega) _;have hs1:w.heap.size<w1.heap.size:=by
  rcases hown1.2 with ⟨e,_⟩ | ⟨g,cap,cur,e,_,hg,_⟩
  ·cases e
  injection e with e1 _ _
  injection e1 with e1
  injection e1 with e1
  subst e1;exact (Array.getElem?_eq_some_iff.1 hg).1
 have hrow:BlkL w1 w.heap.size 5 (zc (zs (64*n))):=by
  rw [bj] at hown1;rcases hown1.2 with ⟨e,_⟩ | ⟨g,cap,cur,e,_,hg,_,_,hc,ht⟩
  ·cases e
  injection e with e1 _ e2
  injection e1 with e1
  injection e1 with e1
  subst e1 e2;rw [List.take_of_length_le (by simp [hc])] at ht;unfold BlkL;rw [hg,←ht]
 refine ⟨⟨w1.heap.size+1,w.heap.size,w1.heap.size⟩,by simp,?_,?_,hb⟩
 ·have hdd:=BlkL.new (w1.alloc (.map #[] 0)) 86 (wk ⟨w1.heap.size+1,w.heap.size,w1.heap.size⟩ n 0);have hmp:=(World.ownsMap_made w1 Tryz.prog 3 xk).alloc (.cells (wk ⟨w1.heap.size+1,w.heap.size,w1.heap.size⟩ n 0).toArray 86);rw [World.size_alloc] at hdd;refine ⟨⟨0,.map [],hdd,hmp.mono (Nat.zero_le _),Cach.empty _ _ _ _ _⟩,(hrow.alloc _).alloc _,yV _,yV _,h1,h2⟩
 rintro k (rfl | rfl | rfl)<;>simp<;>omega
theorem Tw (I:DK) (w:World) (n i:Nat) (cnt:Int) (h:BlkL w I.dd 86 (wk I n cnt)) (hi:i<n) (hn:n≤100):Calls Tryz.prog 30 #[.pointer (some ⟨I.dd,0,none⟩),.int .i64 (i:Int)] w fun e w'=>e= .returned (.slice (some ⟨I.sb,64*i,none⟩) 64 (64*n - 64*i))∧w=w':=by
 have c0:=h.c 0 _ rfl;clear h;go_enter Tryz.func30,Tryz.ntmps30
 go_wp2
 all_goals try omega
 go_ret;refine ⟨?_,rfl⟩;have e1:(i+1)*64 - i*64=64:=by omega
 show Ending.returned (.slice (some ⟨I.sb,i*64,none⟩) ((i+1)*64 - i*64) (64*n - i*64))=_;rw [e1,Nat.mul_comm i 64]
theorem rB (L d:Bs) (o:Nat):splice (zc L) o (zc d)=zc (splice L o d):=by
 unfold splice;simp [zz,zc,List.map_take,List.map_drop]
theorem qc:(Tryz.prog.info? 5).map (·.size)=some 1:=by kernel_rfl
structure SyncI (I:DK) (W1 wr:World) (K:Nat→Prop) (n r:Nat) (S C:Bs) (D:DataW Unit) (cnt:Int) (left:Lit→Bool) (S':Bs):Prop where
 blk:BlkL wr I.dd 86 (wk I n cnt)
 row:BlkL wr I.sb 5 (zc S')
 len:S'.length=64*n
 lt:∀ kl,left kl=true→has D kl=true
 old:∀ i,i<n→left (KL i)=true→sec S' i=sec S i
 new:∀ i,i<n→left (KL i)=false→sec S' i=sec C i
 but:But (fun k=>k=I.sb) W1 wr
theorem SyncI.step {I:DK} {W1 wr w2:World} {K:Nat→Prop} {n r i:Nat} {S C S':Bs} {D:DataW Unit} {cnt:Int} {left:Lit→Bool} (h:SyncI I W1 wr K n r S C D cnt left S') (hi:i<n) (hC:C.length=64*n) (hg:wr.grownBy w2 (some r)) (hr:W1.heap.size≤r) (hd:I.dd<W1.heap.size) (hs:I.sb<W1.heap.size) (hne:I.dd≠I.sb) :
  SyncI I W1 (w2.setRow I.sb (splice (zc S') (64*i) (zc (sec C i))).toArray) K n r S C D cnt (fun z=>left z&& !z.sameKey (KL i)) (splice S' (64*i) (sec C i)):=by
 have hl:=xE hC hi;have hln:=h.len;have hb2:But (fun k=>k=r) wr w2:= .of_grown hg (fun k e=>(Option.some.inj e).symm);have e1:=h.blk.but hb2 (by omega);have e2:=h.row.but hb2 (by omega);refine ⟨?_,?_,by rw [length_splice _ _ _ (by omega)];exact hln,fun kl hk=>h.lt kl (by simp at hk;exact hk.1),fun j hj hh=> ?_,fun j hj hh=> ?_,?_⟩
 ·exact e1.but (S:=fun k=>k=I.sb) (But.setRow (S:=fun k=>k=I.sb) (But.refl _ w2) (.inl rfl) _) hne
 ·rw [←rB];exact Qv e2 _
 ·rw [Vy] at hh;simp at hh;rw [sX hln hi hl (by omega)];exact h.old j hj hh.1
 ·rw [Vy] at hh;by_cases e:j=i
  ·subst e;rw [Zp hln hi hl]
  rw [sX hln hi hl e];refine h.new j hj ?_
  simpa [e] using hh
 have:But (fun k=>k=I.sb) W1 w2:=h.but.step hb2 (fun i e=> .inr (by omega));exact this.setRow (.inl rfl) _
theorem SyncI.start {I:DK} {W1 w0:World} {K:Nat→Prop} {n r:Nat} {S C:Bs} {D:DataW Unit} {cnt:Int} (h1:BlkL W1 I.dd 86 (wk I n cnt)) (h2:BlkL W1 I.sb 5 (zc S)) (h3:S.length=64*n) (h4:Cach I W1 K n S C D) (hg:W1.grownBy w0 none):SyncI I W1 w0 K n r S C D cnt (has D) S :=
 ⟨h1.grown hg (by simp),h2.grown hg (by simp),h3,fun _ h=>h,fun _ _ _=>rfl,fun i hi h=>h4.same i hi h,.of_grown hg (by simp)⟩
theorem SyncI.done {I:DK} {W1 wr:World} {K:Nat→Prop} {n r:Nat} {S C S':Bs} {D:DataW Unit} {cnt:Int} {left:Lit→Bool} (h:SyncI I W1 wr K n r S C D cnt left S') (hC:C.length=64*n) (hl:∀ kl,left kl=false):BlkL wr I.sb 5 (zc C):=by
 have:S'=C:=Ru h.len hC (fun i hi=>h.new i hi (hl _));rw [←this];exact h.row
set_option maxRecDepth 20000
set_option maxHeartbeats 4000000
theorem cE (I:DK) (w:World) (K:Nat→Prop) (n:Nat) (S C:Bs) (h:Disk I w K n S C):Calls Tryz.prog 70 #[.pointer (some ⟨I.dd,0,none⟩)] w fun e w'=>e= .returned (.int .i64 0)∧Disk I w' K n C C∧But I.S w w':=by
 have HBG:=KZ9 (jV I w K n S C h);have hn2:=h.n2;clear h;go_enter Tryz.func70,Tryz.ntmps70
 go_wp2_with fail
 all_goals try omega
 refine HBG.out.mono ?_;rintro e w1 ⟨rfl,hd1,hb1,hs1⟩;have hne:=hd1.ne;obtain ⟨⟨cnt,D,e1,e2,e3⟩,e4,e5,e6,e7,e8⟩:=hd1;have hdd:=e1.lt;have hsb:=e4.lt;have hmb:=e2.lt;have c1:=e1.c 1 _ rfl;have HM:=KZ9 e2;have HB1:=KZ9 hb1;have HC:=KZ9 e3;have HST:=KZ9 (fun w0 (hg:w1.grownBy w0 none)=>SyncI.start (K:=K) (r:=w1.heap.size) e1 e4 e5 e3 hg);have HLC:=KZ9 e6;clear e1 e2 e3 e4 e5 e6 hb1 HBG;go_wp2_with (first | (at_range;refine wpList_range_own _ rfl _ _ rfl 3 34 tN Tryz.underlying83 xk I.mb n D rfl HM.out ?_;intro w0 hrg0 hg0 hs0))
 all_goals try omega
 go_frame
 obtain ⟨r,hr⟩:=KZ6 w1.heap.size;rw [←hr] at hrg0 hdd hsb hmb;have hI0:=HST.out w0 hg0;rw [←hr] at hI0;have HR:=KZ9 hr;rw [←hr];have HRG:=KZ9 hrg0;have HI0:=KZ9 hI0;clear hrg0 hg0 hI0 HST hr c1;go_loopw [] (fun wr=>∃ left cn S',Hid (wr.ranges Tryz.prog 3 xk I.mb r n D left cn)∧Hid (SyncI I w1 wr K n r S C D cnt left S')) (fun wr=>wr.rangeLeft I.mb r)
 case atStart=>exact ⟨_,_,_,HRG,HI0⟩
 case round =>
  obtain ⟨left,cn,S',hrg,hI⟩:=hrel;have hcn:=hrg.out.left_eq;have HCN:=KZ9 hcn;clear hcn HRG HI0;go_wp2_with (first | (at_next;refine jD rfl _ rfl HC.out I.mb r n left cn rfl hrg.out hI.out.lt ?_ ?_))
  all_goals try omega
  ·intro hl0;have hbl:=hI.out.blk;have c1:=hbl.c 1 _ rfl;have HDN:=KZ9 (hI.out.done HLC.out hl0);have HOW:=KZ9 hrg.out.owns;have HBL:=KZ9 hbl;have HBU:=KZ9 hI.out.but;clear hl0 hbl hrg hI;obtain ⟨w3,hcl,hm3,hg3,hs3⟩:=dS HOW.out;go_wp2
   all_goals try omega
   go_ret;have hb3:But (fun k=>k=I.mb) wr w3:= .of_grown hg3 (fun k e=>(Option.some.inj e).symm);have hsw:=HBU.out.size;have hrr:=HR.out;refine ⟨rfl,⟨⟨cnt,.map [],HBL.out.but hb3 hne.2.1,hm3.mono (Nat.zero_le _),Cach.empty _ _ _ _ _⟩,HDN.out.but hb3 hne.2.2,HLC.out,HLC.out,e7,hn2⟩,?_⟩;exact (HB1.out.step HBU.out (fun i e=> .inl (.inr (.inl e)))).step hb3 (fun i e=> .inl (.inr (.inr e)))
  intro i g c w2 cn2 hi hrow hgB hgS hrg2 hlt hgr hsz hen;have hb2:But (fun k=>k=r) wr w2:= .of_grown hgr (fun k e=>(Option.some.inj e).symm);have hrr:=Nat.le_of_eq HR.out;have hrr2:=Nat.le_of_eq HR.out.symm;have hNX:=hI.out.step hi HLC.out hgr (by omega) (by omega) (by omega) hne.1;have hbl2:=hI.out.blk.but hb2 (by omega);have hrow2:=hI.out.row.but hb2 (by omega);have hlS:=hI.out.len;have hlc:=xE HLC.out hi;have HSL:=KZ9 (Tw I w2 n i cnt hbl2 hi hn2);have hcs:∀ j u,(zc (sec C i))[j]? =some u→w2.cell? ((⟨g,0,none⟩:Addr).add j)=some u:=by
   have hg1:g<w1.heap.size:=(hrow.lt g rfl).2;have h1:=qC (S:=fun k=>k=I.sb∨k=r) hrow (w':=w2) ((hI.out.but.step (T:=fun k=>k=r) hb2 (fun i e=> .inr (by omega))).step (T:=fun k=>k=I.sb) (But.refl _ w2) (fun i e=> .inl e) |>.step (T:=fun k=>k=I.sb) (But.refl _ _) (fun i e=> .inl e) |> fun h=>(But.refl _ w1).step h (fun i e=> .inl (.inl e))) (fun k e=>by
    have e2:g=k:=by simpa [Value.ownBlock] using e
    subst e2;rintro (e3 | e3)
    ·exact hgS (.inr (.inl e3))
    omega)
   intro j u hj;have:=h1.cells (g:=g) rfl j u (by simpa using hj)
   simpa using this
  have HCS:=KZ9 hcs;have HNX:=KZ9 hNX;have HRW:=KZ9 hrow2;have HRG2:=KZ9 hrg2;clear hNX hbl2 hrow2 hcs hrg2 hrow hgr hrg hI hb2;have hcl:(zc S').length=64*n:=by rw [zX,hlS]
  have hcd:(zc (sec C i)).length=64:=by rw [zX,hlc]
  have hcp:∃ w3,(Builtin.copy_ #[34,34] 3 #[.slice (some ⟨I.sb,64*i,none⟩) 64 (64*n - 64*i),.slice (some ⟨g,0,none⟩) 64 c]).run Tryz.prog w2= .ok (.int .i64 64) w3∧Hid (w3=w2.setRow I.sb (splice (zc S') (64*i) (zc (sec C i))).toArray):=by
   refine ⟨_,run_copy_row (P:=Tryz.prog) w2 34 34 3 5 I.sb (64*i) 64 (64*n - 64*i) ⟨g,0,none⟩ 64 c (zc S').toArray 5 (zc (sec C i)) Tryz.underlying34 qc HRW.out (by rw [hcd];rfl) HCS.out (by rw [hcd,List.size_toArray,hcl];omega) (xe _) |>.trans ?_,rfl⟩;unfold splice;rw [hcd,List.append_assoc];rfl
  obtain ⟨w3,hcp,hw3⟩:=hcp;clear hcl hcd;go_wp2_with (first | (go_at_call 30;refine HSL.out.mono ?_;rintro e w' ⟨rfl,rfl⟩))
  all_goals try omega
  have hg3:w2.grownBy w3 (some I.sb):=by rw [hw3.out];exact ⟨rfl,rfl,rfl,by simp [World.setRow],fun k _ hk=>setRow_other w2 I.sb k _ (fun e=>hk (by rw [e]))⟩
  have hk:=HRG2.out.kept hg3 (fun e=>hne.2.2 (Option.some.inj e).symm) (fun e=>by have:=Option.some.inj e;omega);refine ⟨⟨_,_,_,hk,by rw [hw3.out];exact HNX.out⟩,?_⟩;rw [hk.left_eq,HCN.out];exact hlt
theorem Xd (I:DK) (w:World) (K:Nat→Prop) (n:Nat) (S C:Bs) (h:Disk I w K n S C):Calls Tryz.prog 16 #[.pointer (some ⟨I.dd,0,none⟩),.slice none 0 0] w fun e w'=>e= .returned (.tuple #[])∧Disk I w' K n S S∧But I.S w w':=by
 have hne:=h.ne;obtain ⟨⟨cnt,D,e1,e2,e3⟩,e4,e5,e6,e7,e8⟩:=h;have c1:=e1.c 1 _ rfl;have HBL:=KZ9 e1;obtain ⟨w3,hcl,hm3,hg3,hs3⟩:=dS e2;have hb3:But (fun k=>k=I.mb) w w3:= .of_grown hg3 (fun k e=>(Option.some.inj e).symm);have x1:=e1.but hb3 hne.2.1;have x2:=e4.but hb3 hne.2.2;have f2:=x1.f 2;have d2:=x1.c 2 _ rfl;have x1a:=x1.set 2 (by simp [wk]) (.slice none 0 0);have d3:=x1a.c 3 _ rfl;have f3:=x1a.f 3;have x1b:=x1a.set 3 (by simp [wk]) (.int .i64 0);have d4:=x1b.c 4 _ rfl;have f4:=x1b.f 4;have x1c:=x1b.set 4 (by simp [wk]) (.bool false);have HX:=KZ9 x1c;have HM3:=KZ9 hm3;clear e1 e2 e3 e4 hm3 hg3 x1 x1a x1b x1c HBL;go_enter Tryz.func16,Tryz.ntmps16
 go_wp2;go_loopw [12] (fun iv wr=>iv= .int .i64 0∧wr=w) (fun _ _=>0)
 case atStart=>exact ⟨rfl,rfl⟩
 case round =>
  obtain ⟨rfl,rfl⟩:=hrel;go_wp2
  all_goals try omega
  go_end0
  have hbd:=((But.set (S:=fun k=>k=I.dd) (b:=I.dd) (But.refl _ w3) (.inl rfl) 2 (.slice none 0 0)).set (b:=I.dd) (.inl rfl) 3 (.int .i64 0)).set (b:=I.dd) (.inl rfl) 4 (.bool false);have hm4:=HM3.out;obtain ⟨es,clock,hbk,rest⟩:=hm4;have hlt:=(Array.getElem?_eq_some_iff.1 hbk).1;refine ⟨rfl,⟨⟨0,.map [],HX.out,⟨es,clock,(hbd.block _ hlt (fun e=>hne.2.1 e.symm)).trans hbk,rest.1,Nat.le_trans rest.2.1 (Nat.zero_le _),rest.2.2⟩,Cach.empty _ _ _ _ _⟩,x2.but hbd (fun e=>hne.1 e.symm),e5,e5,e7,e8⟩,?_⟩;exact ((But.refl I.S wr).step hb3 (fun i e=> .inl (.inr (.inr e)))).step hbd (fun i e=> .inl (.inl e))
end Go.Proofs.YtbnnlkdhpifpeaaGreatDoor
namespace Go.Proofs.YtbnnlkdhpifpeaaGreatDoor
open Go.RowKit Hs
def te (F N:Nat):List Value:=[.int .i64 (F:Int),.int .i64 (N:Int)]
theorem qQ (F N:Nat) (w:World) (hN:N≤1000):Calls Tryz.prog 134 #[.agg #[.int .i64 (F:Int),.int .i64 (N:Int)]] w fun e w'=>e= .returned (.int .i64 ((64*N:Nat):Int))∧Below w.heap.size w w':=by
 have hb:=BlkL.new w 143 (te F N);have c1:=hb.c 1 _ rfl;have HB:=KZ9 ((Below.refl _ w).alloc (Nat.le_refl _) (.cells #[.int .i64 (F:Int),.int .i64 (N:Int)] 143));clear hb;go_enter Tryz.func134,Tryz.ntmps134
 go_wp2
 all_goals try omega
 go_ret;exact ⟨xz (by omega),HB.out⟩
theorem SB (I:DK) (K:Nat→Prop) (n F N:Nat) (S C:Bs) (w:World) (h:Disk I w K n S C) (hN:1≤N) (hF:F+N≤n):Calls Tryz.prog 261 #[.pointer (some ⟨I.dd,0,none⟩),.agg #[.int .i64 (F:Int),.int .i64 (N:Int)]] w fun e w'=>e= .returned (.bool true)∧Below w.heap.size w w':=by
 have hn:=h.n2;have hb:=BlkL.new w 143 (te F N);have c0:=hb.c 0 _ rfl;have c1:=hb.c 1 _ rfl;have hbl:=(Below.refl _ w).alloc (Nat.le_refl _) (.cells #[.int .i64 (F:Int),.int .i64 (N:Int)] 143);have HS:=KZ9 (tq I _ K n S C (h.below hbl));have HB:=KZ9 hbl;clear hb hbl h;go_enter Tryz.func261,Tryz.ntmps261
 go_wp2_with (go_at_call 64;refine HS.out.mono ?_;rintro e w' ⟨rfl,rfl⟩)
 all_goals try omega
 go_ret;refine ⟨yH ?_,HB.out⟩;exact KZ7 (by omega)
theorem Yv (I:DK) (K:Nat→Prop) (n F N o m:Nat) (S C:Bs) (w:World) (h:Disk I w K n S C) (hN:1≤N) (hF:F+N≤n) (ho:o+m≤64*N):Calls Tryz.prog 199 #[.pointer (some ⟨I.dd,0,none⟩),.agg #[.int .i64 (F:Int),.int .i64 (N:Int)],.int .i64 (o:Int),.int .i64 (m:Int)] w fun e w'=>e= .returned (.int .i64 0)∧Below w.heap.size w w':=by
 have hn:=h.n2;have hbl:=(Below.refl _ w).alloc (Nat.le_refl _) (.cells #[.int .i64 (F:Int),.int .i64 (N:Int)] 143);have hB0:BlkL (w.alloc (.cells #[.int .i64 (F:Int),.int .i64 (N:Int)] 143)) w.heap.size 143 (te F N):=BlkL.new w 143 (te F N);have HV:=KZ9 (SB I K n F N S C _ (h.below hbl) hN hF);have HSZ:=KZ9 (fun W=>qQ F N W (by omega));have hce:∀ W,Below (w.alloc (.cells #[.int .i64 (F:Int),.int .i64 (N:Int)] 143)).heap.size (w.alloc (.cells #[.int .i64 (F:Int),.int .i64 (N:Int)] 143)) W→BlkL W w.heap.size 143 (te F N):=fun W hW=>hB0.below hB0.lt hW;have HCE:=KZ9 hce;have d0:=hB0.c 0 _ rfl;have d1:=hB0.c 1 _ rfl;have HB:=KZ9 hbl;have HH:=KZ9 hB0;clear hB0 hbl h hce;go_enter Tryz.func199,Tryz.ntmps199
 go_wp2_with (fail)
 all_goals try omega
 refine HV.out.mono ?_;rintro e w1 ⟨rfl,hb1⟩;have hz1:=hb1.size;have e0:=(HCE.out w1 hb1).c 0 _ rfl;have e1:=(HCE.out w1 hb1).c 1 _ rfl;have HB1:=KZ9 hb1;clear d0 d1 hb1 HV;go_wp2_with (fail)
 all_goals try omega
 refine (HSZ.out _).mono ?_;rintro e w2 ⟨rfl,hb2⟩;have hb12:=HB1.out.trans (hb2.mono hz1);have f0:=(HCE.out w2 hb12).c 0 _ rfl;have f1:=(HCE.out w2 hb12).c 1 _ rfl;have HB2:=KZ9 hb12;have hz2:=hb12.size;clear hb2 hb12 e0 e1 HB1;go_wp2_with (fail)
 all_goals try omega
 refine (HSZ.out _).mono ?_;rintro e w3 ⟨rfl,hb3⟩;have HB3:=KZ9 (HB2.out.trans (hb3.mono hz2));clear hb3 f0 f1 HB2;go_wp2
 all_goals try omega
 go_ret;exact ⟨rfl,HB.out.trans (HB3.out.mono HB.out.size)⟩
def xl (F at' e:Nat):List (Nat × Nat × Nat):=if h:at'<e then (F+at' / 64,at' % 64,min 64 (at' % 64+(e - at')))::xl F (at'+(min 64 (at' % 64+(e - at')) - at' % 64)) e else []
termination_by e - at'
decreasing_by omega
def WL (x:Nat × Nat × Nat):Array Value:=#[.agg #[.int .i64 (x.1:Int),.int .i64 (x.2.1:Int),.int .i64 (x.2.2:Int)]]
theorem Yu (F N o m:Nat) (w:World):Calls Tryz.prog 200 #[.agg #[.int .i64 (F:Int),.int .i64 (N:Int)],.int .i64 (o:Int),.int .i64 (m:Int)] w fun e w'=>e= .returned (.func (.func 262) #[] #[.pointer (some ⟨w.heap.size+1,0,none⟩),.pointer (some ⟨w.heap.size+2,0,none⟩),.pointer (some ⟨w.heap.size,0,none⟩)])∧w'=((w.alloc (.cells #[.int .i64 (F:Int),.int .i64 (N:Int)] 143)).alloc (.cells #[.int .i64 (o:Int)] 3)).alloc (.cells #[.int .i64 (m:Int)] 3):=by
 go_enter Tryz.func200,Tryz.ntmps200
 go_wp2;go_ret;exact ⟨rfl,rfl⟩
end Go.Proofs.YtbnnlkdhpifpeaaGreatDoor
namespace Go.Proofs.YtbnnlkdhpifpeaaGreatDoor
open Go.RowKit Go.Shelf Hs
attribute [local go_sem] Oper.semAt_some
theorem ret_int' {a b:Int} (h:a=b):Value.int .i64 a= .int .i64 b:=by rw [h]
theorem vq (F a e:Nat) (h:a<e):xl F a e=(F+a / 64,a % 64,min 64 (a % 64+(e - a)))::xl F (a+(min 64 (a % 64+(e - a)) - a % 64)) e:=by
 conv=>lhs;unfold xl
 rw [dif_pos h]
theorem rO (F a e:Nat) (h:¬ a<e):xl F a e=[]:=by
 unfold xl;rw [dif_neg h]
set_option maxRecDepth 100000
set_option maxHeartbeats 2000000
theorem dp (n ce co cn n₀ F N o m:Nat) (w:World) (hn:1≤n) (be:BlkL w ce 143 (te F N)) (bo:Boxed w co 3 (.int .i64 (o:Int))) (bn:Boxed w cn 3 (.int .i64 (m:Int))) (hF:F≤1000) (ho:o≤100000) (hm:m≤100000) :
  Seq Fence.wide n Tryz.prog 262 #[.pointer (some ⟨co,0,none⟩),.pointer (some ⟨cn,0,none⟩),.pointer (some ⟨ce,0,none⟩)] WL (fun k=>k=ce∨k=co∨k=cn) n₀ (fun xs=>xs=xl F o (o+m)) (fun pre=>pre <+: xl F o (o+m)) w:=fun lb J Jx W hW hJ hJx hY h0=>by
 have Be0:BlkL W ce 143 (te F N):=be.below be.lt hW;have Bo0:Boxed W co 3 (.int .i64 (o:Int)):=(hW.block co bo.lt).trans bo;have Bn0:Boxed W cn 3 (.int .i64 (m:Int)):=(hW.block cn bn.lt).trans bn;have eo0:=Bo0.cell;have HB0:=KZ9 (show BlkL W ce 143 (te F N)∧Boxed W co 3 (.int .i64 (o:Int))∧Boxed W cn 3 (.int .i64 (m:Int)) from ⟨Be0,Bo0,Bn0⟩);clear Be0 Bo0 Bn0 be bo bn;refine callsIn_of_wp Tryz.func262 rfl trivial ?_ rfl;simp only [Tryz.ntmps262,List.size_toArray,List.length_cons,List.length_nil,Nat.reduceAdd,Nat.reduceSub,Array.replicate_succ,Array.replicate_zero,List.push_toArray,List.append_toArray,List.nil_append,List.cons_append]
 gi_wp2
 gi_loopw [5] (fun av wr=>∃ (a:Nat) (pre:List (Nat × Nat × Nat)) (G:Nat→Prop),av= .int .i64 (a:Int)∧o≤a∧a≤o+m∧Hid (pre++xl F a (o+m)=xl F o (o+m))∧Hid (BlkL wr ce 143 (te F N)∧Boxed wr co 3 (.int .i64 (o:Int))∧Boxed wr cn 3 (.int .i64 (m:Int)))∧J pre G wr∧Hid (G ce∧G co∧G cn)) (fun av _=>o+m - (intOf av).toNat)
 case atStart=>exact ⟨o,[],_,rfl,Nat.le_refl _,by omega,KZ9 rfl,HB0,h0,KZ9 ⟨.inl rfl,.inr (.inl rfl),.inr (.inr rfl)⟩⟩
 case round =>
  obtain ⟨a,pre,G,rfl,ha1,ha2,hpre,hbx,hJs,hG⟩:=hrel;have eo:=hbx.out.2.1.cell;have en:=hbx.out.2.2.cell;have e0:=hbx.out.1.c 0 _ rfl;by_cases hlt:a<o+m
  ·have hc:=vq F a (o+m) hlt;obtain ⟨q,hq⟩:=KZ6 (a / 64);obtain ⟨r,hr⟩:=KZ6 (a % 64);have hqr:a=64*q+r:=by omega
   have hr64:r<64:=by omega
   obtain ⟨t,ht⟩:=KZ6 (min 64 (r+(o+m - a)));rw [←hq,←hr,←ht] at hc;have hnext:Hid ((pre++[(F+q,r,t)])++xl F (a+(t - r)) (o+m)=xl F o (o+m)):=KZ9 (by rw [←hpre.out,hc];simp);obtain ⟨fn,tmps,assign,body,hy,hR⟩:=hY pre (F+q,r,t) G wr hJs ⟨_,hnext.out⟩
   dsimp only [WL] at hy
   have m1:(a:Int) % 64=(r:Int):=by omega
   have m2:(a:Int) / 64=(q:Int):=by omega
   have HT:=KZ9 ht;have HQR:=KZ9 hqr;clear hpre hc hq hr ht hqr;rw [Int.natCast_add] at hy;rcases (show t=64∧64≤r+(o+m - a)∨t=r+(o+m - a)∧r+(o+m - a)<64 by have:=HT.out;omega) with ⟨ht,h64⟩ | ⟨ht,h64⟩
   ·rw [show ((t:Nat):Int)=64 by omega] at hy;have m3:min (64:Int) ((r:Int)+(o:Int)+(m:Int) - (a:Int))=64:=by omega
    have HTT:=KZ9 ht;clear ht
    gi_wp2
    all_goals try omega
    refine hR.mono ?_;rintro e W3 (⟨rfl,hJ3,hk3⟩ | ⟨rfl,hJx3,hk3⟩)
    ·have b3:=KZ9 (show BlkL W3 ce 143 (te F N)∧Boxed W3 co 3 (.int .i64 (o:Int))∧Boxed W3 cn 3 (.int .i64 (m:Int)) from ⟨(hk3.block ce hbx.out.1.lt (.inl hG.out.1)).trans hbx.out.1,(hk3.block co hbx.out.2.1.lt (.inl hG.out.2.1)).trans hbx.out.2.1,(hk3.block cn hbx.out.2.2.lt (.inl hG.out.2.2)).trans hbx.out.2.2⟩)
     gi_wp2
     all_goals try omega
     go_roundw
     case rel=>exact ⟨a+(t - r),_,G,ret_int' (by have:=HTT.out;omega),by omega,by have:=HTT.out;omega,hnext,b3,hJ3,hG⟩
     case measure=>have:=HTT.out;have:=HQR.out;simp only [intOf];omega
    gi_wp2
    refine bodyPost_ret (results_none rfl _ _ _) rfl ?_;exact ⟨⟨_,rfl⟩,.inr ⟨_,G,⟨_,hnext.out⟩,hJx3⟩⟩
   rw [show ((t:Nat):Int)=(r:Int)+(o:Int)+(m:Int) - (a:Int) by omega] at hy;have m3:min (64:Int) ((r:Int)+(o:Int)+(m:Int) - (a:Int))=(r:Int)+(o:Int)+(m:Int) - (a:Int):=by omega
   have HTT:=KZ9 ht;clear ht
   gi_wp2
   all_goals try omega
   refine hR.mono ?_;rintro e W3 (⟨rfl,hJ3,hk3⟩ | ⟨rfl,hJx3,hk3⟩)
   ·have b3:=KZ9 (show BlkL W3 ce 143 (te F N)∧Boxed W3 co 3 (.int .i64 (o:Int))∧Boxed W3 cn 3 (.int .i64 (m:Int)) from ⟨(hk3.block ce hbx.out.1.lt (.inl hG.out.1)).trans hbx.out.1,(hk3.block co hbx.out.2.1.lt (.inl hG.out.2.1)).trans hbx.out.2.1,(hk3.block cn hbx.out.2.2.lt (.inl hG.out.2.2)).trans hbx.out.2.2⟩)
    gi_wp2
    all_goals try omega
    go_roundw
    case rel=>exact ⟨a+(t - r),_,G,ret_int' (by have:=HTT.out;omega),by omega,by have:=HTT.out;omega,hnext,b3,hJ3,hG⟩
    case measure=>have:=HTT.out;have:=HQR.out;simp only [intOf];omega
   gi_wp2
   refine bodyPost_ret (results_none rfl _ _ _) rfl ?_;exact ⟨⟨_,rfl⟩,.inr ⟨_,G,⟨_,hnext.out⟩,hJx3⟩⟩
  obtain rfl:a=o+m:=by omega
  have hfin:Hid (pre=xl F o (o+m)):=KZ9 (by rw [←hpre.out,rO _ _ _ hlt,List.append_nil]);clear hpre hlt ha1 ha2
  gi_wp2
  all_goals try omega
  go_end0
  exact ⟨⟨_,rfl⟩,.inl ⟨_,G,hfin.out,hJs⟩⟩
attribute [local go_sem] Oper.semAt_some
structure RdC (I:DK) (K:Nat→Prop) (n F o m:Nat) (S C:Bs) (w:World) (z y:Nat) (v:Value) (a:Nat) (G:Nat→Prop) (W:World):Prop where
 lo:o≤a
 hi:a≤o+m
 dk:Disk I W K n S C
 b0:Boxed W z 25 (.pointer (some ⟨I.dd,0,none⟩))
 b2:Boxed W (z+2) 34 (.slice none 0 0)
 b3:Boxed W (z+3) 30 (.int .i64 0)
 bo:Boxed W (y+1) 34 v
 row:W.ownsRow z 5 1 v (a - o) (zc ((C.drop (64*F+o)).take (a - o)))
 df:W.heap[y+5]? =some (.deferred (some []))
 but:But I.S w W
 own:∀ k,(G k∨k=y+6)→k<W.heap.size∧y+2≤k∧k≠y+5∧v.ownBlock≠some k∧¬ K k
def RdI (I:DK) (K:Nat→Prop) (n F o m:Nat) (S C:Bs) (w:World) (z y:Nat) (pre:List (Nat × Nat × Nat)) (G:Nat→Prop) (W:World):Prop :=
 ∃ v a,pre++xl F a (o+m)=xl F o (o+m)∧RdC I K n F o m S C w z y v a G W
theorem own_ne' {v:Value} {r:Option Nat} (h:∀ k,r=some k→v.ownBlock≠some k):v.ownBlock=none∨v.ownBlock≠r:=by
 cases r with
 | none=>cases hv:v.ownBlock<;>simp
 | some k=>exact .inr (h k rfl)
theorem RdC.turn {I:DK} {K:Nat→Prop} {n F o m z y a:Nat} {S C:Bs} {w A B:World} {v:Value} {G:Nat→Prop} {row:Option Nat} (h:RdC I K n F o m S C w z y v a G A) (hz:z+4≤y) (hw:w.heap.size≤z) (hS:∀ k,I.S k→k<w.heap.size) (hg:A.grownBy B row) (hr:∀ r,row=some r→G r∨r=y+6):RdC I K n F o m S C w z y v a G B:=by
 have hlow:∀ r,row=some r→y+2≤r∧r≠y+5∧v.ownBlock≠some r∧¬ K r:=fun r e=>(h.own r (hr r e)).2;have ne:∀ j,j<y+2→some j≠row:=fun j hj e=>by have:=(hlow j e.symm).1;omega
 exact ⟨h.lo,h.hi,h.dk.grown hg (fun r e=>⟨fun hs=>by have h1:=(hlow r e).1;have h2:=hS r hs;omega,(hlow r e).2.2.2⟩),h.b0.kept hg (ne _ (by omega)),h.b2.kept hg (ne _ (by omega)),h.b3.kept hg (ne _ (by omega)),h.bo.kept hg (ne _ (by omega)),h.row.kept hg (own_ne' fun k e=>(hlow k e).2.2.1),
  (hg.block _ (Array.getElem?_eq_some_iff.1 h.df).1 (fun e=>(hlow _ e.symm).2.1 rfl)).trans h.df,h.but.grown hg (fun k e=> .inr (by have:=(hlow k e).1;omega)),fun k hk=>⟨Nat.lt_of_lt_of_le (h.own k hk).1 hg.size,(h.own k hk).2⟩⟩
theorem RdC.lay {I:DK} {K:Nat→Prop} {n F o m z y a:Nat} {S C:Bs} {w A B:World} {v:Value} {G:Nat→Prop} (h:RdC I K n F o m S C w z y v a G A) (hz:z+4≤y) (hw:w.heap.size≤z) (hS:∀ k,I.S k→k<w.heap.size) (hK:∀ k,K k→k<w.heap.size) (hg:A.grownBy B none):RdC I K n F o m S C w z y v a (fun k=>G k∨(A.heap.size≤k∧k<B.heap.size)) B:=by
 have hlt:=(Array.getElem?_eq_some_iff.1 h.df).1;have h':=h.turn hz hw hS hg (fun r e=>by cases e);refine ⟨h'.lo,h'.hi,h'.dk,h'.b0,h'.b2,h'.b3,h'.bo,h'.row,h'.df,h'.but,fun k hk=> ?_⟩;rcases hk with (hk | ⟨h3,h4⟩) | hk
 ·exact h'.own k (.inl hk)
 ·refine ⟨h4,by omega,by omega,fun e=> ?_,fun e=> ?_⟩
  ·have:=(h.row.lt k e).2;omega
  have:=hK k e;have:=h.but.size;omega
 exact h'.own k (.inr hk)
theorem RdC.disk {I:DK} {K:Nat→Prop} {n F o m z y a:Nat} {S C:Bs} {w A B:World} {v:Value} {G:Nat→Prop} (h:RdC I K n F o m S C w z y v a G A) (hz:z+4≤y) (hw:w.heap.size≤z) (hS:∀ k,I.S k→k<w.heap.size) (hb:But I.S A B) (hd:Disk I B K n S C):RdC I K n F o m S C w z y v a G B:=by
 have ns:∀ k,z≤k→¬ I.S k:=fun k hk e=>by have:=hS k e;omega
 exact ⟨h.lo,h.hi,hd,(hb.block _ h.b0.lt (ns _ (by omega))).trans h.b0,(hb.block _ h.b2.lt (ns _ (by omega))).trans h.b2,(hb.block _ h.b3.lt (ns _ (by omega))).trans h.b3,(hb.block _ h.bo.lt (ns _ (by omega))).trans h.bo,qC h.row hb (fun k e=>ns k (h.row.lt k e).1),
  (hb.block _ (Array.getElem?_eq_some_iff.1 h.df).1 (ns _ (by omega))).trans h.df,h.but.trans hb,fun k hk=>⟨Nat.lt_of_lt_of_le (h.own k hk).1 hb.size,(h.own k hk).2⟩⟩
theorem RdC.next {I:DK} {K:Nat→Prop} {n F o m z y a k g cap:Nat} {S C:Bs} {w A B:World} {v:Value} {G:Nat→Prop} {d:Bs} (h:RdC I K n F o m S C w z y v a G A) (hz:z+4≤y) (hw:w.heap.size≤z) (hS:∀ k,I.S k→k<w.heap.size) (hK:∀ k,K k→k<w.heap.size) (hak:a+k≤o+m)
  (hd:d=(C.drop (64*F+a)).take k) (ho:B.ownsRow z 5 1 (.slice (some ⟨g,0,none⟩) (a - o+k) cap) (a - o+k) (zc ((C.drop (64*F+o)).take (a - o))++zc d)) (hg:A.grownBy B v.ownBlock) (hat:v.ownBlock=some g∨g=A.heap.size) :
  (B.setCell ⟨y+1,0,none⟩ (.slice (some ⟨g,0,none⟩) (a - o+k) cap)).heap[y+6]? =A.heap[y+6]? ∧Keeps (fun k=>G k∨k<0) A (B.setCell ⟨y+1,0,none⟩ (.slice (some ⟨g,0,none⟩) (a - o+k) cap)) ∧
   RdC I K n F o m S C w z y (.slice (some ⟨g,0,none⟩) (a - o+k) cap) (a+k) G (B.setCell ⟨y+1,0,none⟩ (.slice (some ⟨g,0,none⟩) (a - o+k) cap)):=by
 have hlo:=h.lo;have hby:=h.bo.lt;have hvz:∀ r,v.ownBlock=some r→z≤r∧r≠y+1:=fun r e=>⟨(h.row.lt r e).1,fun e2=>by
  subst e2;rcases h.row.2 with ⟨rfl,_⟩ | ⟨g',cap',cur,rfl,_,hgg,_⟩
  ·cases e
  have e3:g'=y+1:=by simpa [Value.ownBlock] using e
  subst e3;have:=(show A.heap[y+1]? =_ from h.bo).symm.trans hgg;simp at this⟩
 have hbt:B.grownBy (B.setCell ⟨y+1,0,none⟩ (.slice (some ⟨g,0,none⟩) (a - o+k) cap)) (some (y+1)):=xF B (y+1) 0 _;have keep:∀ j,j<A.heap.size→v.ownBlock≠some j→j≠y+1→(B.setCell ⟨y+1,0,none⟩ (.slice (some ⟨g,0,none⟩) (a - o+k) cap)).heap[j]? =A.heap[j]? :=fun j hj h1 h2=>(hbt.block j (Nat.lt_of_lt_of_le hj hg.size) (fun e=>h2 (Option.some.inj e))).trans (hg.block j hj (fun e=>h1 e.symm));have hgy:g≠y+1:=by
  rcases hat with e | e
  ·exact (hvz g e).2
  omega
 have L6:=h.own (y+6) (.inr rfl);have tn:∀ j,z≤j→j<A.heap.size→(∀ u T,A.heap[j]? =some (.cells #[u] T (0,0))→T≠5→v.ownBlock≠some j):=fun j _ _ u T hu hT e=>by
  rcases h.row.2 with ⟨rfl,_⟩ | ⟨g',cap',cur,rfl,_,hgg,_⟩
  ·cases e
  have e3:g'=j:=by simpa [Value.ownBlock] using e
  subst e3;have:=hu.symm.trans hgg;simp at this;exact hT this.2
 refine ⟨keep _ L6.1 L6.2.2.2.1 (by omega),⟨hg.os,hg.tape,hg.output,Nat.le_trans hg.size hbt.size,fun j hj hG=>keep j hj ?_ ?_⟩,⟨by omega,hak,?_,?_,?_,?_,?_,?_,?_,?_,?_⟩⟩
 ·rcases hG with hG | hG
  ·exact (h.own j (.inl hG)).2.2.2.1
  omega
 ·rcases hG with hG | hG
  ·have:=(h.own j (.inl hG)).2.1;omega
  omega
 ·have h1:=h.dk.grown hg (fun r e=>⟨fun hs=>by have:=hS r hs;have:=(hvz r e).1;omega,fun hk=>by have:=hK r hk;have:=(hvz r e).1;omega⟩);exact h1.grown hbt (fun r e=>by have:=Option.some.inj e;exact ⟨fun hs=>by have:=hS r hs;omega,fun hk=>by have:=hK r hk;omega⟩)
 ·exact (keep _ h.b0.lt (tn z (Nat.le_refl _) h.b0.lt _ _ h.b0 (by decide)) (by omega)).trans h.b0
 ·exact (keep _ h.b2.lt (tn _ (by omega) h.b2.lt _ _ h.b2 (by decide)) (by omega)).trans h.b2
 ·exact (keep _ h.b3.lt (tn _ (by omega) h.b3.lt _ _ h.b3 (by decide)) (by omega)).trans h.b3
 ·have:Boxed B (y+1) 34 v:=h.bo.kept hg (fun e=>(hvz _ e.symm).2 rfl);exact this.set _
 ·have e1:a+k - o=a - o+k:=by omega
  rw [e1,←V7,show 64*F+o+(a - o)=64*F+a by omega,←hd,zz];exact ho.kept hbt (.inr (fun e=>hgy (by simpa [Value.ownBlock] using e)))
 ·refine (keep _ (Array.getElem?_eq_some_iff.1 h.df).1 (fun e=> ?_) (by omega)).trans h.df;rcases h.row.2 with ⟨rfl,_⟩ | ⟨g',cap',cur,rfl,_,hgg,_⟩
  ·cases e
  have e3:g'=y+5:=by simpa [Value.ownBlock] using e
  subst e3;have:=h.df.symm.trans hgg;cases this
 ·exact (h.but.grown hg (fun r e=> .inr (by have:=(hvz r e).1;omega))).grown hbt (fun r e=> .inr (by have:=Option.some.inj e;omega))
 intro j hj;obtain ⟨o1,o2,o3,o4,o5⟩:=h.own j hj;refine ⟨Nat.lt_of_lt_of_le o1 (Nat.le_trans hg.size hbt.size),o2,o3,fun e=> ?_,o5⟩;have e3:g=j:=by simpa [Value.ownBlock] using e
 subst e3;rcases hat with e | e
 ·exact o4 e
 omega
theorem RdC.nob {I:DK} {K:Nat→Prop} {n F o m z y a:Nat} {S C:Bs} {w A:World} {v:Value} {G:Nat→Prop} (h:RdC I K n F o m S C w z y v a G A):some (y+1)≠v.ownBlock:=Boxed.not_row h.bo (by decide) h.row
theorem RdI.turn {I:DK} {K:Nat→Prop} {n F o m z y:Nat} {S C:Bs} {w A B:World} {pre:List (Nat × Nat × Nat)} {G:Nat→Prop} {row:Option Nat} (h:RdI I K n F o m S C w z y pre G A) (hz:z+4≤y) (hw:w.heap.size≤z) (hS:∀ k,I.S k→k<w.heap.size) (hg:A.grownBy B row) (hr:∀ r,row=some r→G r∨r=y+6):RdI I K n F o m S C w z y pre G B:=by
 obtain ⟨v,a,hp,h⟩:=h;exact ⟨v,a,hp,h.turn hz hw hS hg hr⟩
theorem RdI.lay {I:DK} {K:Nat→Prop} {n F o m z y:Nat} {S C:Bs} {w A B:World} {pre:List (Nat × Nat × Nat)} {G:Nat→Prop} (h:RdI I K n F o m S C w z y pre G A) (hz:z+4≤y) (hw:w.heap.size≤z) (hS:∀ k,I.S k→k<w.heap.size) (hK:∀ k,K k→k<w.heap.size) (hg:A.grownBy B none):RdI I K n F o m S C w z y pre (fun k=>G k∨(A.heap.size≤k∧k<B.heap.size)) B:=by
 obtain ⟨v,a,hp,h⟩:=h;exact ⟨v,a,hp,h.lay hz hw hS hK hg⟩
set_option maxHeartbeats 4000000
theorem Vn (I:DK) (K:Nat→Prop) (n F N o m:Nat) (S C:Bs) (w:World) (h:Disk I w K n S C) (hN:1≤N) (hF:F+N≤n) (ho:o+m≤64*N) (hK:∀ k,K k→k<w.heap.size) :
  Calls Tryz.prog 192 #[.pointer (some ⟨I.dd,0,none⟩),.agg #[.int .i64 (F:Int),.int .i64 (N:Int)],.int .i64 (o:Int),.int .i64 (m:Int)] w fun e w'=>∃ u,e= .returned (.tuple #[u,.int .i64 0])∧w'.ownsRow w.heap.size 5 1 u m (zc ((C.drop (64*F+o)).take m))∧Disk I w' K n S C∧But I.S w w':=by
 obtain ⟨iB0,iB⟩:=info_parts yD;have hn2:=h.n2;have hS:∀ k,I.S k→k<w.heap.size:=h.lt;refine (callsIn_wide (n:=9)).1 ?_;refine callsIn_of_wp_marks Tryz.func192 rfl trivial ?_ rfl;simp only [Tryz.ntmps192,List.size_toArray,List.length_cons,List.length_nil,Nat.reduceAdd,Nat.reduceSub,Array.replicate_succ,Array.replicate_zero,List.push_toArray,List.append_toArray,List.nil_append,List.cons_append];obtain ⟨W0,hW0⟩:=KZ6 ((((w.alloc (.cells #[.pointer (some ⟨I.dd,0,none⟩)] 25)).alloc (.cells #[.int .i64 (F:Int),.int .i64 (N:Int)] 143)).alloc (.cells #[.slice none 0 0] 34)).alloc (.cells #[.int .i64 0] 30))
 gi_wp2
 obtain ⟨z,hz⟩:=KZ6 w.heap.size;have hs0:W0.heap.size=z+4:=by rw [hW0,hz];simp
 have hb0:Below w.heap.size w W0:=by rw [hW0];exact ((((Below.refl _ w).alloc (Nat.le_refl _) _).alloc (by simp) _).alloc (by simp;omega) _).alloc (by simp;omega) _
 have x0:Boxed W0 z 25 (.pointer (some ⟨I.dd,0,none⟩)):=by rw [hW0,hz];exact (((Boxed.new w _ _).alloc _).alloc _).alloc _
 have x1:BlkL W0 (z+1) 143 (te F N):=by
  rw [hW0,hz];have:=((BlkL.new (w.alloc (.cells #[.pointer (some ⟨I.dd,0,none⟩)] 25)) 143 (te F N)).alloc (.cells #[.slice none 0 0] 34)).alloc (.cells #[.int .i64 0] 30)
  rwa [World.size_alloc] at this
 have x2:Boxed W0 (z+2) 34 (.slice none 0 0):=by
  rw [hW0,hz];have:=(Boxed.new ((w.alloc (.cells #[.pointer (some ⟨I.dd,0,none⟩)] 25)).alloc (.cells #[.int .i64 (F:Int),.int .i64 (N:Int)] 143)) 34 (.slice none 0 0)).alloc (.cells #[.int .i64 0] 30)
  simpa only [World.size_alloc] using this
 have x3:Boxed W0 (z+3) 30 (.int .i64 0):=by
  rw [hW0,hz];have:=Boxed.new (((w.alloc (.cells #[.pointer (some ⟨I.dd,0,none⟩)] 25)).alloc (.cells #[.int .i64 (F:Int),.int .i64 (N:Int)] 143)).alloc (.cells #[.slice none 0 0] 34)) 30 (.int .i64 0)
  simpa only [World.size_alloc] using this
 have hd0:=h.below hb0;rw [←hW0,←hz];rw [show z+1+1+1=z+3 from rfl,show z+1+1=z+2 from rfl];have hck:=Yv I K n F N o m S C W0 hd0 hN hF ho;have HZ:=KZ9 hz;have HD:=KZ9 h;have HB0:=KZ9 hb0;have HX0:=KZ9 x0;have HX1:=KZ9 x1;have HX2:=KZ9 x2;have HX3:=KZ9 x3;clear hW0 hz x0 x1 x2 x3 h hb0 hd0;refine ⟨trivial,?_⟩;refine (callsIn_wide.2 hck).mono ?_;rintro e w1 ⟨rfl,hb1⟩;have hz1:z+4≤w1.heap.size:=by have:=hb1.size;omega
 have HB1:=KZ9 hb1;have e0:=(HX1.out.below HX1.out.lt hb1).c 0 _ rfl;have e1:=(HX1.out.below HX1.out.lt hb1).c 1 _ rfl;have ME:Hid (∀ W,Below w1.heap.size w1 W→BlkL W (z+1) 143 (te F N)):=fun W hW=>(HX1.out.below HX1.out.lt hb1).below (by omega) hW;clear hb1 hck
 gi_wp2_with (gi_at_make;refine wpListIn_make_own _ rfl _ _ 34 rfl w1.heap.size 5 iB0 (.int .u8 0) 1 Tryz.underlying34 iB.1 iB.2.1 iB.2.2.1 .i64 .i64 _ m rfl rfl rfl (by rw [iB.2.2.2];omega) (by unfold maxLen;omega) (Nat.le_refl _) ?_;intro w2 hown2 hgrow2;have q0:=(ME.out _ (((Below.refl _ w1).grown hgrow2 (Nat.le_refl _) (by simp)).alloc hgrow2.size (.cells #[.slice (some ⟨w1.heap.size,0,none⟩) 0 m] 34))).c 0 _ rfl;have q1:=(ME.out _ (((Below.refl _ w1).grown hgrow2 (Nat.le_refl _) (by simp)).alloc hgrow2.size (.cells #[.slice (some ⟨w1.heap.size,0,none⟩) 0 m] 34))).c 1 _ rfl)
 all_goals try omega
 obtain ⟨y,hy⟩:∃ y,w2.heap.size=y+1:=⟨w2.heap.size - 1,by have:=hown2.lt w1.heap.size rfl;omega⟩;have hyz:z+4≤y:=by have:=hown2.lt w1.heap.size rfl;omega
 refine ⟨trivial,?_⟩;refine (callsIn_wide.2 (Yu F N o m _)).mono ?_;rintro e w3 ⟨rfl,rfl⟩
 gi_wp2
 rw [show y+1+1+1=y+3 from rfl,show y+1+1+2=y+4 from rfl,show y+1+1=y+2 from rfl];obtain ⟨W5,hW5⟩:=KZ6 ((((w2.alloc (.cells #[.slice (some ⟨w1.heap.size,0,none⟩) 0 m] 34)).alloc (.cells #[.int .i64 (F:Int),.int .i64 (N:Int)] 143)).alloc (.cells #[.int .i64 (o:Int)] 3)).alloc (.cells #[.int .i64 (m:Int)] 3));have hS5:W5.heap.size=y+5:=by rw [hW5];simp [hy]
 have hB25:Below w2.heap.size w2 W5:=by rw [hW5];exact ((((Below.refl _ w2).alloc (Nat.le_refl _) _).alloc (by simp) _).alloc (by simp;omega) _).alloc (by simp;omega) _
 have pe:BlkL W5 (y+2) 143 (te F N):=by
  rw [hW5];have:=((BlkL.new (w2.alloc (.cells #[.slice (some ⟨w1.heap.size,0,none⟩) 0 m] 34)) 143 (te F N)).alloc (.cells #[.int .i64 (o:Int)] 3)).alloc (.cells #[.int .i64 (m:Int)] 3)
  rwa [World.size_alloc,hy] at this
 have po:Boxed W5 (y+3) 3 (.int .i64 (o:Int)):=by
  rw [hW5];have:=(Boxed.new ((w2.alloc (.cells #[.slice (some ⟨w1.heap.size,0,none⟩) 0 m] 34)).alloc (.cells #[.int .i64 (F:Int),.int .i64 (N:Int)] 143)) 3 (.int .i64 (o:Int))).alloc (.cells #[.int .i64 (m:Int)] 3)
  simpa only [World.size_alloc,hy] using this
 have pn:Boxed W5 (y+4) 3 (.int .i64 (m:Int)):=by
  rw [hW5];have:=Boxed.new (((w2.alloc (.cells #[.slice (some ⟨w1.heap.size,0,none⟩) 0 m] 34)).alloc (.cells #[.int .i64 (F:Int),.int .i64 (N:Int)] 143)).alloc (.cells #[.int .i64 (o:Int)] 3)) 3 (.int .i64 (m:Int))
  simpa only [World.size_alloc,hy] using this
 have pc:Boxed W5 (y+1) 34 (.slice (some ⟨w1.heap.size,0,none⟩) 0 m):=by
  rw [hW5,←hy];exact (((Boxed.new w2 _ _).alloc _).alloc _).alloc _
 rw [←hW5];clear hW5;have HL:=KZ9 hB25;have hent:=fun (a:Act) ps asg bd=>enter_outer (F:=Fence.wide) (P:=Tryz.prog) rfl W5 a ps asg bd;rw [hS5] at hent;have hps:=dp 8 (y+2) (y+3) (y+4) 0 F N o m W5 (by omega) pe po pn (by omega) (by omega) (by omega);have hb12:Below w1.heap.size w1 w2:=(Below.refl _ w1).grown hgrow2 (Nat.le_refl _) (by simp);have hb15:Below w1.heap.size w1 W5:=hb12.trans (hB25.mono hb12.size);have hb05:Below W0.heap.size W0 W5:=HB1.out.trans (hb15.mono HB1.out.size);have hbw5:Below w.heap.size w W5:=HB0.out.trans (hb05.mono HB0.out.size);have hown5:W5.ownsRow z 5 1 (.slice (some ⟨w1.heap.size,0,none⟩) 0 m) 0 []:=by
  obtain ⟨g1,g2⟩:=hown2;refine ⟨g1,?_⟩;rcases g2 with ⟨e,_⟩ | ⟨g,cap,cur,e,hbg,hg,rest⟩
  ·cases e
  refine .inr ⟨g,cap,cur,e,by omega,(hB25.block g (Array.getElem?_eq_some_iff.1 hg).1).trans hg,rest⟩
 have hwz:=Nat.le_of_eq HZ.out.symm;have HC5:=KZ9 (fun (o':Obj) (G:Nat→Prop) (hG:∀ k,G k→k=y+2∨k=y+3∨k=y+4)=>(⟨Nat.le_refl _,by omega,HD.out.below (hbw5.trans ((((Below.refl _ W5).alloc (Nat.le_refl _) (.deferred (some []))).alloc (by simp) o').mono hbw5.size)),((Boxed.alloc ((hb05.block z (by omega)).trans HX0.out) _).alloc _),((Boxed.alloc ((hb05.block (z+2) (by omega)).trans HX2.out) _).alloc _),((Boxed.alloc ((hb05.block (z+3) (by omega)).trans HX3.out) _).alloc _),(pc.alloc _).alloc _,
  by rw [Nat.sub_self,List.take_zero];exact (hown5.alloc _).alloc _,(Below.heap_alloc _ o' _ (by simp;omega)).trans (by have hd:=World.alloc_heap_new W5 (.deferred (some []));rw [hS5] at hd;exact hd),But.of_below _ (hbw5.trans ((((Below.refl _ W5).alloc (Nat.le_refl _) (.deferred (some []))).alloc (by simp) o').mono hbw5.size)),fun k hk=>by
   have hk2:k=y+2∨k=y+3∨k=y+4∨k=y+6:=by
    rcases hk with hk | hk
    ·have:=hG k hk;omega
    omega
   have:=hb15.size;have h7:=(hown2.lt w1.heap.size rfl).2;refine ⟨by simp;omega,by omega,by omega,fun e=> ?_,fun e=>by have:=hK k e;omega⟩;have e2:w1.heap.size=k:=by simpa [Value.ownBlock] using e
   omega⟩:RdC I K n F o m S C w z y (.slice (some ⟨w1.heap.size,0,none⟩) 0 m) o G ((W5.alloc (.deferred (some []))).alloc o')))
 clear pe po pn pc hown2 hgrow2 hB25 hb12 hb15 hb05 hown5 ME e0 e1 q0 q1 HX0 HX1 HX2 HX3 HB0 HB1 HL;refine range_law (w₁:=W5.alloc (.deferred (some []))) (L:=y+6) (by omega) (by simp;omega) (hent _ _ _ _) (gf:=262) (lb:=#[.pointer (some ⟨y+3,0,none⟩),.pointer (some ⟨y+4,0,none⟩),.pointer (some ⟨y+2,0,none⟩)]) rfl trivial (enters_of Tryz.func262 (by kernel_rfl) rfl)
  hps ((Below.refl _ W5).alloc (Nat.le_refl _) _) (fun _=>rfl) (by omega) (by omega)
  (RdI I K n F o m S C w z y) (fun _ _ _ _=>False) (fun _ _ _ _ _ h hg hr=>h.turn hyz hwz hS hg hr) (fun _ _ _ _ h hg=>h.lay hyz hwz hS hK hg) (fun _ _ _ _ _ _ h _ _=>h) (fun _ _ _ _ _ h _=>h) ?start
  (fun x a' W'=>∃ pb,a'={ tmps:=#[.pointer (some ⟨I.dd,0,none⟩),.agg #[.int .i64 (F:Int),.int .i64 (N:Int)],.int .i64 (o:Int),.int .i64 (m:Int),.pointer (some ⟨z,0,none⟩),.pointer (some ⟨z+1,0,none⟩),undef,undef,.pointer (some ⟨z+2,0,none⟩),.pointer (some ⟨z+3,0,none⟩),.int .i64 0,.pointer (some ⟨y+1,0,none⟩),.pointer (some ⟨pb,0,none⟩),undef,undef,.pointer (some ⟨I.dd,0,none⟩),.agg #[.int .i64 (F:Int),.int .i64 (N:Int)],.int .i64 (o:Int),.int .i64 (m:Int),.int .i64 0,.int .i64 0,.bool false,undef,.int .i64 (m:Int),.slice (some ⟨w1.heap.size,0,none⟩) 0 m,.agg #[.int .i64 (F:Int),.int .i64 (N:Int)],.int .i64 (o:Int),.int .i64 (m:Int),.func (.func 262) #[] #[.pointer (some ⟨y+3,0,none⟩),.pointer (some ⟨y+4,0,none⟩),.pointer (some ⟨y+2,0,none⟩)],.agg #[.int .i64 (x.1:Int),.int .i64 (x.2.1:Int),.int .i64 (x.2.2:Int)],undef,undef,undef,undef,undef,undef,undef,undef,undef,undef,undef,undef,undef,undef,undef,undef,undef,undef,undef],defers:=[] }∧y+7≤pb∧BlkL W' pb 289 [.int .i64 (x.1:Int),.int .i64 (x.2.1:Int),.int .i64 (x.2.2:Int)]) (fun x a' A B row h hg hr=>by
   obtain ⟨pb,h1,h2,h3⟩:=h;exact ⟨pb,h1,h2,h3.grown hg (fun e=>by have:=hr _ e.symm;omega)⟩) ?assign ?body ?done ?stop
 case start =>
  intro o';exact ⟨_,o,rfl,HC5.out o' _ (fun k hk=>by rcases hk with h | h | h<;>omega)⟩
 case assign =>
  intro pre x G W' Kk hI hsp hKk
  dsimp only [WL]
  gi_wp2
  have hlt:y+6<W'.heap.size:=by
   obtain ⟨v,a,_,h⟩:=hI;exact (h.own _ (.inr rfl)).1
  refine hKk _ _ (Below.heap_alloc _ _ _ hlt) (Keeps.alloc _ _ _) (hI.turn hyz hwz hS (World.grownBy_alloc _ _ none) (fun r e=>by cases e)) ⟨W'.heap.size,rfl,by omega,BlkL.new W' 289 [.int .i64 (x.1:Int),.int .i64 (x.2.1:Int),.int .i64 (x.2.2:Int)]⟩
 case body =>
  rintro pre x G a' Wb ⟨r0,hr0⟩ hI ⟨pb,rfl,hpb,hpB⟩ ⟨post,hpost⟩;obtain ⟨v,a,hpa,hR⟩:=hI;have hy6:y+6<Wb.heap.size:=(Array.getElem?_eq_some_iff.1 hr0).1;have halt:a<o+m:=by
   refine Decidable.byContradiction fun h=> ?_;rw [rO _ _ _ h,List.append_nil] at hpa;rw [hpa,List.append_assoc] at hpost;simp at hpost
  have hx:x=(F+a / 64,a % 64,min 64 (a % 64+(o+m - a)))∧(pre++[x])++xl F (a+(min 64 (a % 64+(o+m - a)) - a % 64)) (o+m)=xl F o (o+m):=by
   rw [vq F a (o+m) halt] at hpa;have h2:=hpost.trans hpa.symm;rw [List.append_assoc] at h2;have h3:=List.append_cancel_left h2;simp only [List.singleton_append,List.cons.injEq] at h3;refine ⟨h3.1,?_⟩;rw [←hpa,h3.1];simp
  obtain ⟨hx,hnx⟩:=hx;obtain ⟨sx,fx,tx⟩:=x;simp only [Prod.mk.injEq] at hx;obtain ⟨hx1,hx2,hx3⟩:=hx;rw [←hx2] at hnx hx3;rw [←hx3] at hnx;have hsn:sx<n:=by omega
  have hft:fx<tx:=by omega
  have ht64:tx≤64:=by omega
  have hpos:64*sx+fx=64*F+a:=by omega
  have hat':a+(tx - fx)≤o+m:=by omega
  have HNX:=KZ9 hnx;have HPOS:=KZ9 hpos;have HH:=KZ9 hR;have p0:=hpB.c 0 _ rfl;have d0:=hR.b0.cell;have HRD:=KZ9 (cF I Wb K n sx S C hR.dk hsn);have HPB:=KZ9 hpB;clear hx1 hx2 hx3 hnx hpos hpost hpa hpB hR
  dsimp only at p0
  gi_wp2
  refine ⟨trivial,?_⟩;refine (CallsIn.inRound _ (callsIn_wide.2 HRD.out)).mono ?_;rintro e w2 ⟨g,c,rfl,hown,hd2,hb2⟩;have hR2:=HH.out.disk hyz hwz hS hb2 hd2;have ns:∀ k,z≤k→¬ I.S k:=fun k hk e=>by have:=hS k e;omega
  have hpb2:=HPB.out.but hb2 (ns _ (by omega));have u0:=hR2.bo.cell;have u1:=hpb2.c 1 _ rfl;have u2:=hpb2.c 2 _ rfl;have v0:w2.drew.cell? ⟨y+1,0,none⟩=some v:=u0;have HL2:Hid (w2.heap[y+6]? =Wb.heap[y+6]?):=KZ9 (hb2.block _ hy6 (ns _ (by omega)));have HK2:Hid (Keeps (fun k=>G k∨k<0) Wb w2.drew):=KZ9 ⟨hb2.os,hb2.tape,hb2.output,hb2.size,fun k hk hG=>hb2.block k hk (by rcases hG with hG | hG;exact ns k (by have:=(HH.out.own k (.inl hG)).2.1;omega);omega)⟩;have HR2:=KZ9 hR2;have HO2:=KZ9 hown;have HWB:=KZ9 hb2.size;clear hd2 hb2 hR2 hpb2 hown HRD p0 d0
  gi_wp2
  all_goals try omega
  have hmix:Tryz.prog.follows .mixedOrders=true:=by kernel_rfl
  have a1:w2.drew.cell? ⟨pb,1,none⟩=some (.int .i64 (fx:Int)):=u1;have a2:w2.drew.cell? ⟨pb,2,none⟩=some (.int .i64 (tx:Int)):=u2;refine up (F:=Fence.wide) rfl hmix (by kernel_rfl) ?_;refine wpAnyIn_take (i:=1) (v:= .slice (some ⟨g,0,none⟩) 64 c) rfl rfl (by kernel_rfl) (by kernel_rfl) (by kernel_rfl) (fun _ _ _ h=>h) ⟨Or.inl ⟨by rfl,by intro w;go_simp⟩,fun _=>rfl⟩ ?_;refine wpAnyIn_take (i:=2) (v:= .pointer (some ⟨pb,1,none⟩)) rfl rfl (by kernel_rfl) (by kernel_rfl) (by kernel_rfl) (fun _ _ _ h=>h) ⟨Or.inl ⟨by rfl,by intro w;go_simp⟩,fun _=>rfl⟩ ?_;refine wpAnyIn_take (i:=4) (v:= .pointer (some ⟨pb,2,none⟩)) rfl rfl (by kernel_rfl) (by kernel_rfl) (by kernel_rfl) (fun _ _ _ h=>h) ⟨Or.inl ⟨by rfl,by intro w;go_simp⟩,fun _=>rfl⟩ ?_;have hc64:64≤c:=by
   rcases HO2.out.2 with ⟨e,_⟩ | ⟨g',cap',cur,e,_,_,h5,_⟩
   ·cases e
   injection e with _ _ e3
   omega
  have i1:(0:Int)≤(fx:Int):=by omega
  have i2:(fx:Int)≤(tx:Int):=by omega
  have i3:(tx:Int)≤(c:Int):=by omega
  have i4:((fx:Int)).toNat=fx:=by omega
  have i5:((tx:Int)).toNat=tx:=by omega
  have i6:¬ c=fx:=by omega
  have hR3:=HR2.out.turn hyz hwz hS (B:=w2.drew) (row:=none) ⟨rfl,rfl,rfl,Nat.le_refl _,fun _ _ _=>rfl⟩ (fun r e=>by cases e);have hdd:((sec C sx).drop fx).take (tx - fx)=(C.drop (64*F+a)).take (tx - fx):=by
   rw [Rt C sx fx (tx - fx) (by omega),HPOS.out]
  have hsl:=xE HH.out.dk.lc hsn;have hlen:(zc ((C.drop (64*F+a)).take (tx - fx))).length=(tx - fx)*1:=by
   rw [zX,←hdd,List.length_take,List.length_drop,hsl];omega
  have hsrc:∀ j u,(zc ((C.drop (64*F+a)).take (tx - fx)))[j]? =some u→w2.drew.cell? ((⟨g,fx,none⟩:Addr).add j)=some u:=by
   intro j u hj;have hjl:=(List.getElem?_eq_some_iff.1 hj).1;rw [hlen] at hjl;have hadd:(⟨g,fx,none⟩:Addr).add j=(⟨g,0,none⟩:Addr).add (fx+j):=by unfold Addr.add;split<;>simp_all
   rw [hadd];refine HO2.out.cells (g:=g) rfl (fx+j) u ?_;rw [←hj,←hdd];unfold zc;rw [List.getElem?_map,List.getElem?_map,List.getElem?_take,List.getElem?_drop,if_pos (by omega)]
  have HLEN:=KZ9 hlen;have HSRC:=KZ9 hsrc;have HR3:=KZ9 hR3;have HZS:Hid (z≤w2.drew.heap.size):=KZ9 (by show z≤w2.heap.size;have:=HR2.out.bo.lt;omega);clear hlen hsrc hdd hsl hR3;refine wpAnyIn_ready (rs:=[0,3,5]) (by kernel_rfl) (by simp) ?_;refine AllReadyIn.cons rfl (fun Kk hKk=> ?_) (AllReadyIn.cons rfl (fun Kk hKk=> ?_) (AllReadyIn.cons rfl (fun Kk hKk=> ?_) AllReadyIn.nil))
  ·go_simp;refine hKk _ _ ?_;clear hKk Kk
   refine wpAnyIn_ready (rs:=[3,5]) (by kernel_rfl) (by simp) ?_;refine AllReadyIn.cons rfl (fun Kk hKk=> ?_) (AllReadyIn.cons rfl (fun Kk hKk=> ?_) AllReadyIn.nil)
   ·go_simp;refine hKk _ _ ?_;clear hKk Kk
    refine wpAnyIn_ready (rs:=[5]) (by kernel_rfl) (by simp) ?_;refine AllReadyIn.cons rfl (fun Kk hKk=> ?_) AllReadyIn.nil;go_simp;refine hKk _ _ ?_;clear hKk Kk
    refine wpAnyIn_ready (rs:=[6]) (by kernel_rfl) (by simp) ?_;refine AllReadyIn.cons rfl (fun Kk hKk=> ?_) AllReadyIn.nil;go_simp;refine hKk _ _ ?_;clear hKk Kk
    refine wpAnyIn_ready (rs:=[7]) (by kernel_rfl) (by simp) ?_;refine AllReadyIn.cons rfl (fun Kk hKk=> ?_) AllReadyIn.nil;refine zU _ rfl (.tmp 40) (.tmp 46) 34 rfl z 5 iB0 (.int .u8 0) 1 1 Tryz.underlying34 iB.1 iB.2.1 iB.2.2.1 iB.2.2.2 rfl (by decide) v (a - o) _ rfl HR3.out.row ⟨g,fx,none⟩ (tx - fx) (c - fx) (zc ((C.drop (64*F+a)).take (tx - fx))) rfl HLEN.out HSRC.out (xe _) (by unfold maxLen;omega) (by omega) HZS.out (by omega) ?_;intro g5 cap5 w5 hown5 hgrow5 hat5;have hN5:=HR3.out.next hyz hwz hS hK hat' rfl hown5 hgrow5 hat5;have hb5:=HR3.out.bo.kept hgrow5 HR3.out.nob;have e5:=hb5.cell;have f5:=hb5.frozen;refine hKk _ _ ?_;clear hKk Kk;refine wpAnyIn_ready (rs:=[8]) (by kernel_rfl) (by simp) ?_;refine AllReadyIn.cons rfl (fun Kk hKk=> ?_) AllReadyIn.nil;go_simp
    refine hKk _ _ ?_;clear hKk Kk;refine wpAnyIn_done (by kernel_rfl) ?_ _;exact (show _∧_∧_ from ⟨hN5.1.trans HL2.out,HK2.out.trans hN5.2.1,_,_,HNX.out,hN5.2.2⟩)
   go_simp;refine hKk _ _ ?_;clear hKk Kk
   refine wpAnyIn_ready (rs:=[3]) (by kernel_rfl) (by simp) ?_;refine AllReadyIn.cons rfl (fun Kk hKk=> ?_) AllReadyIn.nil;go_simp;refine hKk _ _ ?_;clear hKk Kk
   refine wpAnyIn_ready (rs:=[6]) (by kernel_rfl) (by simp) ?_;refine AllReadyIn.cons rfl (fun Kk hKk=> ?_) AllReadyIn.nil;go_simp;refine hKk _ _ ?_;clear hKk Kk
   refine wpAnyIn_ready (rs:=[7]) (by kernel_rfl) (by simp) ?_;refine AllReadyIn.cons rfl (fun Kk hKk=> ?_) AllReadyIn.nil;refine zU _ rfl (.tmp 40) (.tmp 46) 34 rfl z 5 iB0 (.int .u8 0) 1 1 Tryz.underlying34 iB.1 iB.2.1 iB.2.2.1 iB.2.2.2 rfl (by decide) v (a - o) _ rfl HR3.out.row ⟨g,fx,none⟩ (tx - fx) (c - fx) (zc ((C.drop (64*F+a)).take (tx - fx))) rfl HLEN.out HSRC.out (xe _) (by unfold maxLen;omega) (by omega) HZS.out (by omega) ?_;intro g5 cap5 w5 hown5 hgrow5 hat5;have hN5:=HR3.out.next hyz hwz hS hK hat' rfl hown5 hgrow5 hat5;have hb5:=HR3.out.bo.kept hgrow5 HR3.out.nob;have e5:=hb5.cell;have f5:=hb5.frozen;refine hKk _ _ ?_;clear hKk Kk;refine wpAnyIn_ready (rs:=[8]) (by kernel_rfl) (by simp) ?_;refine AllReadyIn.cons rfl (fun Kk hKk=> ?_) AllReadyIn.nil;go_simp
   refine hKk _ _ ?_;clear hKk Kk;refine wpAnyIn_done (by kernel_rfl) ?_ _;exact (show _∧_∧_ from ⟨hN5.1.trans HL2.out,HK2.out.trans hN5.2.1,_,_,HNX.out,hN5.2.2⟩)
  ·go_simp;refine hKk _ _ ?_;clear hKk Kk
   refine wpAnyIn_ready (rs:=[0,5]) (by kernel_rfl) (by simp) ?_;refine AllReadyIn.cons rfl (fun Kk hKk=> ?_) (AllReadyIn.cons rfl (fun Kk hKk=> ?_) AllReadyIn.nil)
   ·go_simp;refine hKk _ _ ?_;clear hKk Kk
    refine wpAnyIn_ready (rs:=[5]) (by kernel_rfl) (by simp) ?_;refine AllReadyIn.cons rfl (fun Kk hKk=> ?_) AllReadyIn.nil;go_simp;refine hKk _ _ ?_;clear hKk Kk
    refine wpAnyIn_ready (rs:=[6]) (by kernel_rfl) (by simp) ?_;refine AllReadyIn.cons rfl (fun Kk hKk=> ?_) AllReadyIn.nil;go_simp;refine hKk _ _ ?_;clear hKk Kk
    refine wpAnyIn_ready (rs:=[7]) (by kernel_rfl) (by simp) ?_;refine AllReadyIn.cons rfl (fun Kk hKk=> ?_) AllReadyIn.nil;refine zU _ rfl (.tmp 40) (.tmp 46) 34 rfl z 5 iB0 (.int .u8 0) 1 1 Tryz.underlying34 iB.1 iB.2.1 iB.2.2.1 iB.2.2.2 rfl (by decide) v (a - o) _ rfl HR3.out.row ⟨g,fx,none⟩ (tx - fx) (c - fx) (zc ((C.drop (64*F+a)).take (tx - fx))) rfl HLEN.out HSRC.out (xe _) (by unfold maxLen;omega) (by omega) HZS.out (by omega) ?_;intro g5 cap5 w5 hown5 hgrow5 hat5;have hN5:=HR3.out.next hyz hwz hS hK hat' rfl hown5 hgrow5 hat5;have hb5:=HR3.out.bo.kept hgrow5 HR3.out.nob;have e5:=hb5.cell;have f5:=hb5.frozen;refine hKk _ _ ?_;clear hKk Kk;refine wpAnyIn_ready (rs:=[8]) (by kernel_rfl) (by simp) ?_;refine AllReadyIn.cons rfl (fun Kk hKk=> ?_) AllReadyIn.nil;go_simp
    refine hKk _ _ ?_;clear hKk Kk;refine wpAnyIn_done (by kernel_rfl) ?_ _;exact (show _∧_∧_ from ⟨hN5.1.trans HL2.out,HK2.out.trans hN5.2.1,_,_,HNX.out,hN5.2.2⟩)
   go_simp;refine hKk _ _ ?_;clear hKk Kk
   refine wpAnyIn_ready (rs:=[0,6]) (by kernel_rfl) (by simp) ?_;refine AllReadyIn.cons rfl (fun Kk hKk=> ?_) (AllReadyIn.cons rfl (fun Kk hKk=> ?_) AllReadyIn.nil)
   ·go_simp;refine hKk _ _ ?_;clear hKk Kk
    refine wpAnyIn_ready (rs:=[6]) (by kernel_rfl) (by simp) ?_;refine AllReadyIn.cons rfl (fun Kk hKk=> ?_) AllReadyIn.nil;go_simp;refine hKk _ _ ?_;clear hKk Kk
    refine wpAnyIn_ready (rs:=[7]) (by kernel_rfl) (by simp) ?_;refine AllReadyIn.cons rfl (fun Kk hKk=> ?_) AllReadyIn.nil;refine zU _ rfl (.tmp 40) (.tmp 46) 34 rfl z 5 iB0 (.int .u8 0) 1 1 Tryz.underlying34 iB.1 iB.2.1 iB.2.2.1 iB.2.2.2 rfl (by decide) v (a - o) _ rfl HR3.out.row ⟨g,fx,none⟩ (tx - fx) (c - fx) (zc ((C.drop (64*F+a)).take (tx - fx))) rfl HLEN.out HSRC.out (xe _) (by unfold maxLen;omega) (by omega) HZS.out (by omega) ?_;intro g5 cap5 w5 hown5 hgrow5 hat5;have hN5:=HR3.out.next hyz hwz hS hK hat' rfl hown5 hgrow5 hat5;have hb5:=HR3.out.bo.kept hgrow5 HR3.out.nob;have e5:=hb5.cell;have f5:=hb5.frozen;refine hKk _ _ ?_;clear hKk Kk;refine wpAnyIn_ready (rs:=[8]) (by kernel_rfl) (by simp) ?_;refine AllReadyIn.cons rfl (fun Kk hKk=> ?_) AllReadyIn.nil;go_simp
    refine hKk _ _ ?_;clear hKk Kk;refine wpAnyIn_done (by kernel_rfl) ?_ _;exact (show _∧_∧_ from ⟨hN5.1.trans HL2.out,HK2.out.trans hN5.2.1,_,_,HNX.out,hN5.2.2⟩)
   go_simp;refine hKk _ _ ?_;clear hKk Kk
   refine wpAnyIn_ready (rs:=[0]) (by kernel_rfl) (by simp) ?_;refine AllReadyIn.cons rfl (fun Kk hKk=> ?_) AllReadyIn.nil;go_simp;refine hKk _ _ ?_;clear hKk Kk
   refine wpAnyIn_ready (rs:=[7]) (by kernel_rfl) (by simp) ?_;refine AllReadyIn.cons rfl (fun Kk hKk=> ?_) AllReadyIn.nil;refine zU _ rfl (.tmp 40) (.tmp 46) 34 rfl z 5 iB0 (.int .u8 0) 1 1 Tryz.underlying34 iB.1 iB.2.1 iB.2.2.1 iB.2.2.2 rfl (by decide) v (a - o) _ rfl HR3.out.row ⟨g,fx,none⟩ (tx - fx) (c - fx) (zc ((C.drop (64*F+a)).take (tx - fx))) rfl HLEN.out HSRC.out (xe _) (by unfold maxLen;omega) (by omega) HZS.out (by omega) ?_;intro g5 cap5 w5 hown5 hgrow5 hat5;have hN5:=HR3.out.next hyz hwz hS hK hat' rfl hown5 hgrow5 hat5;have hb5:=HR3.out.bo.kept hgrow5 HR3.out.nob;have e5:=hb5.cell;have f5:=hb5.frozen;refine hKk _ _ ?_;clear hKk Kk;refine wpAnyIn_ready (rs:=[8]) (by kernel_rfl) (by simp) ?_;refine AllReadyIn.cons rfl (fun Kk hKk=> ?_) AllReadyIn.nil;go_simp
   refine hKk _ _ ?_;clear hKk Kk;refine wpAnyIn_done (by kernel_rfl) ?_ _;exact (show _∧_∧_ from ⟨hN5.1.trans HL2.out,HK2.out.trans hN5.2.1,_,_,HNX.out,hN5.2.2⟩)
  go_simp;refine hKk _ _ ?_;clear hKk Kk
  refine wpAnyIn_ready (rs:=[0,3]) (by kernel_rfl) (by simp) ?_;refine AllReadyIn.cons rfl (fun Kk hKk=> ?_) (AllReadyIn.cons rfl (fun Kk hKk=> ?_) AllReadyIn.nil)
  ·go_simp;refine hKk _ _ ?_;clear hKk Kk
   refine wpAnyIn_ready (rs:=[3]) (by kernel_rfl) (by simp) ?_;refine AllReadyIn.cons rfl (fun Kk hKk=> ?_) AllReadyIn.nil;go_simp;refine hKk _ _ ?_;clear hKk Kk
   refine wpAnyIn_ready (rs:=[6]) (by kernel_rfl) (by simp) ?_;refine AllReadyIn.cons rfl (fun Kk hKk=> ?_) AllReadyIn.nil;go_simp;refine hKk _ _ ?_;clear hKk Kk
   refine wpAnyIn_ready (rs:=[7]) (by kernel_rfl) (by simp) ?_;refine AllReadyIn.cons rfl (fun Kk hKk=> ?_) AllReadyIn.nil;refine zU _ rfl (.tmp 40) (.tmp 46) 34 rfl z 5 iB0 (.int .u8 0) 1 1 Tryz.underlying34 iB.1 iB.2.1 iB.2.2.1 iB.2.2.2 rfl (by decide) v (a - o) _ rfl HR3.out.row ⟨g,fx,none⟩ (tx - fx) (c - fx) (zc ((C.drop (64*F+a)).take (tx - fx))) rfl HLEN.out HSRC.out (xe _) (by unfold maxLen;omega) (by omega) HZS.out (by omega) ?_;intro g5 cap5 w5 hown5 hgrow5 hat5;have hN5:=HR3.out.next hyz hwz hS hK hat' rfl hown5 hgrow5 hat5;have hb5:=HR3.out.bo.kept hgrow5 HR3.out.nob;have e5:=hb5.cell;have f5:=hb5.frozen;refine hKk _ _ ?_;clear hKk Kk;refine wpAnyIn_ready (rs:=[8]) (by kernel_rfl) (by simp) ?_;refine AllReadyIn.cons rfl (fun Kk hKk=> ?_) AllReadyIn.nil;go_simp
   refine hKk _ _ ?_;clear hKk Kk;refine wpAnyIn_done (by kernel_rfl) ?_ _;exact (show _∧_∧_ from ⟨hN5.1.trans HL2.out,HK2.out.trans hN5.2.1,_,_,HNX.out,hN5.2.2⟩)
  go_simp;refine hKk _ _ ?_;clear hKk Kk
  refine wpAnyIn_ready (rs:=[0,6]) (by kernel_rfl) (by simp) ?_;refine AllReadyIn.cons rfl (fun Kk hKk=> ?_) (AllReadyIn.cons rfl (fun Kk hKk=> ?_) AllReadyIn.nil)
  ·go_simp;refine hKk _ _ ?_;clear hKk Kk
   refine wpAnyIn_ready (rs:=[6]) (by kernel_rfl) (by simp) ?_;refine AllReadyIn.cons rfl (fun Kk hKk=> ?_) AllReadyIn.nil;go_simp;refine hKk _ _ ?_;clear hKk Kk
   refine wpAnyIn_ready (rs:=[7]) (by kernel_rfl) (by simp) ?_;refine AllReadyIn.cons rfl (fun Kk hKk=> ?_) AllReadyIn.nil;refine zU _ rfl (.tmp 40) (.tmp 46) 34 rfl z 5 iB0 (.int .u8 0) 1 1 Tryz.underlying34 iB.1 iB.2.1 iB.2.2.1 iB.2.2.2 rfl (by decide) v (a - o) _ rfl HR3.out.row ⟨g,fx,none⟩ (tx - fx) (c - fx) (zc ((C.drop (64*F+a)).take (tx - fx))) rfl HLEN.out HSRC.out (xe _) (by unfold maxLen;omega) (by omega) HZS.out (by omega) ?_;intro g5 cap5 w5 hown5 hgrow5 hat5;have hN5:=HR3.out.next hyz hwz hS hK hat' rfl hown5 hgrow5 hat5;have hb5:=HR3.out.bo.kept hgrow5 HR3.out.nob;have e5:=hb5.cell;have f5:=hb5.frozen;refine hKk _ _ ?_;clear hKk Kk;refine wpAnyIn_ready (rs:=[8]) (by kernel_rfl) (by simp) ?_;refine AllReadyIn.cons rfl (fun Kk hKk=> ?_) AllReadyIn.nil;go_simp
   refine hKk _ _ ?_;clear hKk Kk;refine wpAnyIn_done (by kernel_rfl) ?_ _;exact (show _∧_∧_ from ⟨hN5.1.trans HL2.out,HK2.out.trans hN5.2.1,_,_,HNX.out,hN5.2.2⟩)
  go_simp;refine hKk _ _ ?_;clear hKk Kk
  refine wpAnyIn_ready (rs:=[0]) (by kernel_rfl) (by simp) ?_;refine AllReadyIn.cons rfl (fun Kk hKk=> ?_) AllReadyIn.nil;go_simp;refine hKk _ _ ?_;clear hKk Kk
  refine wpAnyIn_ready (rs:=[7]) (by kernel_rfl) (by simp) ?_;refine AllReadyIn.cons rfl (fun Kk hKk=> ?_) AllReadyIn.nil;refine zU _ rfl (.tmp 40) (.tmp 46) 34 rfl z 5 iB0 (.int .u8 0) 1 1 Tryz.underlying34 iB.1 iB.2.1 iB.2.2.1 iB.2.2.2 rfl (by decide) v (a - o) _ rfl HR3.out.row ⟨g,fx,none⟩ (tx - fx) (c - fx) (zc ((C.drop (64*F+a)).take (tx - fx))) rfl HLEN.out HSRC.out (xe _) (by unfold maxLen;omega) (by omega) HZS.out (by omega) ?_;intro g5 cap5 w5 hown5 hgrow5 hat5;have hN5:=HR3.out.next hyz hwz hS hK hat' rfl hown5 hgrow5 hat5;have hb5:=HR3.out.bo.kept hgrow5 HR3.out.nob;have e5:=hb5.cell;have f5:=hb5.frozen;refine hKk _ _ ?_;clear hKk Kk;refine wpAnyIn_ready (rs:=[8]) (by kernel_rfl) (by simp) ?_;refine AllReadyIn.cons rfl (fun Kk hKk=> ?_) AllReadyIn.nil;go_simp
  refine hKk _ _ ?_;clear hKk Kk;refine wpAnyIn_done (by kernel_rfl) ?_ _;exact (show _∧_∧_ from ⟨hN5.1.trans HL2.out,HK2.out.trans hN5.2.1,_,_,HNX.out,hN5.2.2⟩)
 case done =>
  rintro xs G W rfl ⟨v,a,hp,hR⟩;have hnl:¬ a<o+m:=fun h=>by
   rw [vq F a (o+m) h] at hp;have:=congrArg List.length hp;simp at this
  obtain rfl:a=o+m:=by have:=hR.hi;omega
  have hrow:=hR.row;rw [show o+m - o=m by omega] at hrow;obtain ⟨ao,co,rfl⟩:∃ a' c',v= .slice a' m c':=by
   rcases hrow.2 with ⟨rfl,h⟩ | ⟨g,cap,cur,rfl,_⟩
   ·exact ⟨none,0,by rw [h]⟩
   exact ⟨_,cap,rfl⟩
  have b0:=hR.b2;have b1:=hR.b3;have b2:=hR.bo;have hd:=hR.df;have e0:=b0.cell;have f0:=b0.frozen;have e1:=b1.cell;have f1:=b1.frozen;have e2:=b2.cell;have HR4:=KZ9 hR;have HRW:=KZ9 hrow;clear hp hnl hR hrow
  gi_wp2
  have hd':((W.setCell ⟨z+2,0,none⟩ (.slice ao m co)).setCell ⟨z+3,0,none⟩ (.int .i64 0)).heap[y+5]? =some (.deferred (some [])) :=
   ((Below.heap_setCell _ _ _ _ (by simp;omega)).trans (Below.heap_setCell _ _ _ _ (by simp;omega))).trans hd
  have d0:=((b0.set (.slice ao m co)).other (B':=z+3) (by omega) (.int .i64 0)).kept (grownBy_putObj' _ (y+5) (.deferred none)) (by simp;omega);have d1:=((b1.other (B':=z+2) (by omega) (.slice ao m co)).set (.int .i64 0)).kept (grownBy_putObj' _ (y+5) (.deferred none)) (by simp;omega);have g1:=grown_setCell W (z+2) 0 (.slice ao m co);have g2:=grown_setCell (W.setCell ⟨z+2,0,none⟩ (.slice ao m co)) (z+3) 0 (.int .i64 0);have g3:=grownBy_putObj' ((W.setCell ⟨z+2,0,none⟩ (.slice ao m co)).setCell ⟨z+3,0,none⟩ (.int .i64 0)) (y+5) (.deferred none);have n1:=Boxed.not_row b0 (by decide) HRW.out;have n2:=Boxed.not_row (b1.other (B':=z+2) (by omega) (.slice ao m co)) (by decide) (HRW.out.kept g1 (own_ne' fun k e=>by rw [←e];exact n1.symm));have n3:(Value.slice ao m co).ownBlock≠some (y+5):=by
   intro e;rcases HRW.out.2 with ⟨e2,_⟩ | ⟨g',cap',cur,e2,_,hgg,_⟩
   ·rw [e2] at e;cases e
   rw [e2] at e;have e3:g'=y+5:=by simpa [Value.ownBlock] using e
   subst e3;have:=hd.symm.trans hgg;cases this
  have hrow2:=((HRW.out.kept g1 (own_ne' fun k e=>by rw [←e];exact n1.symm)).kept g2 (own_ne' fun k e=>by rw [←e];exact n2.symm)).kept g3 (own_ne' fun k e=>by rw [←e];exact n3);have sep:∀ j,z≤j→¬ I.S j∧¬ K j:=fun j hj=>⟨fun h=>by have:=hS j h;omega,fun h=>by have:=hK j h;omega⟩;have hdk:=((HR4.out.dk.grown g1 (fun r e=>by cases e;exact sep _ (by omega))).grown g2 (fun r e=>by cases e;exact sep _ (by omega))).grown g3 (fun r e=>by cases e;exact sep _ (by omega));have hbt:=((HR4.out.but.grown g1 (fun k e=> .inr (by cases e;omega))).grown g2 (fun k e=> .inr (by cases e;omega))).grown g3 (fun k e=> .inr (by cases e;omega));refine ⟨by simp,.inl ⟨_,_,rfl,run_takeDeferred hd',?_⟩⟩;refine ⟨.tuple #[.slice ao m co,.int .i64 0],?_,.slice ao m co,rfl,?_,hdk,hbt⟩
  ·have e0:=d0.cell;have e1:=d1.cell;simp [results,Tryz.f192,go_sem,e0,e1]
  rw [←HZ.out];exact hrow2
 case stop =>
  rintro c pre G W' _ h;exact h.elim
end Go.Proofs.YtbnnlkdhpifpeaaGreatDoor
