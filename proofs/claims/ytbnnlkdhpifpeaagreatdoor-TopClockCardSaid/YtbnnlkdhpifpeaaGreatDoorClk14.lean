/- What the proof of TopClock uses, part Clk14. -/
import Derived.Test.YtbnnlkdhpifpeaaGreatDoorClk13
set_option linter.unusedSimpArgs false
set_option linter.unusedVariables false
namespace Go.Proofs.YtbnnlkdhpifpeaaGreatDoor
open Go.RowKit Hs
set_option maxHeartbeats 1000000
theorem cT (g:Nat) (s:ByteArray) (i n m:Nat) (nm:Bs) (w:World) (hp:PAt w g s i) (hi:i≤s.size) (hs:s.size≤100000000) (hn:n=zm (un s) i) (hm:m=zn (un s) n) (hnm:n≤m) (hms:m≤s.size) (hnmv:nm=zt (seg (un s) i n)) (hin:¬ i<n):Calls Tryz.prog 151 #[.pointer (some ⟨g,0,none⟩)] w fun e w'=>e= .returned (.tuple #[vz (nm,[],false),.bool false])∧PAt w' g s m∧w.grownBy w' (some g):=by
 have hlow:Hid (∀ W:World,Calls Tryz.prog 80 #[.string (mk (seg (un s) i n))] W fun e w'=>e= .returned (.string (mk nm))∧Below W.heap.size W w'):=KZ9 fun W=>by
  have:=yw (mk (seg (un s) i n)) W (by rw [zi];unfold seg;rw [List.length_take,List.length_drop,za];omega);rw [zk,←hnmv] at this;exact this
 have HN:=KZ9 hn;have HM:=KZ9 hm;have hgl:=hp.lt;clear hn hm hnmv;have OK:=KZ9 (KZ8 hin);clear hin;go_enter Tryz.func151,Tryz.ntmps151
 go_wp2_with fail
 refine (uw g s i _ (hp.alloc _) hi hs).mono ?_;rintro e w1 ⟨rfl,p1,hg1⟩;rw [←HN.out,OK.out];rw [←HN.out] at p1;have r1:=(Blk3.new w 177 (.string ⟨#[]⟩) (.string ⟨#[]⟩) (.bool false)).grown hg1 (by simp;omega);have G1:=zu (yv (xV w (some g)) _) hg1;have hbl:=r1.lt;clear hg1;go_wp2_with fail
 refine (hlow.out _).mono ?_;rintro e w2 ⟨rfl,hb2⟩;have p2:=p1.below hb2;have r2:=r1.below hb2;have G2:=xy G1 hb2;clear p1 r1 G1;go_wp2_with fail
 have d3:=Blk3.new w2 177 (.string (mk nm)) (.string ⟨#[]⟩) (.bool false);have r3:=r2.alloc (.cells #[.string (mk nm),.string ⟨#[]⟩,.bool false] 177);have p3:=p2.alloc (.cells #[.string (mk nm),.string ⟨#[]⟩,.bool false] 177);have G3:=yv G2 (.cells #[.string (mk nm),.string ⟨#[]⟩,.bool false] 177);have hb0:w.heap.size<w2.heap.size:=r2.lt;clear p2 r2 G2 hb2 hbl;generalize w2.alloc (.cells #[.string (mk nm),.string ⟨#[]⟩,.bool false] 177)=W3 at *;generalize w2.heap.size=q at *;have hne:w.heap.size≠q:=by omega
 have hne2:q≠w.heap.size:=by omega
 have hqg:some q≠some g:=by simp;omega
 have hwg:some w.heap.size≠some g:=by simp;omega
 have hgw:g≠w.heap.size:=by omega
 have hgw2:w.heap.size≠g:=by omega
 refine (xt g s n _ p3 (by omega) hs).mono ?_;rintro e w4 ⟨rfl,p,hg4⟩;rw [←HM.out] at p;have r:=r3.grown hg4 hwg;have d:=d3.grown hg4 hqg;have G:=zu G3 hg4;clear p3 r3 d3 G3 hg4;have q0:=p.c0;have q1:=p.c1;have c0:=d.c0;have c1:=d.c1;have c2:=d.c2;have e1:=d.f1;have e2:=d.f2;have k0:=r.c0;have k1:=r.c1;have k2:=r.c2;have f0:=r.f0;have f1:=r.f1;have f2:=r.f2;go_wp2_with fail
 go_region
 all_goals go_wp2_with fail
 refine bodyPost_ret (zf rfl _ _ w.heap.size 177 _ _ rfl ((((r.drewN _).set0 _).set1 _).set2 _) Tryz.underlying177 rfl rj) rfl ?_;exact ⟨rfl,(((p.drewN _).other (by omega) 0 _).other (by omega) 1 _).other (by omega) 2 _,zM (zM (zM (ym G _) (Nat.le_refl _) 0 _) (Nat.le_refl _) 1 _) (Nat.le_refl _) 2 _⟩
theorem rT (g:Nat) (s:ByteArray) (i n m:Nat) (nm:Bs) (w:World) (hp:PAt w g s i) (hi:i≤s.size) (hs:s.size≤100000000) (hn:n=zm (un s) i) (hm:m=zn (un s) n) (hnm:n≤m) (hms:m≤s.size) (hnmv:nm=zt (seg (un s) i n)) (hin:i<n) (ha:atN (un s) m≠61) (hend:m=s.size):Calls Tryz.prog 151 #[.pointer (some ⟨g,0,none⟩)] w fun e w'=>e= .returned (.tuple #[vz (nm,[],false),.bool true])∧PAt w' g s m∧w.grownBy w' (some g):=by
 have hlow:Hid (∀ W:World,Calls Tryz.prog 80 #[.string (mk (seg (un s) i n))] W fun e w'=>e= .returned (.string (mk nm))∧Below W.heap.size W w'):=KZ9 fun W=>by
  have:=yw (mk (seg (un s) i n)) W (by rw [zi];unfold seg;rw [List.length_take,List.length_drop,za];omega);rw [zk,←hnmv] at this;exact this
 have HN:=KZ9 hn;have HM:=KZ9 hm;have hgl:=hp.lt;clear hn hm hnmv;have OK:=KZ9 (KZ7 (by omega:i<n));have hda:=KZ9 (KZ8 ha);have HA:=KZ9 ha;clear ha;subst hend;have hmf:((s.size:Int)==(s.size:Int))=true:=by simp
 go_enter Tryz.func151,Tryz.ntmps151
 go_wp2_with fail
 refine (uw g s i _ (hp.alloc _) hi hs).mono ?_;rintro e w1 ⟨rfl,p1,hg1⟩;rw [←HN.out,OK.out];rw [←HN.out] at p1;have r1:=(Blk3.new w 177 (.string ⟨#[]⟩) (.string ⟨#[]⟩) (.bool false)).grown hg1 (by simp;omega);have G1:=zu (yv (xV w (some g)) _) hg1;have hbl:=r1.lt;clear hg1;go_wp2_with fail
 refine (hlow.out _).mono ?_;rintro e w2 ⟨rfl,hb2⟩;have p2:=p1.below hb2;have r2:=r1.below hb2;have G2:=xy G1 hb2;clear p1 r1 G1;go_wp2_with fail
 have d3:=Blk3.new w2 177 (.string (mk nm)) (.string ⟨#[]⟩) (.bool false);have r3:=r2.alloc (.cells #[.string (mk nm),.string ⟨#[]⟩,.bool false] 177);have p3:=p2.alloc (.cells #[.string (mk nm),.string ⟨#[]⟩,.bool false] 177);have G3:=yv G2 (.cells #[.string (mk nm),.string ⟨#[]⟩,.bool false] 177);have hb0:w.heap.size<w2.heap.size:=r2.lt;clear p2 r2 G2 hb2 hbl;generalize w2.alloc (.cells #[.string (mk nm),.string ⟨#[]⟩,.bool false] 177)=W3 at *;generalize w2.heap.size=q at *;have hne:w.heap.size≠q:=by omega
 have hne2:q≠w.heap.size:=by omega
 have hqg:some q≠some g:=by simp;omega
 have hwg:some w.heap.size≠some g:=by simp;omega
 have hgw:g≠w.heap.size:=by omega
 have hgw2:w.heap.size≠g:=by omega
 refine (xt g s n _ p3 (by omega) hs).mono ?_;rintro e w4 ⟨rfl,p,hg4⟩;rw [←HM.out] at p;have r:=r3.grown hg4 hwg;have d:=d3.grown hg4 hqg;have G:=zu G3 hg4;clear p3 r3 d3 G3 hg4;have q0:=p.c0;have q1:=p.c1;have c0:=d.c0;have c1:=d.c1;have c2:=d.c2;have e1:=d.f1;have e2:=d.f2;have k0:=r.c0;have k1:=r.c1;have k2:=r.c2;have f0:=r.f0;have f1:=r.f1;have f2:=r.f2;go_wp2_with fail
 refine (uV g s s.size 61 _ p hms hs (by decide)).mono ?_;rintro e w5 ⟨rfl,p5,hg5⟩;rw [if_neg HA.out] at p5;rw [hda.out];have r5:=r.grown hg5 hwg;have d5:=d.grown hg5 hqg;have G5:=zu G hg5;clear hg5 p r d G q0 q1 c0 c1 c2 e1 e2 k0 k1 k2 f0 f1 f2;have p:=p5;have r:=r5;have d:=d5;have G:=G5;clear p5 r5 d5 G5;have q0:=p.c0;have q1:=p.c1;have c0:=d.c0;have c1:=d.c1;have c2:=d.c2;have e1:=d.f1;have e2:=d.f2;have k0:=r.c0;have k1:=r.c1;have k2:=r.c2;have f0:=r.f0;have f1:=r.f1;have f2:=r.f2;go_wp2_with fail
 go_region
 all_goals go_wp2_with fail
 refine bodyPost_ret (zf rfl _ _ w.heap.size 177 _ _ rfl ((((r.drewN _).set0 _).set1 _).set2 _) Tryz.underlying177 rfl rj) rfl ?_;exact ⟨rfl,(((p.drewN _).other (by omega) 0 _).other (by omega) 1 _).other (by omega) 2 _,zM (zM (zM (ym G _) (Nat.le_refl _) 0 _) (Nat.le_refl _) 1 _) (Nat.le_refl _) 2 _⟩
theorem kx (g:Nat) (s:ByteArray) (i n m:Nat) (nm:Bs) (w:World) (hp:PAt w g s i) (hi:i≤s.size) (hs:s.size≤100000000) (hn:n=zm (un s) i) (hm:m=zn (un s) n) (hnm:n≤m) (hms:m≤s.size) (hnmv:nm=zt (seg (un s) i n)) (hin:i<n) (ha:atN (un s) m≠61) (hend:m<s.size):Calls Tryz.prog 151 #[.pointer (some ⟨g,0,none⟩)] w fun e w'=>e= .returned (.tuple #[vz (nm,[],false),.bool (decide (atN (un s) m=59))])∧PAt w' g s m∧w.grownBy w' (some g):=by
 have hlow:Hid (∀ W:World,Calls Tryz.prog 80 #[.string (mk (seg (un s) i n))] W fun e w'=>e= .returned (.string (mk nm))∧Below W.heap.size W w'):=KZ9 fun W=>by
  have:=yw (mk (seg (un s) i n)) W (by rw [zi];unfold seg;rw [List.length_take,List.length_drop,za];omega);rw [zk,←hnmv] at this;exact this
 have HN:=KZ9 hn;have HM:=KZ9 hm;have hgl:=hp.lt;clear hn hm hnmv;have OK:=KZ9 (KZ7 (by omega:i<n));have hda:=KZ9 (KZ8 ha);have HA:=KZ9 ha;clear ha;go_enter Tryz.func151,Tryz.ntmps151
 go_wp2_with fail
 refine (uw g s i _ (hp.alloc _) hi hs).mono ?_;rintro e w1 ⟨rfl,p1,hg1⟩;rw [←HN.out,OK.out];rw [←HN.out] at p1;have r1:=(Blk3.new w 177 (.string ⟨#[]⟩) (.string ⟨#[]⟩) (.bool false)).grown hg1 (by simp;omega);have G1:=zu (yv (xV w (some g)) _) hg1;have hbl:=r1.lt;clear hg1;go_wp2_with fail
 refine (hlow.out _).mono ?_;rintro e w2 ⟨rfl,hb2⟩;have p2:=p1.below hb2;have r2:=r1.below hb2;have G2:=xy G1 hb2;clear p1 r1 G1;go_wp2_with fail
 have d3:=Blk3.new w2 177 (.string (mk nm)) (.string ⟨#[]⟩) (.bool false);have r3:=r2.alloc (.cells #[.string (mk nm),.string ⟨#[]⟩,.bool false] 177);have p3:=p2.alloc (.cells #[.string (mk nm),.string ⟨#[]⟩,.bool false] 177);have G3:=yv G2 (.cells #[.string (mk nm),.string ⟨#[]⟩,.bool false] 177);have hb0:w.heap.size<w2.heap.size:=r2.lt;clear p2 r2 G2 hb2 hbl;generalize w2.alloc (.cells #[.string (mk nm),.string ⟨#[]⟩,.bool false] 177)=W3 at *;generalize w2.heap.size=q at *;have hne:w.heap.size≠q:=by omega
 have hne2:q≠w.heap.size:=by omega
 have hqg:some q≠some g:=by simp;omega
 have hwg:some w.heap.size≠some g:=by simp;omega
 have hgw:g≠w.heap.size:=by omega
 have hgw2:w.heap.size≠g:=by omega
 refine (xt g s n _ p3 (by omega) hs).mono ?_;rintro e w4 ⟨rfl,p,hg4⟩;rw [←HM.out] at p;have r:=r3.grown hg4 hwg;have d:=d3.grown hg4 hqg;have G:=zu G3 hg4;clear p3 r3 d3 G3 hg4;have q0:=p.c0;have q1:=p.c1;have c0:=d.c0;have c1:=d.c1;have c2:=d.c2;have e1:=d.f1;have e2:=d.f2;have k0:=r.c0;have k1:=r.c1;have k2:=r.c2;have f0:=r.f0;have f1:=r.f1;have f2:=r.f2;go_wp2_with fail
 refine (uV g s m 61 _ p hms hs (by decide)).mono ?_;rintro e w5 ⟨rfl,p5,hg5⟩;rw [if_neg HA.out] at p5;rw [hda.out];have r5:=r.grown hg5 hwg;have d5:=d.grown hg5 hqg;have G5:=zu G hg5;clear hg5 p r d G q0 q1 c0 c1 c2 e1 e2 k0 k1 k2 f0 f1 f2;have p:=p5;have r:=r5;have d:=d5;have G:=G5;clear p5 r5 d5 G5;have q0:=p.c0;have q1:=p.c1;have c0:=d.c0;have c1:=d.c1;have c2:=d.c2;have e1:=d.f1;have e2:=d.f2;have k0:=r.c0;have k1:=r.c1;have k2:=r.c2;have f0:=r.f0;have f1:=r.f1;have f2:=r.f2;go_wp2_with fail
 have hmf:((m:Int)==(s.size:Int))=false:=by simp;omega
 go_region_held3 (fun w'=>w'.cell? ⟨g,0,none⟩=some (.string s)∧w'.cell? ⟨g,1,none⟩=some (.int .i64 (m:Int))∧w'.cell? ⟨q,0,none⟩=some (.string (mk nm))∧w'.cell? ⟨q,1,none⟩=some (.string ⟨#[]⟩)∧w'.cell? ⟨q,2,none⟩=some (.bool false)) (go_keep) (first | (go_at_call 215;refine (XB g s m 59 _ (by exact p) (by omega) hs (by decide)).mono ?_;rintro e w' ⟨rfl,mq,rfl⟩))
 all_goals go_wp2_with fail
 refine bodyPost_ret (zf rfl _ _ w.heap.size 177 _ _ rfl ((((r.drewN _).set0 _).set1 _).set2 _) Tryz.underlying177 rfl rj) rfl ?_;exact ⟨rfl,(((p.drewN _).other (by omega) 0 _).other (by omega) 1 _).other (by omega) 2 _,zM (zM (zM (ym G _) (Nat.le_refl _) 0 _) (Nat.le_refl _) 1 _) (Nat.le_refl _) 2 _⟩
theorem gv (g:Nat) (s:ByteArray) (i n m:Nat) (nm:Bs) (w:World) (hp:PAt w g s i) (hi:i≤s.size) (hs:s.size≤100000000) (hn:n=zm (un s) i) (hm:m=zn (un s) n) (hnm:n≤m) (hms:m≤s.size) (hnmv:nm=zt (seg (un s) i n)) (hin:i<n) (k:Nat) (hk:k=zn (un s) (m+1)) (hks:k≤s.size) (ha:atN (un s) m=61) (hend:m<s.size) (v:Bs) (n2 j:Nat) (hv:t6 (un s) k=some (v,n2)) (hn2:n2≤s.size) (hj:j=zn (un s) n2) (hjs:j<s.size):Calls Tryz.prog 151 #[.pointer (some ⟨g,0,none⟩)] w fun e w'=>e= .returned (.tuple #[vz (nm,v,true),.bool (decide (atN (un s) j=59))])∧PAt w' g s j∧w.grownBy w' (some g):=by
 have hlow:Hid (∀ W:World,Calls Tryz.prog 80 #[.string (mk (seg (un s) i n))] W fun e w'=>e= .returned (.string (mk nm))∧Below W.heap.size W w'):=KZ9 fun W=>by
  have:=yw (mk (seg (un s) i n)) W (by rw [zi];unfold seg;rw [List.length_take,List.length_drop,za];omega);rw [zk,←hnmv] at this;exact this
 have HN:=KZ9 hn;have HM:=KZ9 hm;have hgl:=hp.lt;clear hn hm hnmv;have OK:=KZ9 (KZ7 (by omega:i<n));have hda:=KZ9 (KZ7 ha);have HA:=KZ9 ha;have HK:=KZ9 hk;clear ha hk;have HV:=KZ9 hv;have HJ:=KZ9 hj;clear hv hj;have hv:=HV;go_enter Tryz.func151,Tryz.ntmps151
 go_wp2_with fail
 refine (uw g s i _ (hp.alloc _) hi hs).mono ?_;rintro e w1 ⟨rfl,p1,hg1⟩;rw [←HN.out,OK.out];rw [←HN.out] at p1;have r1:=(Blk3.new w 177 (.string ⟨#[]⟩) (.string ⟨#[]⟩) (.bool false)).grown hg1 (by simp;omega);have G1:=zu (yv (xV w (some g)) _) hg1;have hbl:=r1.lt;clear hg1;go_wp2_with fail
 refine (hlow.out _).mono ?_;rintro e w2 ⟨rfl,hb2⟩;have p2:=p1.below hb2;have r2:=r1.below hb2;have G2:=xy G1 hb2;clear p1 r1 G1;go_wp2_with fail
 have d3:=Blk3.new w2 177 (.string (mk nm)) (.string ⟨#[]⟩) (.bool false);have r3:=r2.alloc (.cells #[.string (mk nm),.string ⟨#[]⟩,.bool false] 177);have p3:=p2.alloc (.cells #[.string (mk nm),.string ⟨#[]⟩,.bool false] 177);have G3:=yv G2 (.cells #[.string (mk nm),.string ⟨#[]⟩,.bool false] 177);have hb0:w.heap.size<w2.heap.size:=r2.lt;clear p2 r2 G2 hb2 hbl;generalize w2.alloc (.cells #[.string (mk nm),.string ⟨#[]⟩,.bool false] 177)=W3 at *;generalize w2.heap.size=q at *;have hne:w.heap.size≠q:=by omega
 have hne2:q≠w.heap.size:=by omega
 have hqg:some q≠some g:=by simp;omega
 have hwg:some w.heap.size≠some g:=by simp;omega
 have hgw:g≠w.heap.size:=by omega
 have hgw2:w.heap.size≠g:=by omega
 refine (xt g s n _ p3 (by omega) hs).mono ?_;rintro e w4 ⟨rfl,p,hg4⟩;rw [←HM.out] at p;have r:=r3.grown hg4 hwg;have d:=d3.grown hg4 hqg;have G:=zu G3 hg4;clear p3 r3 d3 G3 hg4;have q0:=p.c0;have q1:=p.c1;have c0:=d.c0;have c1:=d.c1;have c2:=d.c2;have e1:=d.f1;have e2:=d.f2;have k0:=r.c0;have k1:=r.c1;have k2:=r.c2;have f0:=r.f0;have f1:=r.f1;have f2:=r.f2;go_wp2_with fail
 refine (uV g s m 61 _ p hms hs (by decide)).mono ?_;rintro e w5 ⟨rfl,p5,hg5⟩;rw [if_pos HA.out] at p5;rw [hda.out];have r5:=r.grown hg5 hwg;have d5:=d.grown hg5 hqg;have G5:=zu G hg5;clear hg5 p r d G q0 q1 c0 c1 c2 e1 e2 k0 k1 k2 f0 f1 f2;have p:=p5;have r:=r5;have d:=d5;have G:=G5;clear p5 r5 d5 G5;have q0:=p.c0;have q1:=p.c1;have c0:=d.c0;have c1:=d.c1;have c2:=d.c2;have e1:=d.f1;have e2:=d.f2;have k0:=r.c0;have k1:=r.c1;have k2:=r.c2;have f0:=r.f0;have f1:=r.f1;have f2:=r.f2;go_wp2_with fail
 refine (xt g s (m+1) _ p (by omega) hs).mono ?_;rintro e w6 ⟨rfl,p6,hg6⟩;rw [←HK.out] at p6;have r6:=r.grown hg6 hwg;have d6:=d.grown hg6 hqg;have G6:=zu G hg6;clear hg6 p r d G q0 q1 c0 c1 c2 e1 e2 k0 k1 k2 f0 f1 f2;have p:=p6;have r:=r6;have d:=d6;have G:=G6;clear p6 r6 d6 G6;have q0:=p.c0;have q1:=p.c1;have c0:=d.c0;have c1:=d.c1;have c2:=d.c2;have e1:=d.f1;have e2:=d.f2;have k0:=r.c0;have k1:=r.c1;have k2:=r.c2;have f0:=r.f0;have f1:=r.f1;have f2:=r.f2;go_wp2_with fail
 have r7:=r.other (p:=q) hne 2 (.bool true);have d7:=d.set2 (.bool true);have p7:=p.other (p:=q) (by omega) 2 (.bool true);have G7:=zM G (b:=q) (by omega) 2 (.bool true);clear r d p G q0 q1 c0 c1 c2 e1 e2 k0 k1 k2 f0 f1 f2;generalize w6.setCell ⟨q,2,none⟩ (.bool true)=W7 at *;have p:=p7;have r:=r7;have d:=d7;have G:=G7;clear p7 r7 d7 G7;refine (cS g s k _ p hks hs).mono ?_;rintro e w8 ⟨rfl,p8,hg8⟩;rw [hv.out] at p8 ⊢;simp only [bS,vat] at p8 ⊢;have r8:=r.grown hg8 hwg;have d8:=d.grown hg8 hqg;have G8:=zu G hg8;clear hg8 p r d G;have p:=p8;have r:=r8;have d:=d8;have G:=G8;clear p8 r8 d8 G8;have q0:=p.c0;have q1:=p.c1;have c0:=d.c0;have c1:=d.c1;have c2:=d.c2;have e1:=d.f1;have e2:=d.f2;have k0:=r.c0;have k1:=r.c1;have k2:=r.c2;have f0:=r.f0;have f1:=r.f1;have f2:=r.f2;go_wp2_with fail
 have r9:=r.other (p:=q) hne 1 (.string (mk v));have d9:=d.set1 (.string (mk v));have p9:=p.other (p:=q) (by omega) 1 (.string (mk v));have G9:=zM G (b:=q) (by omega) 1 (.string (mk v));clear r d p G q0 q1 c0 c1 c2 e1 e2 k0 k1 k2 f0 f1 f2;generalize w8.setCell ⟨q,1,none⟩ (.string (mk v))=W9 at *;have p:=p9;have r:=r9;have d:=d9;have G:=G9;clear p9 r9 d9 G9;refine (xt g s n2 _ p (by omega) hs).mono ?_;rintro e w10 ⟨rfl,p10,hg10⟩;rw [←HJ.out] at p10;have r10:=r.grown hg10 hwg;have d10:=d.grown hg10 hqg;have G10:=zu G hg10;clear hg10 p r d G;have p:=p10;have r:=r10;have d:=d10;have G:=G10;clear p10 r10 d10 G10;have q0:=p.c0;have q1:=p.c1;have c0:=d.c0;have c1:=d.c1;have c2:=d.c2;have e1:=d.f1;have e2:=d.f2;have k0:=r.c0;have k1:=r.c1;have k2:=r.c2;have f0:=r.f0;have f1:=r.f1;have f2:=r.f2;go_wp2_with fail
 have hmf:((j:Int)==(s.size:Int))=false:=by simp;omega
 go_region_held3 (fun w'=>w'.cell? ⟨g,0,none⟩=some (.string s)∧w'.cell? ⟨g,1,none⟩=some (.int .i64 (j:Int))∧w'.cell? ⟨q,0,none⟩=some (.string (mk nm))∧w'.cell? ⟨q,1,none⟩=some (.string (mk v))∧w'.cell? ⟨q,2,none⟩=some (.bool true)) (go_keep) (first | (go_at_call 215;refine (XB g s j 59 _ (by exact p) (by omega) hs (by decide)).mono ?_;rintro e w' ⟨rfl,mq,rfl⟩))
 all_goals go_wp2_with fail
 refine bodyPost_ret (zf rfl _ _ w.heap.size 177 _ _ rfl ((((r.drewN _).set0 _).set1 _).set2 _) Tryz.underlying177 rfl rj) rfl ?_;exact ⟨rfl,(((p.drewN _).other (by omega) 0 _).other (by omega) 1 _).other (by omega) 2 _,zM (zM (zM (ym G _) (Nat.le_refl _) 0 _) (Nat.le_refl _) 1 _) (Nat.le_refl _) 2 _⟩
theorem qB (g:Nat) (s:ByteArray) (i n m:Nat) (nm:Bs) (w:World) (hp:PAt w g s i) (hi:i≤s.size) (hs:s.size≤100000000) (hn:n=zm (un s) i) (hm:m=zn (un s) n) (hnm:n≤m) (hms:m≤s.size) (hnmv:nm=zt (seg (un s) i n)) (hin:i<n) (k:Nat) (hk:k=zn (un s) (m+1)) (hks:k≤s.size) (ha:atN (un s) m=61) (hend:m<s.size) (v:Bs) (n2 j:Nat) (hv:t6 (un s) k=some (v,n2)) (hn2:n2≤s.size) (hj:j=zn (un s) n2) (hjs:j=s.size):Calls Tryz.prog 151 #[.pointer (some ⟨g,0,none⟩)] w fun e w'=>e= .returned (.tuple #[vz (nm,v,true),.bool true])∧PAt w' g s j∧w.grownBy w' (some g):=by
 have hlow:Hid (∀ W:World,Calls Tryz.prog 80 #[.string (mk (seg (un s) i n))] W fun e w'=>e= .returned (.string (mk nm))∧Below W.heap.size W w'):=KZ9 fun W=>by
  have:=yw (mk (seg (un s) i n)) W (by rw [zi];unfold seg;rw [List.length_take,List.length_drop,za];omega);rw [zk,←hnmv] at this;exact this
 have HN:=KZ9 hn;have HM:=KZ9 hm;have hgl:=hp.lt;clear hn hm hnmv;have OK:=KZ9 (KZ7 (by omega:i<n));have hda:=KZ9 (KZ7 ha);have HA:=KZ9 ha;have HK:=KZ9 hk;clear ha hk;have HV:=KZ9 hv;have HJ:=KZ9 hj;clear hv hj;have hv:=HV;subst hjs;have hmf:((s.size:Int)==(s.size:Int))=true:=by simp
 go_enter Tryz.func151,Tryz.ntmps151
 go_wp2_with fail
 refine (uw g s i _ (hp.alloc _) hi hs).mono ?_;rintro e w1 ⟨rfl,p1,hg1⟩;rw [←HN.out,OK.out];rw [←HN.out] at p1;have r1:=(Blk3.new w 177 (.string ⟨#[]⟩) (.string ⟨#[]⟩) (.bool false)).grown hg1 (by simp;omega);have G1:=zu (yv (xV w (some g)) _) hg1;have hbl:=r1.lt;clear hg1;go_wp2_with fail
 refine (hlow.out _).mono ?_;rintro e w2 ⟨rfl,hb2⟩;have p2:=p1.below hb2;have r2:=r1.below hb2;have G2:=xy G1 hb2;clear p1 r1 G1;go_wp2_with fail
 have d3:=Blk3.new w2 177 (.string (mk nm)) (.string ⟨#[]⟩) (.bool false);have r3:=r2.alloc (.cells #[.string (mk nm),.string ⟨#[]⟩,.bool false] 177);have p3:=p2.alloc (.cells #[.string (mk nm),.string ⟨#[]⟩,.bool false] 177);have G3:=yv G2 (.cells #[.string (mk nm),.string ⟨#[]⟩,.bool false] 177);have hb0:w.heap.size<w2.heap.size:=r2.lt;clear p2 r2 G2 hb2 hbl;generalize w2.alloc (.cells #[.string (mk nm),.string ⟨#[]⟩,.bool false] 177)=W3 at *;generalize w2.heap.size=q at *;have hne:w.heap.size≠q:=by omega
 have hne2:q≠w.heap.size:=by omega
 have hqg:some q≠some g:=by simp;omega
 have hwg:some w.heap.size≠some g:=by simp;omega
 have hgw:g≠w.heap.size:=by omega
 have hgw2:w.heap.size≠g:=by omega
 refine (xt g s n _ p3 (by omega) hs).mono ?_;rintro e w4 ⟨rfl,p,hg4⟩;rw [←HM.out] at p;have r:=r3.grown hg4 hwg;have d:=d3.grown hg4 hqg;have G:=zu G3 hg4;clear p3 r3 d3 G3 hg4;have q0:=p.c0;have q1:=p.c1;have c0:=d.c0;have c1:=d.c1;have c2:=d.c2;have e1:=d.f1;have e2:=d.f2;have k0:=r.c0;have k1:=r.c1;have k2:=r.c2;have f0:=r.f0;have f1:=r.f1;have f2:=r.f2;go_wp2_with fail
 refine (uV g s m 61 _ p hms hs (by decide)).mono ?_;rintro e w5 ⟨rfl,p5,hg5⟩;rw [if_pos HA.out] at p5;rw [hda.out];have r5:=r.grown hg5 hwg;have d5:=d.grown hg5 hqg;have G5:=zu G hg5;clear hg5 p r d G q0 q1 c0 c1 c2 e1 e2 k0 k1 k2 f0 f1 f2;have p:=p5;have r:=r5;have d:=d5;have G:=G5;clear p5 r5 d5 G5;have q0:=p.c0;have q1:=p.c1;have c0:=d.c0;have c1:=d.c1;have c2:=d.c2;have e1:=d.f1;have e2:=d.f2;have k0:=r.c0;have k1:=r.c1;have k2:=r.c2;have f0:=r.f0;have f1:=r.f1;have f2:=r.f2;go_wp2_with fail
 refine (xt g s (m+1) _ p (by omega) hs).mono ?_;rintro e w6 ⟨rfl,p6,hg6⟩;rw [←HK.out] at p6;have r6:=r.grown hg6 hwg;have d6:=d.grown hg6 hqg;have G6:=zu G hg6;clear hg6 p r d G q0 q1 c0 c1 c2 e1 e2 k0 k1 k2 f0 f1 f2;have p:=p6;have r:=r6;have d:=d6;have G:=G6;clear p6 r6 d6 G6;have q0:=p.c0;have q1:=p.c1;have c0:=d.c0;have c1:=d.c1;have c2:=d.c2;have e1:=d.f1;have e2:=d.f2;have k0:=r.c0;have k1:=r.c1;have k2:=r.c2;have f0:=r.f0;have f1:=r.f1;have f2:=r.f2;go_wp2_with fail
 have r7:=r.other (p:=q) hne 2 (.bool true);have d7:=d.set2 (.bool true);have p7:=p.other (p:=q) (by omega) 2 (.bool true);have G7:=zM G (b:=q) (by omega) 2 (.bool true);clear r d p G q0 q1 c0 c1 c2 e1 e2 k0 k1 k2 f0 f1 f2;generalize w6.setCell ⟨q,2,none⟩ (.bool true)=W7 at *;have p:=p7;have r:=r7;have d:=d7;have G:=G7;clear p7 r7 d7 G7;refine (cS g s k _ p hks hs).mono ?_;rintro e w8 ⟨rfl,p8,hg8⟩;rw [hv.out] at p8 ⊢;simp only [bS,vat] at p8 ⊢;have r8:=r.grown hg8 hwg;have d8:=d.grown hg8 hqg;have G8:=zu G hg8;clear hg8 p r d G;have p:=p8;have r:=r8;have d:=d8;have G:=G8;clear p8 r8 d8 G8;have q0:=p.c0;have q1:=p.c1;have c0:=d.c0;have c1:=d.c1;have c2:=d.c2;have e1:=d.f1;have e2:=d.f2;have k0:=r.c0;have k1:=r.c1;have k2:=r.c2;have f0:=r.f0;have f1:=r.f1;have f2:=r.f2;go_wp2_with fail
 have r9:=r.other (p:=q) hne 1 (.string (mk v));have d9:=d.set1 (.string (mk v));have p9:=p.other (p:=q) (by omega) 1 (.string (mk v));have G9:=zM G (b:=q) (by omega) 1 (.string (mk v));clear r d p G q0 q1 c0 c1 c2 e1 e2 k0 k1 k2 f0 f1 f2;generalize w8.setCell ⟨q,1,none⟩ (.string (mk v))=W9 at *;have p:=p9;have r:=r9;have d:=d9;have G:=G9;clear p9 r9 d9 G9;refine (xt g s n2 _ p (by omega) hs).mono ?_;rintro e w10 ⟨rfl,p10,hg10⟩;rw [←HJ.out] at p10;have r10:=r.grown hg10 hwg;have d10:=d.grown hg10 hqg;have G10:=zu G hg10;clear hg10 p r d G;have p:=p10;have r:=r10;have d:=d10;have G:=G10;clear p10 r10 d10 G10;have q0:=p.c0;have q1:=p.c1;have c0:=d.c0;have c1:=d.c1;have c2:=d.c2;have e1:=d.f1;have e2:=d.f2;have k0:=r.c0;have k1:=r.c1;have k2:=r.c2;have f0:=r.f0;have f1:=r.f1;have f2:=r.f2;go_wp2_with fail
 go_region
 all_goals go_wp2_with fail
 refine bodyPost_ret (zf rfl _ _ w.heap.size 177 _ _ rfl ((((r.drewN _).set0 _).set1 _).set2 _) Tryz.underlying177 rfl rj) rfl ?_;exact ⟨rfl,(((p.drewN _).other (by omega) 0 _).other (by omega) 1 _).other (by omega) 2 _,zM (zM (zM (ym G _) (Nat.le_refl _) 0 _) (Nat.le_refl _) 1 _) (Nat.le_refl _) 2 _⟩
theorem rS (g:Nat) (s:ByteArray) (i n m:Nat) (nm:Bs) (w:World) (hp:PAt w g s i) (hi:i≤s.size) (hs:s.size≤100000000) (hn:n=zm (un s) i) (hm:m=zn (un s) n) (hnm:n≤m) (hms:m≤s.size) (hnmv:nm=zt (seg (un s) i n)) (hin:i<n) (k:Nat) (hk:k=zn (un s) (m+1)) (hks:k≤s.size) (ha:atN (un s) m=61) (hend:m<s.size) (hv:t6 (un s) k=none) (hk2:zn (un s) k=k):Calls Tryz.prog 151 #[.pointer (some ⟨g,0,none⟩)] w fun e w'=>e= .returned (.tuple #[vz (nm,[],true),.bool false])∧PAt w' g s k∧w.grownBy w' (some g):=by
 have hlow:Hid (∀ W:World,Calls Tryz.prog 80 #[.string (mk (seg (un s) i n))] W fun e w'=>e= .returned (.string (mk nm))∧Below W.heap.size W w'):=KZ9 fun W=>by
  have:=yw (mk (seg (un s) i n)) W (by rw [zi];unfold seg;rw [List.length_take,List.length_drop,za];omega);rw [zk,←hnmv] at this;exact this
 have HN:=KZ9 hn;have HM:=KZ9 hm;have hgl:=hp.lt;clear hn hm hnmv;have OK:=KZ9 (KZ7 (by omega:i<n));have hda:=KZ9 (KZ7 ha);have HA:=KZ9 ha;have HK:=KZ9 hk;clear ha hk;have HV:=KZ9 hv;have HJ:=KZ9 hk2;clear hv hk2;have hv:=HV;go_enter Tryz.func151,Tryz.ntmps151
 go_wp2_with fail
 refine (uw g s i _ (hp.alloc _) hi hs).mono ?_;rintro e w1 ⟨rfl,p1,hg1⟩;rw [←HN.out,OK.out];rw [←HN.out] at p1;have r1:=(Blk3.new w 177 (.string ⟨#[]⟩) (.string ⟨#[]⟩) (.bool false)).grown hg1 (by simp;omega);have G1:=zu (yv (xV w (some g)) _) hg1;have hbl:=r1.lt;clear hg1;go_wp2_with fail
 refine (hlow.out _).mono ?_;rintro e w2 ⟨rfl,hb2⟩;have p2:=p1.below hb2;have r2:=r1.below hb2;have G2:=xy G1 hb2;clear p1 r1 G1;go_wp2_with fail
 have d3:=Blk3.new w2 177 (.string (mk nm)) (.string ⟨#[]⟩) (.bool false);have r3:=r2.alloc (.cells #[.string (mk nm),.string ⟨#[]⟩,.bool false] 177);have p3:=p2.alloc (.cells #[.string (mk nm),.string ⟨#[]⟩,.bool false] 177);have G3:=yv G2 (.cells #[.string (mk nm),.string ⟨#[]⟩,.bool false] 177);have hb0:w.heap.size<w2.heap.size:=r2.lt;clear p2 r2 G2 hb2 hbl;generalize w2.alloc (.cells #[.string (mk nm),.string ⟨#[]⟩,.bool false] 177)=W3 at *;generalize w2.heap.size=q at *;have hne:w.heap.size≠q:=by omega
 have hne2:q≠w.heap.size:=by omega
 have hqg:some q≠some g:=by simp;omega
 have hwg:some w.heap.size≠some g:=by simp;omega
 have hgw:g≠w.heap.size:=by omega
 have hgw2:w.heap.size≠g:=by omega
 refine (xt g s n _ p3 (by omega) hs).mono ?_;rintro e w4 ⟨rfl,p,hg4⟩;rw [←HM.out] at p;have r:=r3.grown hg4 hwg;have d:=d3.grown hg4 hqg;have G:=zu G3 hg4;clear p3 r3 d3 G3 hg4;have q0:=p.c0;have q1:=p.c1;have c0:=d.c0;have c1:=d.c1;have c2:=d.c2;have e1:=d.f1;have e2:=d.f2;have k0:=r.c0;have k1:=r.c1;have k2:=r.c2;have f0:=r.f0;have f1:=r.f1;have f2:=r.f2;go_wp2_with fail
 refine (uV g s m 61 _ p hms hs (by decide)).mono ?_;rintro e w5 ⟨rfl,p5,hg5⟩;rw [if_pos HA.out] at p5;rw [hda.out];have r5:=r.grown hg5 hwg;have d5:=d.grown hg5 hqg;have G5:=zu G hg5;clear hg5 p r d G q0 q1 c0 c1 c2 e1 e2 k0 k1 k2 f0 f1 f2;have p:=p5;have r:=r5;have d:=d5;have G:=G5;clear p5 r5 d5 G5;have q0:=p.c0;have q1:=p.c1;have c0:=d.c0;have c1:=d.c1;have c2:=d.c2;have e1:=d.f1;have e2:=d.f2;have k0:=r.c0;have k1:=r.c1;have k2:=r.c2;have f0:=r.f0;have f1:=r.f1;have f2:=r.f2;go_wp2_with fail
 refine (xt g s (m+1) _ p (by omega) hs).mono ?_;rintro e w6 ⟨rfl,p6,hg6⟩;rw [←HK.out] at p6;have r6:=r.grown hg6 hwg;have d6:=d.grown hg6 hqg;have G6:=zu G hg6;clear hg6 p r d G q0 q1 c0 c1 c2 e1 e2 k0 k1 k2 f0 f1 f2;have p:=p6;have r:=r6;have d:=d6;have G:=G6;clear p6 r6 d6 G6;have q0:=p.c0;have q1:=p.c1;have c0:=d.c0;have c1:=d.c1;have c2:=d.c2;have e1:=d.f1;have e2:=d.f2;have k0:=r.c0;have k1:=r.c1;have k2:=r.c2;have f0:=r.f0;have f1:=r.f1;have f2:=r.f2;go_wp2_with fail
 have r7:=r.other (p:=q) hne 2 (.bool true);have d7:=d.set2 (.bool true);have p7:=p.other (p:=q) (by omega) 2 (.bool true);have G7:=zM G (b:=q) (by omega) 2 (.bool true);clear r d p G q0 q1 c0 c1 c2 e1 e2 k0 k1 k2 f0 f1 f2;generalize w6.setCell ⟨q,2,none⟩ (.bool true)=W7 at *;have p:=p7;have r:=r7;have d:=d7;have G:=G7;clear p7 r7 d7 G7;refine (cS g s k _ p hks hs).mono ?_;rintro e w8 ⟨rfl,p8,hg8⟩;rw [hv.out] at p8 ⊢;simp only [bS,vat] at p8 ⊢;have r8:=r.grown hg8 hwg;have d8:=d.grown hg8 hqg;have G8:=zu G hg8;clear hg8 p r d G;have p:=p8;have r:=r8;have d:=d8;have G:=G8;clear p8 r8 d8 G8;have q0:=p.c0;have q1:=p.c1;have c0:=d.c0;have c1:=d.c1;have c2:=d.c2;have e1:=d.f1;have e2:=d.f2;have k0:=r.c0;have k1:=r.c1;have k2:=r.c2;have f0:=r.f0;have f1:=r.f1;have f2:=r.f2;go_wp2_with fail
 have r9:=r.other (p:=q) hne 1 (.string ByteArray.empty);have d9:=d.set1 (.string ByteArray.empty);have p9:=p.other (p:=q) (by omega) 1 (.string ByteArray.empty);have G9:=zM G (b:=q) (by omega) 1 (.string ByteArray.empty);clear r d p G q0 q1 c0 c1 c2 e1 e2 k0 k1 k2 f0 f1 f2;generalize w8.setCell ⟨q,1,none⟩ (.string ByteArray.empty)=W9 at *;have p:=p9;have r:=r9;have d:=d9;have G:=G9;clear p9 r9 d9 G9;refine (xt g s k _ p (by omega) hs).mono ?_;rintro e w10 ⟨rfl,p10,hg10⟩;rw [HJ.out] at p10;have r10:=r.grown hg10 hwg;have d10:=d.grown hg10 hqg;have G10:=zu G hg10;clear hg10 p r d G;have p:=p10;have r:=r10;have d:=d10;have G:=G10;clear p10 r10 d10 G10;have q0:=p.c0;have q1:=p.c1;have c0:=d.c0;have c1:=d.c1;have c2:=d.c2;have e1:=d.f1;have e2:=d.f2;have k0:=r.c0;have k1:=r.c1;have k2:=r.c2;have f0:=r.f0;have f1:=r.f1;have f2:=r.f2;go_wp2_with fail
 go_region
 all_goals go_wp2_with fail
 refine bodyPost_ret (zf rfl _ _ w.heap.size 177 _ _ rfl ((((r.drewN _).set0 _).set1 _).set2 _) Tryz.underlying177 rfl rj) rfl ?_;exact ⟨rfl,(((p.drewN _).other (by omega) 0 _).other (by omega) 1 _).other (by omega) 2 _,zM (zM (zM (ym G _) (Nat.le_refl _) 0 _) (Nat.le_refl _) 1 _) (Nat.le_refl _) 2 _⟩
theorem Un (g:Nat) (s:ByteArray) (i:Nat) (w:World) (hp:PAt w g s i) (hi:i≤s.size) (hs:s.size≤100000000):Calls Tryz.prog 151 #[.pointer (some ⟨g,0,none⟩)] w fun e w'=>∃ (d:Dir) (j:Nat) (ok:Bool),e= .returned (.tuple #[vz d,.bool ok])∧PAt w' g s j∧w.grownBy w' (some g)∧j≤s.size∧Hid ((ok=true→wN (un s) i=some (d,j))∧(ok=false→wN (un s) i=none)):=by
 have hi':i≤(un s).length:=by rw [za];exact hi
 have hge:=sV (un s) i;have hle:=sU (un s) i hi';have hbl:=wY (un s) _ hle;have hbg:=x7 (un s) (zm (un s) i);have stop:∀ j,j<s.size→(atN (un s) j=59↔uI (un s) j):=fun j hj=>by
  have:atN (un s) j≠256:=by rw [S4 s j hj];have:=s[j].toNat_lt;omega
  unfold uI;omega
 have stope:uI (un s) s.size:= .inr (bN (un s) s.size (by rw [za];exact Nat.le_refl _));have fin:∀ (d:Dir) (j:Nat),uk (un s) i=some (d,j)→j≤s.size→∀ (e:Ending) (w':World) (b:Bool),(b=decide (uI (un s) j))→(e= .returned (.tuple #[vz d,.bool b])∧PAt w' g s j∧w.grownBy w' (some g))→∃ (d:Dir) (j:Nat) (ok:Bool),e= .returned (.tuple #[vz d,.bool ok])∧PAt w' g s j∧w.grownBy w' (some g)∧j≤s.size∧Hid ((ok=true→wN (un s) i=some (d,j))∧(ok=false→wN (un s) i=none)):=by
  rintro d j he hj e w' b rfl ⟨rfl,h1,h2⟩;refine ⟨d,j,_,rfl,h1,h2,hj,KZ9 ⟨fun ho=>X4 _ _ _ he (of_decide_eq_true ho),fun ho=>X3 _ _ _ he (of_decide_eq_false ho)⟩⟩
 have none:∀ (d:Dir) (j:Nat),uk (un s) i=none→j≤s.size→∀ (e:Ending) (w':World),(e= .returned (.tuple #[vz d,.bool false])∧PAt w' g s j∧w.grownBy w' (some g))→∃ (d:Dir) (j:Nat) (ok:Bool),e= .returned (.tuple #[vz d,.bool ok])∧PAt w' g s j∧w.grownBy w' (some g)∧j≤s.size∧Hid ((ok=true→wN (un s) i=some (d,j))∧(ok=false→wN (un s) i=none)):=by
  rintro d j he hj e w' ⟨rfl,h1,h2⟩;exact ⟨d,j,false,rfl,h1,h2,hj,KZ9 ⟨(fun h=>Bool.noConfusion h),fun _=>X5 _ _ he⟩⟩
 by_cases ht:i<zm (un s) i
 ·by_cases ha:atN (un s) (zn (un s) (zm (un s) i))=61
  ·have hin:=gj (un s) _ (by omega:atN (un s) (zn (un s) (zm (un s) i))≠256);have hkl:=wY (un s) (zn (un s) (zm (un s) i)+1) (by omega);have hv:=pC (un s) i ht ha;rw [za] at hle hbl hin hkl;cases hvi:t6 (un s) (zn (un s) (zn (un s) (zm (un s) i)+1)) with
   | none =>
    rw [hvi] at hv;have hk2:=vx (un s) (zn (un s) (zm (un s) i)+1);exact (rS g s i _ _ _ w hp hi hs rfl rfl hbg hbl rfl ht _ rfl hkl ha hin hvi hk2).mono (none _ _ hv hkl)
   | some p =>
    obtain ⟨v,n2⟩:=p;rw [hvi] at hv;have hvb:=jG (un s) _ v n2 (by rw [za];exact hkl) hvi;have hj:=wY (un s) n2 hvb.2.1;rw [za] at hvb hj;by_cases hend:zn (un s) n2<s.size
    ·exact (gv g s i _ _ _ w hp hi hs rfl rfl hbg hbl rfl ht _ rfl hkl ha hin v n2 _ hvi hvb.2.1 rfl hend).mono (fun e w' h=>fin _ _ hv hj e w' _ (by rw [decide_eq_decide];exact stop _ hend) h)
    have hes:zn (un s) n2=s.size:=by omega
    exact (qB g s i _ _ _ w hp hi hs rfl rfl hbg hbl rfl ht _ rfl hkl ha hin v n2 _ hvi hvb.2.1 rfl hes).mono (fun e w' h=>fin _ _ hv hj e w' _ (by rw [hes];exact (KZ7 stope).symm) h)
  have hb:=qj (un s) i ht ha;rw [za] at hle hbl;by_cases hend:zn (un s) (zm (un s) i)<s.size
  ·exact (kx g s i _ _ _ w hp hi hs rfl rfl hbg hbl rfl ht ha hend).mono (fun e w' h=>fin _ _ hb hbl e w' _ (by rw [decide_eq_decide];exact stop _ hend) h)
  have hes:zn (un s) (zm (un s) i)=s.size:=by omega
  exact (rT g s i _ _ _ w hp hi hs rfl rfl hbg hbl rfl ht ha hes).mono (fun e w' h=>fin _ _ hb hbl e w' _ (by rw [hes];exact (KZ7 stope).symm) h)
 rw [za] at hle hbl;exact (cT g s i _ _ _ w hp hi hs rfl rfl hbg hbl rfl ht).mono (none _ _ (kX (un s) i ht) hbl)
theorem cU {w:World} {g:Nat} {e:TypeId} {size n:Nat} {v:Value} {xs:List Value} (h:w.ownsRow (g+1) e size v n xs):v.ownBlock=none∨v.ownBlock≠some g:=by
 cases hv:v.ownBlock with
 | none=>exact .inl rfl
 | some b=>have:=(h.lt b hv).1;exact .inr (by simp;omega)
theorem Wg (w:World) (a b c:Value) (T:TypeId):∀ j u,[a,b,c][j]? =some u→(w.alloc (.cells #[a,b,c] T)).cell? ((⟨w.heap.size,0,none⟩:Addr).add j)=some u:=by
 intro j u hj;have hadd:(⟨w.heap.size,0,none⟩:Addr).add j=⟨w.heap.size,j,none⟩:=by unfold Addr.add;split<;>simp_all
 rw [hadd,World.cell?_alloc_mark]
 simpa using hj
theorem XC {w:World} {base:Nat} {e:TypeId} {size n:Nat} {v:Value} {xs:List Value} (h:w.ownsRow base e size v n xs):∃ a cap,v= .slice a n cap:=by
 rcases h.2 with ⟨rfl,rfl⟩ | ⟨g,cap,cur,rfl,_⟩
 ·exact ⟨none,0,rfl⟩
 exact ⟨_,cap,rfl⟩
theorem Ur {w:World} {g:Nat} {e:TypeId} {size n:Nat} {v:Value} {xs:List Value} (h:w.ownsRow (g+1) e size v n xs):w.ownsRow g e size v n xs :=
 ⟨h.1,h.2.imp id (fun ⟨b,cap,cur,hv,hb,r⟩=>⟨b,cap,cur,hv,by omega,r⟩)⟩
theorem UY (w:World) (a b c:Value) (T:TypeId) (n:Nat) (hn:n=w.heap.size):∀ j u,[a,b,c][j]? =some u→(w.alloc (.cells #[a,b,c] T)).cell? ((⟨n,0,none⟩:Addr).add j)=some u:=by
 subst hn;exact Wg w a b c T
set_option maxHeartbeats 2000000
theorem gJ (s:ByteArray) (w:World) (hs:s.size≤4096):Calls Tryz.prog 83 #[.string s] w fun e w'=>∃ v,e= .returned (.tuple #[v,.int .i64 (parseI (un s) 0 []).2])∧w'.ownsRow w.heap.size 177 3 v (parseI (un s) 0 []).1.length (wo (parseI (un s) 0 []).1)∧Below w.heap.size w w':=by
 obtain ⟨iD0,iD⟩:=info_parts R5;obtain ⟨R,hR⟩:=KZ6 (parseI (un s) 0 []);rw [←hR];have HR:=KZ9 hR;clear hR;go_enter Tryz.func83,Tryz.ntmps83
 go_wp2;go_step3;go_wp2;go_step3;go_wp2;go_loopg [4] s.size (fun m v wr=>∃ (k:Nat) (D:List Dir),k≤s.size∧m=s.size - k∧PAt wr w.heap.size s k∧wr.ownsRow (w.heap.size+1) 177 3 v D.length (wo D)∧D.length≤32∧Below w.heap.size w wr∧Hid (parseI (un s) k D=R))
 case atStart=>exact ⟨0,[],by omega,by omega,heap_alloc_new w _,World.ownsRow_nil _ _ _ _,by simp,(Below.refl _ _).alloc (Nat.le_refl _) _,HR.out.symm⟩
 case round =>
  obtain ⟨k,D,hk,rfl,hp,hown,hD,hnx,hpi⟩:=hrel;obtain ⟨ao,cap,rfl⟩:=XC hown;go_wp2_with fail
  refine (xt w.heap.size s k _ hp hk (by omega)).mono ?_;rintro e w1 ⟨rfl,hp1,hg1⟩;have hk1:=wY (un s) k (by rw [za];exact hk);have hk1g:=x7 (un s) k;have hid:=vx (un s) k;have hown1:=hown.kept hg1 (cU hown);have hnx1:=hnx.grown hg1 (by have:=hnx.size;omega) (fun j hj=>by cases hj;exact Nat.le_refl _);have hpi1:Hid (parseI (un s) (zn (un s) k) D=R):=by rw [←hpi.out,←tC];rfl
  rw [za] at hk1;have hlw:=hp1.lt;clear hown hnx hpi hp hg1;generalize zn (un s) k=i at *;go_wp2_with fail
  refine (uV w.heap.size s i 59 _ hp1 hk1 (by omega) (by decide)).mono ?_;rintro e w2 ⟨rfl,hp2,hg2⟩;have hown2:=hown1.kept hg2 (cU hown1);have hnx2:=hnx1.grown hg2 (by have:=hnx1.size;omega) (fun j hj=>by cases hj;exact Nat.le_refl _);clear hown1 hnx1 hp1 hg2 hlw;have hlw:=hp2.lt;by_cases h59:atN (un s) i=59
  ·have hil:=gj (un s) i (by omega);rw [za] at hil;rw [if_pos h59] at hp2;rw [KZ7 h59];have hst:Hid (parseI (un s) (i+1) D=R):=by rw [←hpi1.out,sm _ _ _ h59];rfl
   clear hpi1 h59 hid;go_wp2_with fail
   go_roundg (s.size - (i+1))
   case measure=>omega
   case rel=>exact ⟨i+1,D,by omega,rfl,hp2,hown2,hD,hnx2,hst⟩
  rw [if_neg h59] at hp2;rw [KZ8 h59];have c1:=hp2.c1;by_cases hend:i<s.size
  ·by_cases h32:D.length=32
   ·have hfin:Hid (R=([],3)):=by rw [←hpi1.out,tA _ _ _ hid (by rw [za];exact hend) h59 h32];rfl
    have h32':(((D.length:Nat):Int)==32)=true:=by simp;omega
    clear hpi1 h59 hid h32;go_wp2_with fail
    (try rw [Exit.noGoto_ret])
    go_ret2;exact ⟨_,by rw [hfin.out];rfl,by rw [hfin.out];exact World.ownsRow_nil _ _ _ _,hnx2⟩
   have h32':(((D.length:Nat):Int)==32)=false:=by simp;omega
   have hnone:=KZ9 (so (un s) i D hid (by rw [za];exact hend) h59 h32);have hsome:=KZ9 (fun p=>sl (un s) i D p hid (by rw [za];exact hend) h59 h32);clear h59 hid;go_wp2_with fail
   refine (Un w.heap.size s i _ hp2 hk1 (by omega)).mono ?_;rintro e w3 ⟨d,j,ok,rfl,hp3,hg3,hj,hel⟩;have hown3:=hown2.kept hg3 (cU hown2);have hnx3:=hnx2.grown hg3 (by have:=hnx2.size;omega) (fun j hj=>by cases hj;exact Nat.le_refl _);have hlw3:=hp3.lt;clear hown2 hnx2 hp2 hg3;unfold vz;cases ok
   ·have hfin:Hid (R=([],4)):=by rw [←hpi1.out,hnone.out (hel.out.2 rfl)];rfl
    clear hpi1 hnone hsome hel;go_wp2_with fail
    (try rw [Exit.noGoto_ret])
    go_ret2;exact ⟨_,by rw [hfin.out];rfl,by rw [hfin.out];exact World.ownsRow_nil _ _ _ _,hnx3.alloc hnx3.size _⟩
   have hlt:=uE (un s) i d j (by rw [za];omega) (ri _ _ _ (hel.out.1 rfl)).1;have hst:Hid (parseI (un s) j (D++[d])=R):=by rw [←hpi1.out,hsome.out _ (hel.out.1 rfl)];rfl
   have hij:=hlt.1;clear hpi1 hnone hsome hel hlt;go_wp2_with (at_builtin;refine wpList_append_own _ rfl (.tmp 36) (.tmp 38) 172 rfl (w.heap.size+1) 177 iD0 (.agg #[.string ⟨#[]⟩,.string ⟨#[]⟩,.bool false]) 3 40 Tryz.underlying172 iD.1 iD.2.1 iD.2.2.1 iD.2.2.2 rfl (by decide) _ _ _ rfl ((hown3.alloc _).alloc _) ⟨_,0,none⟩ 1 1 [.string (mk d.1),.string (mk d.2.1),.bool d.2.2] rfl rfl (UY _ _ _ _ _ _ (by simp)) (by intro u hu;simp at hu;rcases hu with rfl | rfl | rfl<;>rfl) (by unfold maxLen;omega) (by omega) (by simp;omega) ?_;intro v1 w5 hown5 hgrow5 hnil5)
   go_roundg (s.size - j)
   case measure=>omega
   case rel =>
    have hne:some w.heap.size≠(Value.slice ao (D.length:Nat) cap).ownBlock:=by
     rcases cU hown3 with h | h
     ·rw [h];simp
     exact fun e=>h e.symm
    refine ⟨j,D++[d],by omega,rfl,((hp3.alloc _).alloc _).grown hgrow5 hne,?_,by simp;omega,((hnx3.alloc hnx3.size _).alloc (by have:=hnx3.size;simp;omega) _).grown hgrow5 (by have:=hnx3.size;simp;omega) (fun b hb=>by have:=(hown3.lt b hb).1;omega),hst⟩;rw [←YE,List.length_append];exact hown5
  have hfin:Hid (R=(D,0)):=by rw [←hpi1.out,rQ _ _ _ (by rw [za];omega)];rfl
  clear hpi1 h59 hid;go_wp2_with fail
  (try rw [Exit.noGoto_ret])
  go_ret2;exact ⟨_,by rw [hfin.out];rfl,by rw [hfin.out];exact Ur hown2,hnx2⟩
theorem Vr (s:ByteArray) (w:World) (hs:s.size≤100000000):Calls Tryz.prog 83 #[.string s] w fun e w'=>∃ v,e= .returned (.tuple #[v,.int .i64 (wb (un s)).2])∧w'.ownsRow w.heap.size 177 3 v (wb (un s)).1.length (wo (wb (un s)).1)∧Below w.heap.size w w':=by
 by_cases h:s.size≤4096
 ·rw [tE (un s) (by rw [za];omega)];exact gJ s w h
 rw [sr (un s) (by rw [za];omega)];have hl:¬ ((s.size:Int)≤4096):=by omega
 go_enter Tryz.func83,Tryz.ntmps83
 go_wp2;go_step3;go_wp2
 (try rw [Exit.noGoto_ret])
 go_ret2;exact ⟨_,rfl,World.ownsRow_nil _ _ _ _,Below.refl _ _⟩
def Dirs (w:World) (v:Value) (l:List Dir):Prop:=Row w v 3 l.length (wo l)
theorem Dirs.below {w w':World} {v:Value} {l:List Dir} (h:Dirs w v l) (hb:Below w.heap.size w w'):Dirs w' v l:=Row.below h hb
theorem Dirs.owned {w:World} {base:Nat} {v:Value} {l:List Dir} (h:w.ownsRow base 177 3 v l.length (wo l)):Dirs w v l:=Row.owned h
theorem Dirs.open {w:World} {v:Value} {l:List Dir} (h:Dirs w v l):∃ a cap,v= .slice a l.length cap∧l.length≤cap∧cap≤maxLen ∧
  ∀ (hn:0<l.length),∃ b off,a=some ⟨b,off,none⟩∧b<w.heap.size∧∀ j (hj:j<l.length),w.cell? ⟨b,off+j*3,none⟩=some (.string (mk l[j].1))∧w.cell? ⟨b,off+j*3+1,none⟩=some (.string (mk l[j].2.1))∧w.cell? ⟨b,off+j*3+2,none⟩=some (.bool l[j].2.2):=by
 obtain ⟨hl,a,cap,rfl,hn,hm,h⟩:=h;refine ⟨a,cap,rfl,hn,hm,fun h0=> ?_⟩;rcases h with h | ⟨b,off,ha,hlt,hc⟩
 ·omega
 refine ⟨b,off,ha,hlt,fun j hj=> ?_⟩;obtain ⟨g0,g1,g2⟩:=k7 l j hj;exact ⟨hc _ _ g0,by have:=hc _ _ g1;rwa [←Nat.add_assoc] at this,by have:=hc _ _ g2;rwa [←Nat.add_assoc] at this⟩
theorem SF (b:UInt8) (h:zF b=false):(b.toNat:Int)<48∨57<(b.toNat:Int):=by have:=of_decide_eq_false h;omega
theorem UN (b:UInt8) (h:zF b=true):(48:Int)≤(b.toNat:Int)∧(b.toNat:Int)≤57:=by have:=of_decide_eq_true h;omega
theorem Ry (s:ByteArray) (w:World) (hs:s.size≤100000000):Calls Tryz.prog 84 #[.string s] w fun e w'=>e= .returned (.tuple #[.int .i64 (jg (un s)).1,.bool (jg (un s)).2])∧w=w':=by
 go_enter Tryz.func84,Tryz.ntmps84
 go_wp2;go_loop [4,8] (fun nv iv=>∃ k:Nat,iv= .int .i64 k∧k≤s.size∧nv= .int .i64 (pp ((un s).take k) 0)∧pp ((un s).take k) 0≤2147483647∧Hid ((un s).all zF=((un s).drop k).all zF)) (fun _ iv=>s.size - (intOf iv).toNat)
 case atStart=>exact ⟨0,rfl,by omega,rfl,by simp [pp],rfl⟩
 case round =>
  obtain ⟨k,rfl,hk,rfl,hle,ha⟩:=hrel;by_cases hlt:k<s.size
  ·have hlu:k<(un s).length:=by rw [za];exact hlt
   cases hb:zF (s[k]'hlt)
   ·have hno:Hid (jg (un s)=(0,false)):=by
     have e:(un s).all zF=false:=by rw [ha.out,zB (un s) zF k hlu false hb];rfl
     exact if_neg (by simp [e])
    have hd:=SF _ hb;clear hb ha;go_wp2
    all_goals try omega
    all_goals
     go_ret2;exact ⟨by rw [hno.out];rfl,rfl⟩
   have hyes:Hid ((un s).all zF=((un s).drop (k+1)).all zF):=by
    have e:=ha.out;rw [zB (un s) zF k hlu true hb] at e;exact e
   clear ha;obtain ⟨hd1,hd2⟩:=UN _ hb;have hst:=KZ9 (VZ (un s) k hlu);clear hb;obtain ⟨v,hv⟩:=KZ6 (pp ((un s).take k) 0);rw [←hv] at hle hst ⊢;clear hv;go_wp2
   all_goals try omega
   go_round
   case rel =>
    have e:pp ((un s).take (k+1)) 0=min (10*v+((s[k]'hlt).toNat - 48)) 2147483647:=hst.out;refine ⟨k+1,by go_num,by omega,?_,by rw [e];omega,hyes⟩;rw [e]
    congr 1
    omega
   case measure=>simp [intOf];omega
  obtain rfl:k=s.size:=by omega
  have htk:(un s).take s.size=un s:=List.take_of_length_le (by rw [za];exact Nat.le_refl _);have hfin:Hid (jg (un s)=(pp (un s) 0,!(un s).isEmpty)):=by
   have e:(un s).all zF=true:=by rw [ha.out,List.drop_eq_nil_of_le (by rw [za];exact Nat.le_refl _)];rfl
   exact if_pos e
  rw [htk];clear ha hle htk;go_wp2;go_ret2;refine ⟨?_,rfl⟩;rw [hfin.out];simp [zy]
theorem gX (n m:Int) (w:World) (h0:0≤m):Calls Tryz.prog 85 #[.int .i64 n,.int .i64 m] w fun e w'=>e= .returned (.int .i64 (lim n m))∧w=w':=by
 go_enter Tryz.func85,Tryz.ntmps85
 go_wp2;go_ret;exact ⟨xz (by unfold lim;omega),rfl⟩
theorem dF (n m:Int) (h:0≤m):0≤lim n m∧lim n m≤m:=by unfold lim;omega
theorem TE (now age:Int) (w:World):Calls Tryz.prog 41 #[.int .i64 now,.int .i64 age] w fun e w'=>e= .returned (.int .i64 (xG now age))∧w=w':=by
 obtain ⟨a1,a2⟩:=dF now 1099511627776 (by omega);obtain ⟨b1,b2⟩:=dF age 2147483647 (by omega);go_enter Tryz.func41,Tryz.ntmps41
 go_wp2_with fail
 refine (gX now 1099511627776 _ (by omega)).mono ?_;rintro e w' ⟨rfl,rfl⟩;go_wp2_with fail
 refine (gX age 2147483647 _ (by omega)).mono ?_;rintro e w' ⟨rfl,rfl⟩;go_wp2_with fail
 go_ret;exact ⟨xz (by unfold xG QE Pg;omega),rfl⟩
end Go.Proofs.YtbnnlkdhpifpeaaGreatDoor
namespace Go.Proofs.YtbnnlkdhpifpeaaGreatDoor
open Go.RowKit Go.Maps Hs
theorem cJ:(Tryz.prog.info? 110).map (·.size)=some 2:=by kernel_rfl
def QY (p:Int × Bool):Value:= .agg #[.int .i64 p.1,.bool p.2]
theorem To (l:Bs) (h:(wb l).2≠0):cy l=((0,false),(wb l).2):=by unfold cy QR;rw [if_neg h]
theorem Ro (l:Bs) (h:(wb l).2=0):cy l=VP (wb l).1:=by unfold cy QR;rw [if_pos h]
set_option maxHeartbeats 4000000
theorem VO (s:ByteArray) (w:World) (hs:s.size≤100000000):Calls Tryz.prog 40 #[.string s] w fun e w'=>e= .returned (.tuple #[QY (cy (un s)).1,.int .i64 (cy (un s)).2])∧Below w.heap.size w w':=by
 have hbare:=KZ9 (cQ (un s));have hbd:=KZ9 (cP (un s));by_cases he:(wb (un s)).2=0
 ·have hP:=KZ9 (Ro (un s) he);go_enter Tryz.func40,Tryz.ntmps40
  go_wp2_with fail
  refine (Vr s _ hs).mono ?_;rintro e w1 ⟨v1,rfl,hown1,hb1⟩;rw [he];have r1:=(Blk2.new w 110 (.int .i64 0) (.bool false)).below hb1;have B1:=(((Below.refl w.heap.size w).alloc (Nat.le_refl _) _).trans (hb1.mono (by simp)));have hd1:=Dirs.owned hown1;generalize (wb (un s)).1=L at *;have hL32:=hbd.out.1;clear hb1 hown1 he;obtain ⟨ao,cap,rfl,hc1,hc2,hc⟩:=hd1.open;unfold maxLen at hc2;have HC:=KZ9 hc;clear hc hd1;have hmm:=@run_makeMap Tryz.prog;go_wp2_with fail
  have hm0:=World.ownsMap_made w1 Tryz.prog 9 vO;go_loopw [29] (fun iv wr=>∃ k:Nat,iv= .int .i64 k∧k≤L.length∧wr.ownsMap Tryz.prog 9 vO w1.heap.size k (qH (L.take k))∧Hid ((yG (L.take k)).Nodup)∧Below w1.heap.size w1 wr) (fun iv _=>L.length - (intOf iv).toNat)
  case atStart=>exact ⟨0,rfl,by omega,hm0,KZ9 (by simp [yG]),(Below.refl _ _).alloc (Nat.le_refl _) _⟩
  case round =>
   obtain ⟨k,rfl,hk,hown,hnd,hnx⟩:=hrel;have hsz:=hnx.size;by_cases hlt:k<L.length
   ·obtain ⟨b,off,rfl,hb1,hcell⟩:=HC.out (by omega);obtain ⟨x0,x1,x2⟩:=hcell k hlt;have c0:=(hnx.cell (p:=⟨b,off+k*3,none⟩) hb1).trans x0;have c1:=(hnx.cell (p:=⟨b,off+k*3+1,none⟩) hb1).trans x1;have c2:=(hnx.cell (p:=⟨b,off+k*3+2,none⟩) hb1).trans x2;have hszd:=hbd.out.2 L[k] (List.getElem_mem hlt);have hdup:=KZ9 (Q7 L k hlt);have hstep:=KZ9 (XG L k hlt hnd.out);have hmap:Hid (qH (L.take (k+1))=(qH (L.take k)).put (.string L[k].1) (dd L[k])):=KZ9 (by rw [List.take_succ_eq_append_getElem hlt,dD]);clear hcell x0 x1 x2;obtain ⟨x,hx⟩:=KZ6 (L[k]);rw [←hx] at c0 c1 c2 hszd hdup hstep hmap;clear hx;obtain ⟨n,z,t⟩:=x;simp only at c0 c1 c2 hszd hdup hstep;have hzm:(mk n).size≤4096:=by rw [zi];exact hszd.1
    obtain ⟨⟨y0,y1,y2⟩,hy⟩:∃ y,wO (yq (L.take k) (un (mk n)))=y:=⟨_,rfl⟩;obtain ⟨ok,hok⟩:∃ y,(yq (L.take k) (un (mk n))).isSome=y:=⟨_,rfl⟩;have hok':=hok;rw [zk] at hok';have HY:=KZ9 hy;have HO:=KZ9 hok;have HO':=KZ9 hok';have HM:=KZ9 (k6 (n,z,t));have HK:Hid (keyOf Tryz.prog 9 (.string (mk n))=some (.string n)):=KZ9 (by rw [WideMaps.keyOf_string_mk Tryz.underlying9 (by unfold maxLen;omega)];exact congrArg some (congrArg Lit.string (zk n)));clear hy hok hok' hszd;cases ok
    ·go_wp2_with (first
      | (at_lookup;refine xP rfl _ _ rfl w1.heap.size k (L.take k) rfl (hown.alloc _) hnd.out (mk n) rfl (by unfold maxLen;omega) (y0,y1,y2) false HY.out HO.out ?_)
      | (at_mapUpdate;refine wpList_mapUpdate_own _ rfl _ _ _ 175 rfl 9 177 WY Tryz.underlying175 vO w1.heap.size k (qH (L.take k)) rfl ((hown.alloc _).alloc _) (by unfold maxLen;omega) _ _ (.string n) rfl rfl HK.out (dd (n,z,t)) [] HM.out ?_;intro w5 hown5 hgrow5))
     go_roundw
     case rel =>
      refine ⟨k+1,by go_num,by omega,?_,KZ9 (hstep.out HO'.out),((hnx.alloc (by omega) _).alloc (by simp;omega) _).grown hgrow5 (by simp;omega) (fun b hb=>by cases hb;exact Nat.le_refl _)⟩;rw [hmap.out];exact hown5
     case measure=>simp [intOf];omega
    have hfin:=KZ9 (hP.out.trans (Tp L (hdup.out HO'.out)));have r2:=r1.below hnx;have f0:=r2.f0;have f1:=r2.f1;have p0:=r2.c0;have p1:=r2.c1;have hne:w.heap.size≠wr.heap.size:=by have:=r2.lt;omega
    have hpl:=r2.lt;go_wp2_with (first
     | (at_lookup;refine xP rfl _ _ rfl w1.heap.size k (L.take k) rfl (hown.alloc _) hnd.out (mk n) rfl (by unfold maxLen;omega) (y0,y1,y2) true HY.out HO.out ?_))
    refine bodyPost_ret (zf rfl _ _ w.heap.size 110 _ _ rfl ((((r2.set0 _).set1 _).alloc _).alloc _) Tryz.underlying110 rfl cJ) rfl ?_;exact ⟨by rw [hfin.out];rfl,((((B1.trans (hnx.mono B1.size)).setCell (by simp) _).setCell (by simp) _).alloc (by have:=B1.size;simp;omega) _).alloc (by have:=B1.size;simp;omega) _⟩
   obtain rfl:k=L.length:=by omega
   rw [List.take_length] at hown hnd;have hPL:=KZ9 (hP.out.trans (Rp L hnd.out));have r2:=r1.below hnx;have B2:=B1.trans (hnx.mono B1.size);have hbA:=KZ9 (X0 L gM hbare.out);obtain ⟨⟨a1,a2,a3⟩,ha⟩:∃ y,wO (yq L gM)=y:=⟨_,rfl⟩;obtain ⟨ai,hai⟩:∃ y,(yq L gM).isSome=y:=⟨_,rfl⟩;obtain ⟨⟨b1,b2,b3⟩,hb⟩:∃ y,wO (yq L Y5)=y:=⟨_,rfl⟩;obtain ⟨bi,hbi⟩:∃ y,(yq L Y5).isSome=y:=⟨_,rfl⟩;have hsz2:a2.length≤4096:=by
    unfold wO at ha;cases hf:yq L gM with
    | none=>rw [hf] at ha;simp at ha;rw [ha.2.1];simp
    | some d =>
     rw [hf] at ha;have:=(hbd.out.2 d (List.mem_of_find?_eq_some hf)).2;simp at ha;rw [ha] at this;exact this
   have hbs:bi=false→b3=false:=by
    intro h;rw [h] at hbi;unfold wO at hb;cases hf:yq L Y5 with
    | none=>rw [hf] at hb;simp at hb;exact hb.2.2
    | some d=>rw [hf] at hbi;cases hbi
   rw [ha,hb,hai,hbi] at hPL;rw [ha] at hbA;have HA:=KZ9 ha;have HAI:=KZ9 hai;have HB:=KZ9 hb;have HBI:=KZ9 hbi;have hs2:(mk a2).size≤4096:=by rw [zi];exact hsz2
   have hsp:Hid (∀ W:World,Calls Tryz.prog 84 #[.string (mk a2)] W fun e w'=>e= .returned (.tuple #[.int .i64 (jg a2).1,.bool (jg a2).2])∧W=w'):=KZ9 fun W=>by
    have:=Ry (mk a2) W (by omega);rw [zk] at this;exact this
   obtain ⟨ok,hok⟩:∃ y,(jg a2).2=y:=⟨_,rfl⟩;obtain ⟨sv,hsv⟩:∃ y,(jg a2).1=y:=⟨_,rfl⟩;have hnok:a3=false→ok=false:=by
    intro h;have e:=hbA.out h;simp only at e;rw [←hok,e];rfl
   rw [hok,hsv] at hPL hsp;clear ha hai hb hbi hok hsv hbA hsz2;go_wp2_with (first
    | (at_lookup;refine xP rfl _ _ rfl w1.heap.size L.length L rfl hown hnd.out ⟨#[109,97,120,45,97,103,101]⟩ rfl (by simp [maxLen,ByteArray.size]) (a1,a2,a3) ai HA.out HAI.out ?_)
    | (at_lookup;refine xP rfl _ _ rfl w1.heap.size L.length L rfl (hown.alloc _) hnd.out ⟨#[105,110,99,108,117,100,101,115,117,98,100,111,109,97,105,110,115]⟩ rfl (by simp [maxLen,ByteArray.size]) (b1,b2,b3) bi HB.out HBI.out ?_))
   refine (hsp.out _).mono ?_;rintro e w' ⟨rfl,rfl⟩;have f0:=r2.f0;have f1:=r2.f1;have p0:=r2.c0;have p1:=r2.c1;have hne:w.heap.size≠wr.heap.size:=by have:=r2.lt;omega
   have hpl:=r2.lt;have hB1s:=B2.size;have hcase:(ai=true∧a3=false∧ok=false)∨(ai=true∧a3=true∧ok=false)∨(ai=true∧a3=true∧ok=true)∨ai=false:=by
    cases ai
    ·exact .inr (.inr (.inr rfl))
    cases a3
    ·exact .inl ⟨rfl,rfl,hnok rfl⟩
    cases ok
    ·exact .inr (.inl ⟨rfl,rfl,rfl⟩)
    exact .inr (.inr (.inl ⟨rfl,rfl,rfl⟩))
   have hcase2:(bi=false∧b3=false)∨(bi=true∧b3=false)∨(bi=true∧b3=true):=by
    cases bi
    ·exact .inl ⟨rfl,hbs rfl⟩
    cases b3
    ·exact .inr (.inl ⟨rfl,rfl⟩)
    exact .inr (.inr ⟨rfl,rfl⟩)
   clear hnok hbs HA HAI HB HBI hown hsp;rcases hcase with ⟨rfl,rfl,rfl⟩ | ⟨rfl,rfl,rfl⟩ | ⟨rfl,rfl,rfl⟩ | rfl<;>rcases hcase2 with ⟨rfl,rfl⟩ | ⟨rfl,rfl⟩ | ⟨rfl,rfl⟩
   all_goals
    go_wp2_with fail
    refine bodyPost_ret (zf rfl _ _ w.heap.size 110 _ _ rfl ((((r2.set0 _).set1 _).alloc _).alloc _) Tryz.underlying110 rfl cJ) rfl ?_;exact ⟨by rw [hPL.out];rfl,(((B2.setCell (by simp) _).setCell (by simp) _).alloc (by simp;omega) _).alloc (by simp;omega) _⟩
 have hP:=KZ9 (To (un s) he);go_enter Tryz.func40,Tryz.ntmps40
 go_wp2_with fail
 refine (Vr s _ hs).mono ?_;rintro e w1 ⟨v1,rfl,hown1,hb1⟩;have r1:=(Blk2.new w 110 (.int .i64 0) (.bool false)).below hb1;have B1:=(((Below.refl w.heap.size w).alloc (Nat.le_refl _) _).trans (hb1.mono (by simp)));obtain ⟨z,hz⟩:=KZ6 ((wb (un s)).2);rw [←hz] at hP he ⊢;clear hz hb1 hown1;have c0:=r1.c0;have c1:=r1.c1;have f0:=r1.f0;have f1:=r1.f1;go_wp2_with fail
 refine bodyPost_ret (zf rfl _ _ w.heap.size 110 _ _ rfl ((r1.set0 _).set1 _) Tryz.underlying110 rfl cJ) rfl ?_;exact ⟨by rw [hP.out];rfl,(B1.setCell (by simp) _).setCell (by simp) _⟩
end Go.Proofs.YtbnnlkdhpifpeaaGreatDoor
namespace Hs
open Go
def fieldB:Bs:=[115,116,114,105,99,116,45,116,114,97,110,115,112,111,114,116,45,115,101,99,117,114,105,116,121]
end Hs
namespace Go.Proofs.YtbnnlkdhpifpeaaGreatDoor
open Go.RowKit Hs HsR
theorem Xl {P:Program} {fn:Func} {p q:Tmp} {ty ty':TypeId} (h:fn.results=#[.cell p ty,.cell q ty']) (tmps:Array Value) (w:World) (g g':Nat) (t t':TypeId) (cs cs':Array Value) (d d':TypeDesc)
  (hp:tmps.getD p undef= .pointer (some ⟨g,0,none⟩)) (hg:w.heap[g]? =some (.cells cs t (0,0))) (hu:P.underlying ty=some d) (hd:(match d with | .struct _ | .array _ _=>true | _=>false)=true) (hi:(P.info? ty).map (·.size)=some cs.size)
  (hq:tmps.getD q undef= .pointer (some ⟨g',0,none⟩)) (hg':w.heap[g']? =some (.cells cs' t' (0,0))) (hu':P.underlying ty'=some d') (hd':(match d' with | .struct _ | .array _ _=>true | _=>false)=true) (hi':(P.info? ty').map (·.size)=some cs'.size) :
  (results fn tmps).run P w= .ok (.tuple #[.agg cs,.agg cs']) w:=by
 have hp':tmps[p]?.getD undef= .pointer (some ⟨g,0,none⟩):=by simpa using hp
 have hq':tmps[q]?.getD undef= .pointer (some ⟨g',0,none⟩):=by simpa using hq
 simp [results,h,hp',hq',asAddr,run_loadVar_row w g t ty cs (0,0) d hg hu hd hi,run_loadVar_row w g' t' ty' cs' (0,0) d' hg' hu' hd' hi',Result.andThen]
theorem WP:(Tryz.prog.info? 32).map (·.size)=some 2:=by kernel_rfl
set_option maxRecDepth 20000
set_option maxHeartbeats 4000000
theorem WW (clk:Int) (nm us bl val:Bs) (bv:Value) (fl:List Fld) (pol:Int × Bool) (w:World) (hB:Base w) (hmx:MaxOk w) (hus:us.length≤1000) (hpu:ti us=some (zK zP nm)) (hbl:Byts w bv bl) (hbl2:bl.length≤16384) (hpf:rR bl=(fl,0)) (hfl:fl.length≤1000) (hfl2:∀ x∈fl,x.1.length≤100000) (hff:sH fl fieldB=(val,true)) (hva:val.length≤100000) (hsp:cy val=(pol,0)) (hpol:pol.1≠0) (hc0:0≤clk) (hc1:clk≤1099511627776) (hkT:okT us) :
  Calls Tryz.prog 21 #[.agg #[.int .i64 clk,.slice none 0 0],.string (mk us),bv] w fun e w'=>e= .returned (.tuple #[.agg (zW ⟨nm,pol.2,xG clk pol.1⟩).toArray,.agg #[.int .i64 3,.int .i64 0]])∧Below w.heap.size w w':=by
 obtain ⟨ba,bc,rfl,_,_,_⟩:=hbl.open;obtain ⟨z,hz⟩:=KZ6 w.heap.size;obtain ⟨W0,hW0⟩:∃ W0,((w.alloc (.cells #[.int .i64 clk,.slice none 0 0] 49)).alloc (.cells #[.int .i64 0,.string ⟨#[]⟩,.bool false,.int .i64 0] 66)).alloc (.cells #[.int .i64 0,.int .i64 0] 32)=W0:=⟨_,rfl⟩;have hb0:Below w.heap.size w W0:=by rw [←hW0];exact (((Below.refl _ w).alloc (Nat.le_refl _) _).alloc (by simp) _).alloc (by simp;omega) _
 have hx0:BlkL W0 z 49 [.int .i64 clk,.slice none 0 0]:=by rw [←hW0,hz];exact ((BlkL.new w _ _).alloc _).alloc _
 have hu0:BlkL W0 (z+1) 66 [.int .i64 0,.string ⟨#[]⟩,.bool false,.int .i64 0]:=by
  have h8:=(BlkL.new (w.alloc (.cells #[.int .i64 clk,.slice none 0 0] 49)) 66 [.int .i64 0,.string ⟨#[]⟩,.bool false,.int .i64 0]).alloc (.cells #[.int .i64 0,.int .i64 0] 32);rw [World.size_alloc,←hz] at h8;rw [←hW0];exact h8
 have ho0:BlkL W0 (z+2) 32 [.int .i64 0,.int .i64 0]:=by
  have h8:=BlkL.new ((w.alloc (.cells #[.int .i64 clk,.slice none 0 0] 49)).alloc (.cells #[.int .i64 0,.string ⟨#[]⟩,.bool false,.int .i64 0] 66)) 32 [.int .i64 0,.int .i64 0];rw [World.size_alloc,World.size_alloc,←hz] at h8;rw [←hW0];exact h8
 have hs0:W0.heap.size=z+3:=by rw [←hW0,hz];simp
 have HVS:Hid (Calls Tryz.prog 34 #[.agg #[.int .i64 clk,.slice none 0 0]] W0 fun e w'=>e= .returned (.bool true)∧Below W0.heap.size W0 w'):=KZ9 (xM clk [] _ W0 (hB.below hb0) (Row.nil _ _) ⟨hc0,hc1,by simp,by simp⟩);have HPU:=KZ9 (fun W (hW:Below w.heap.size w W)=>cm (mk us) W (hB.below hW) (by rw [zi];omega) (by rw [zk];exact hkT));have HPF:=KZ9 (fun W (hW:Below w.heap.size w W)=>gH _ (mk bl) W (by rw [zi,zk];exact hbl.below hW) (by rw [zi];exact hbl2) (hmx.below hW (hmx.lt)));have HX0:=KZ9 hx0;have HU0:=KZ9 hu0;have HO0:=KZ9 ho0;have HS0:=KZ9 hs0;have HB0:=KZ9 hb0;have HW0:=KZ9 hW0;have HZ:=KZ9 hz;have HH:=KZ9 (And.intro hpu (And.intro hpf (And.intro hfl (And.intro hfl2 (And.intro hff (And.intro hva hsp))))));have x0:=hx0.c 0 _ rfl;have x1:=hx0.c 1 _ rfl;have HI0:=KZ9 (yg (u:=zK zP nm) (qk _ _).1)
 have HSZ0:=KZ9 (show (zb zJ).toArray.size=(zb (zK zP nm)).toArray.size from rfl);have hpl:(pol.1==(0:Int))=false:=by simpa using hpol
 clear hB hmx hpu hpf hfl hfl2 hff hva hsp hx0 hu0 ho0 hs0 hb0 hW0 hz hbl hbl2 hpol hc0 hc1;go_enter Tryz.func21,Tryz.ntmps21
 go_upto_region 1 with fail
 rw [HW0.out,←HZ.out,show z+1+1=z+2 from rfl];go_wp2_with fail
 refine HVS.out.mono ?_;rintro e w1 ⟨rfl,hb1⟩;have HB1:=KZ9 (HB0.out.trans (hb1.mono HB0.out.size));have HX1:=KZ9 (HX0.out.below HX0.out.lt hb1);have HU1:=KZ9 (HU0.out.below HU0.out.lt hb1);have HO1:=KZ9 (HO0.out.below HO0.out.lt hb1);have HS1:Hid (z+3≤w1.heap.size):=KZ9 (by have:=hb1.size;have:=HS0.out;omega);clear hb1 HVS HX0 HU0 HO0 HS0 HB0 HW0 x0 x1;have hpar:=HPU.out w1 HB1.out;rw [zk,HH.out.1] at hpar;have HPAR:=KZ9 hpar;clear hpar HPU;go_wp2_with fail
 refine HPAR.out.mono ?_;rintro e w2 ⟨⟨u1,ec,rfl,hcase⟩,hb2⟩;obtain ⟨rfl,hue⟩:ec=0∧some (zK zP nm)=some u1:=by
  rcases hcase with h | ⟨_,_,h⟩
  ·exact h
  cases h
 obtain rfl:zK zP nm=u1:=by injection hue
 clear hcase hue HPAR;have HN:=KZ9 (heap_alloc_new w2 (.cells (zb zJ).toArray 100));obtain ⟨W3,hW3⟩:∃ W3,(w2.alloc (.cells (zb zJ).toArray 100)).setRow w2.heap.size (zb (zK zP nm)).toArray=W3:=⟨_,rfl⟩;have hY:=(BlkL.new w2 100 (zb zJ)).setRow (zb (zK zP nm));have hb3:=below_setRow (hb2.alloc hb2.size (.cells (zb zJ).toArray 100)) hb2.size (zb (zK zP nm)).toArray;rw [hW3] at hY hb3;have HY:=KZ9 hY;have HB3:=KZ9 (HB1.out.trans (hb3.mono HB1.out.size));have HX3:=KZ9 (HX1.out.below HX1.out.lt hb3);have HU3:=KZ9 (HU1.out.below HU1.out.lt hb3);have HO3:=KZ9 (HO1.out.below HO1.out.lt hb3);have HS3:Hid (z+3≤w2.heap.size∧w2.heap.size<W3.heap.size):=KZ9 ⟨by have:=hb2.size;have:=HS1.out;omega,hY.lt⟩
 have HW3:Hid ((w2.alloc (.cells #[.string ⟨#[]⟩,.string ⟨#[]⟩,.int .i64 0,.string ⟨#[]⟩,.int .u32 0,.int .u16 0,.int .u16 0,.int .u16 0,.int .u16 0,.int .u16 0,.int .u16 0,.int .u16 0,.int .u16 0,.int .i64 0,.string ⟨#[]⟩] 100)).setRow w2.heap.size (zb (zK zP nm)).toArray=W3):=KZ9 hW3;clear hY hb2 hb3 hW3 HX1 HU1 HO1 HB1 HS1;go_upto_region 6 with (refine wpList_store_row rfl 100 (.tmp 8) (.tmp 24) rfl w2.heap.size (zb (zK zP nm)).toArray rfl rfl 100 _ HN.out HI0.out HSZ0.out (zh (yZ _)) ?_)
 rw [HW3.out];have y0:=HY.out.c 0 _ (show (zb (zK zP nm))[0]? =some (.string (mk zP)) from rfl);have y2:=HY.out.c 2 _ (show (zb (zK zP nm))[2]? =some (.int .i64 1) from rfl);have e4:((mk zP).toList==([104,116,116,112,115]:Bs))=true:=by rw [toList_mk'];decide
 have hp3:=HPF.out W3 HB3.out;rw [zk,HH.out.2.1] at hp3;have HP3:=KZ9 hp3;clear hp3 HPF HW3 HN HI0 HSZ0;go_wp2_with fail
 refine HP3.out.mono ?_;rintro e w4 ⟨u4,rfl,ho4,hb4⟩;obtain ⟨fa,fc,rfl⟩:=wL ho4;have HF4:Hid (Flds w4 (.slice fa fl.length fc) fl):=KZ9 (Flds.owned ho4);have HB4:=KZ9 (HB3.out.trans (hb4.mono HB3.out.size));have HY4:=KZ9 (HY.out.below HY.out.lt hb4);have HX4:=KZ9 (HX3.out.below HX3.out.lt hb4);have HU4:=KZ9 (HU3.out.below HU3.out.lt hb4);have HO4:=KZ9 (HO3.out.below HO3.out.lt hb4);have HS4:Hid (z+3≤w2.heap.size∧w2.heap.size<w4.heap.size):=KZ9 ⟨HS3.out.1,HY4.out.lt⟩;have hff:=Qj _ fl ⟨#[115,116,114,105,99,116,45,116,114,97,110,115,112,111,114,116,45,115,101,99,117,114,105,116,121]⟩ w4 HF4.out (by decide) HH.out.2.2.1 HH.out.2.2.2.1;rw [show un ⟨#[115,116,114,105,99,116,45,116,114,97,110,115,112,111,114,116,45,115,101,99,117,114,105,116,121]⟩=fieldB from rfl,HH.out.2.2.2.2.1] at hff;have HFF:=KZ9 hff;clear hff ho4 hb4 HP3 HB3 HX3 HU3 HO3 HS3 HY y0 y2 e4
 go_wp2_with fail
 refine HFF.out.mono ?_;rintro e w5 ⟨rfl,hb5⟩;have HB5:=KZ9 (HB4.out.trans (hb5.mono HB4.out.size));have HY5:=KZ9 (HY4.out.below HY4.out.lt hb5);have HX5:=KZ9 (HX4.out.below HX4.out.lt hb5);have HU5:=KZ9 (HU4.out.below HU4.out.lt hb5);have HO5:=KZ9 (HO4.out.below HO4.out.lt hb5);have HSP:Hid (∀ W,Calls Tryz.prog 40 #[.string (mk val)] W fun e w'=>e= .returned (.tuple #[.agg #[.int .i64 pol.1,.bool pol.2],.int .i64 0])∧Below W.heap.size W w'):=KZ9 (fun W=>by
  have h8:=VO (mk val) W (by rw [zi];have:=HH.out.2.2.2.2.2.1;omega);rw [zk,HH.out.2.2.2.2.2.2] at h8;exact h8)
 clear hb5 HFF HF4 HB4 HY4 HX4 HU4 HO4;go_wp2_with fail
 refine (HSP.out _).mono ?_;rintro e w6 ⟨rfl,hb6⟩;obtain ⟨W7,hW7⟩:∃ W7,w6.alloc (.cells #[.int .i64 pol.1,.bool pol.2] 110)=W7:=⟨_,rfl⟩;have hb7:Below w5.heap.size w5 W7:=by rw [←hW7];exact hb6.alloc hb6.size _
 have hp7:BlkL W7 w6.heap.size 110 [.int .i64 pol.1,.bool pol.2]:=by rw [←hW7];exact BlkL.new w6 _ _
 have HB7:=KZ9 (HB5.out.trans (hb7.mono HB5.out.size));have hy7:=HY5.out.below HY5.out.lt hb7;have hx7:=HX5.out.below HX5.out.lt hb7;have HU7:=KZ9 (HU5.out.below HU5.out.lt hb7);have HO7:=KZ9 (HO5.out.below HO5.out.lt hb7);have HS7:Hid (z+3≤W7.heap.size):=KZ9 (by have h8:=hy7.lt;have h9:=HS4.out.1;omega);have HP7:=KZ9 hp7;have HW7:=KZ9 hW7;have y3:=hy7.c 3 _ (show (zb (zK zP nm))[3]? =some (.string (mk nm)) from rfl);have p0:=hp7.c 0 _ rfl;have p1:=hp7.c 1 _ rfl;have x0:=hx7.c 0 _ rfl;have n3:=World.new_ne W7 _ y3;have np0:=World.new_ne W7 _ p0;have np1:=World.new_ne W7 _ p1;have nx0:=World.new_ne W7 _ x0;have HEX:=KZ9 (fun W=>TE clk pol.1 W);clear hb6 hb7 hp7 hy7 hx7 hW7 HSP HB5 HY5 HX5 HU5 HO5 HS4;go_upto_region 17 with fail
 rw [HW7.out];go_cut [14] (fun s14 wx=>s14= .pointer (some ⟨W7.heap.size,0,none⟩)∧Hid (BlkL wx W7.heap.size 66 [.int .i64 1,.string (mk nm),.bool pol.2,.int .i64 (xG clk pol.1)])∧Hid (Below W7.heap.size W7 wx))
 case first =>
  go_region_held3 (fun W=>W.cell? ⟨w2.heap.size,3,none⟩=some (.string (mk nm))∧W.cell? ⟨w6.heap.size,0,none⟩=some (.int .i64 pol.1)∧W.cell? ⟨w6.heap.size,1,none⟩=some (.bool pol.2)∧W.cell? ⟨z,0,none⟩=some (.int .i64 clk)) (go_keep) (first
   | (go_at_call 41;refine (HEX.out _).mono ?_;rintro e w8 ⟨rfl,rfl⟩))
  all_goals (
   go_wp2;go_meet;exact ⟨rfl,KZ9 (BlkL.new W7 66 [.int .i64 1,.string (mk nm),.bool pol.2,.int .i64 (xG clk pol.1)]).drew,KZ9 ((Below.refl _ W7).alloc (Nat.le_refl _) _).drew⟩)
 case rest =>
 obtain ⟨rfl,HV,HBv⟩:=hcut;obtain ⟨w8,rfl⟩:=KZ6 wc;clear y3 p0 p1 x0 n3 np0 np1 nx0 HEX HW7;have hp8:=HP7.out.below HP7.out.lt HBv.out;have hu8:=HU7.out.below HU7.out.lt HBv.out;have ho8:=HO7.out.below HO7.out.lt HBv.out;have p0:=hp8.c 0 _ rfl;obtain ⟨v0,v1,v2,v3⟩:=BlkL.cs4 HV.out;obtain ⟨u0,u1,u2,u3⟩:=BlkL.cs4 hu8;have fu0:=hu8.f 0;have fu1:=hu8.f 1;have fu2:=hu8.f 2;have fu3:=hu8.f 3;have o0:=ho8.c 0 _ rfl;have o1:=ho8.c 1 _ rfl;have fo0:=ho8.f 0;have fo1:=ho8.f 1;have HU8:=KZ9 hu8;have HO8:=KZ9 ho8;have HB8:=KZ9 (HB7.out.trans (HBv.out.mono HB7.out.size));clear hp8 hu8 ho8;go_wp2_with fail
 all_goals try omega
 have hRu:BlkL ((((((w8.setCell ⟨z+1,0,none⟩ (.int .i64 1)).setCell ⟨z+1,1,none⟩ (.string (mk nm))).setCell ⟨z+1,2,none⟩ (.bool pol.2)).setCell ⟨z+1,3,none⟩ (.int .i64 (xG clk pol.1))).setCell ⟨z+2,0,none⟩ (.int .i64 3)).setCell ⟨z+2,1,none⟩ (.int .i64 0)) (z+1) 66 (zW ⟨nm,pol.2,xG clk pol.1⟩):=((((((HU8.out.set 0 (by simp) (.int .i64 1)).set 1 (by simp) (.string (mk nm))).set 2 (by simp) (.bool pol.2)).set 3 (by simp) (.int .i64 (xG clk pol.1))).other (show z+1≠z+2 by omega) 0 (.int .i64 3)).other (show z+1≠z+2 by omega) 1 (.int .i64 0))
 have hRo:BlkL ((((((w8.setCell ⟨z+1,0,none⟩ (.int .i64 1)).setCell ⟨z+1,1,none⟩ (.string (mk nm))).setCell ⟨z+1,2,none⟩ (.bool pol.2)).setCell ⟨z+1,3,none⟩ (.int .i64 (xG clk pol.1))).setCell ⟨z+2,0,none⟩ (.int .i64 3)).setCell ⟨z+2,1,none⟩ (.int .i64 0)) (z+2) 32 [.int .i64 3,.int .i64 0]:=((((((HO8.out.other (show z+2≠z+1 by omega) 0 (.int .i64 1)).other (show z+2≠z+1 by omega) 1 (.string (mk nm))).other (show z+2≠z+1 by omega) 2 (.bool pol.2)).other (show z+2≠z+1 by omega) 3 (.int .i64 (xG clk pol.1))).set 0 (by simp) (.int .i64 3)).set 1 (by simp) (.int .i64 0))
 have hbz:But (fun k=>k=z+1∨k=z+2) w8 ((((((w8.setCell ⟨z+1,0,none⟩ (.int .i64 1)).setCell ⟨z+1,1,none⟩ (.string (mk nm))).setCell ⟨z+1,2,none⟩ (.bool pol.2)).setCell ⟨z+1,3,none⟩ (.int .i64 (xG clk pol.1))).setCell ⟨z+2,0,none⟩ (.int .i64 3)).setCell ⟨z+2,1,none⟩ (.int .i64 0)):=(((((((But.refl (fun k=>k=z+1∨k=z+2) w8).set (.inl (.inl rfl)) 0 (.int .i64 1)).set (.inl (.inl rfl)) 1 (.string (mk nm))).set (.inl (.inl rfl)) 2 (.bool pol.2)).set (.inl (.inl rfl)) 3 (.int .i64 (xG clk pol.1))).set (.inl (.inr rfl)) 0 (.int .i64 3)).set (.inl (.inr rfl)) 1 (.int .i64 0));refine bodyPost_ret (Xl rfl _ _ (z+1) (z+2) 66 32 _ _ _ _ rfl hRu Tryz.underlying66 rfl Wu rfl hRo Tryz.underlying32 rfl WP) rfl ?_;exact ⟨rfl,HB8.out.trans (hbz.to_below (fun k hk=>by have:=HZ.out;omega) HB8.out.size)⟩
end Go.Proofs.YtbnnlkdhpifpeaaGreatDoor
namespace Go.Proofs.YtbnnlkdhpifpeaaGreatDoor
open Go.RowKit Hs
set_option maxRecDepth 20000
set_option maxHeartbeats 4000000
theorem kE (pm ps lp:Nat) (clk:Int) (us:Bs) (bv:Value) (p:PinP) (Q:World→Prop) (S':Nat→Prop) (w:World) (hS:∀ k,S' k→k<w.heap.size) (hM:BlkL w pm 73 (xD ps lp clk (.slice none 0 0)))
  (hLN:∀ W,Below w.heap.size w W→Calls Tryz.prog 21 #[.agg #[.int .i64 clk,.slice none 0 0],.string (mk us),bv] W fun e w'=>e= .returned (.tuple #[.agg (zW p).toArray,.agg #[.int .i64 3,.int .i64 0]])∧Below W.heap.size W w')
  (hKP:∀ W,Below w.heap.size w W→w.heap.size<W.heap.size→Calls Tryz.prog 22 #[.pointer (some ⟨pm,0,none⟩),.agg (zW p).toArray] W fun e w'=>e= .returned (.int .i64 0)∧Q w'∧But S' W w')
  (hQ:∀ W W' cs,Q W→BlkL W w.heap.size 32 cs→But (fun k=>k=w.heap.size) W W'→Q W') :
  Calls Tryz.prog 8 #[.pointer (some ⟨pm,0,none⟩),.string (mk us),bv] w fun e w'=>e= .returned (.agg #[.int .i64 3,.int .i64 0])∧Q w'∧But S' w w':=by
 obtain ⟨W0,hW0⟩:∃ W0,w.alloc (.cells #[.int .i64 0,.int .i64 0] 32)=W0:=⟨_,rfl⟩;have hb0:Below w.heap.size w W0:=by rw [←hW0];exact (Below.refl _ w).alloc (Nat.le_refl _) _
 have hx0:BlkL W0 w.heap.size 32 [.int .i64 0,.int .i64 0]:=by rw [←hW0];exact BlkL.new w _ _
 have HCT:=KZ9 (rW pm ps lp 0 0 clk none W0 (hM.below hM.lt hb0));simp only [zW,zx] at hLN hKP;have HLN:=KZ9 hLN;have HKP:=KZ9 hKP;have HQ:=KZ9 hQ;have HX0:=KZ9 hx0;have HB0:=KZ9 hb0;have HW0:=KZ9 hW0;have HS:=KZ9 hS;clear hM hLN hKP hQ hb0 hx0 hW0 hS;go_enter Tryz.func8,Tryz.ntmps8
 go_wp2_with fail
 rw [HW0.out];refine HCT.out.mono ?_;rintro e w1 ⟨rfl,hb1⟩;have HX1:=KZ9 (HX0.out.below HX0.out.lt hb1);have HB1:=KZ9 (HB0.out.trans (hb1.mono HB0.out.size));clear hb1 HCT HX0 HB0 HW0;have y0:=(BlkL.new w1 49 [.int .i64 clk,.slice none 0 0]).c 0 _ rfl;have y1:=(BlkL.new w1 49 [.int .i64 clk,.slice none 0 0]).c 1 _ rfl;go_wp2_with fail
 refine (HLN.out _ (HB1.out.alloc HB1.out.size _)).mono ?_;rintro e w2 ⟨rfl,hb2⟩;have hx2:=(HX1.out.alloc (.cells #[.int .i64 clk,.slice none 0 0] 49)).below (HX1.out.alloc (.cells #[.int .i64 clk,.slice none 0 0] 49)).lt hb2;have hbb2:=(HB1.out.alloc HB1.out.size (.cells #[.int .i64 clk,.slice none 0 0] 49)).trans (hb2.mono (HB1.out.alloc HB1.out.size (.cells #[.int .i64 clk,.slice none 0 0] 49)).size);have HX2:=KZ9 hx2;have HB2:=KZ9 hbb2;clear hb2 hx2 hbb2 HX1 HB1 y0 y1 HLN;go_upto_region 3 with fail
 obtain ⟨W3,hW3⟩:∃ W3,(w2.alloc (.cells #[.int .i64 1,.string (mk p.host),.bool p.sub,.int .i64 p.expiry] 66)).alloc (.cells #[.int .i64 3,.int .i64 0] 32)=W3:=⟨_,rfl⟩;have hb3:Below w2.heap.size w2 W3:=by rw [←hW3];exact ((Below.refl _ w2).alloc (Nat.le_refl _) _).alloc (by simp) _
 have hv3:BlkL W3 w2.heap.size 66 [.int .i64 1,.string (mk p.host),.bool p.sub,.int .i64 p.expiry]:=by rw [←hW3];exact (BlkL.new w2 _ _).alloc _
 have ho3:BlkL W3 (w2.heap.size+1) 32 [.int .i64 3,.int .i64 0]:=by
  have h8:=BlkL.new (w2.alloc (.cells #[.int .i64 1,.string (mk p.host),.bool p.sub,.int .i64 p.expiry] 66)) 32 [.int .i64 3,.int .i64 0];rw [World.size_alloc] at h8;rw [←hW3];exact h8
 have HK3:=KZ9 (HKP.out W3 (HB2.out.trans (hb3.mono HB2.out.size)) (HX2.out.below HX2.out.lt hb3).lt);have HX3:=KZ9 (HX2.out.below HX2.out.lt hb3);have HO3:=KZ9 ho3;have HB3:=KZ9 (HB2.out.trans (hb3.mono HB2.out.size));obtain ⟨v0,v1,v2,v3⟩:=BlkL.cs4 hv3;have o0:=ho3.c 0 _ rfl;have o1:=ho3.c 1 _ rfl;have HZ2:=KZ9 HB2.out.size;rw [hW3];clear hW3 hb3 hv3 ho3 HX2 HB2 HKP;go_wp2_with fail
 refine HK3.out.mono ?_;rintro e w4 ⟨rfl,hq4,hb4⟩;have hx4:=HX3.out.but hb4 (fun h8=>by have:=HS.out _ h8;omega);have ho4:=HO3.out.but hb4 (fun h8=>by have:=HS.out _ h8;have:=HZ2.out;omega);have hne:w.heap.size≠w2.heap.size+1:=by have:=HZ2.out;omega
 have x0:=hx4.c 0 _ rfl;have x1:=hx4.c 1 _ rfl;have f0:=hx4.f 0;have f1:=hx4.f 1;have p0:=ho4.c 0 _ rfl;have p1:=ho4.c 1 _ rfl;have HX4:=KZ9 hx4;have HQ4:=KZ9 hq4;have HB4:=KZ9 hb4;clear hx4 ho4 hq4 hb4 HK3 HX3 HO3 v0 v1 v2 v3 o0 o1;go_wp2_with fail
 have hR:=(HX4.out.set 0 (by simp) (.int .i64 3)).set 1 (by simp) (.int .i64 0);have hbz:But (fun k=>k=w.heap.size) w4 ((w4.setCell ⟨w.heap.size,0,none⟩ (.int .i64 3)).setCell ⟨w.heap.size,1,none⟩ (.int .i64 0)):=((But.refl (fun k=>k=w.heap.size) w4).set (.inl rfl) 0 (.int .i64 3)).set (.inl rfl) 1 (.int .i64 0);refine bodyPost_ret (ts rfl _ _ w.heap.size 32 _ _ rfl hR Tryz.underlying32 rfl WP) rfl ?_;exact ⟨rfl,HQ.out _ _ _ HQ4.out HX4.out hbz,((But.of_below S' HB3.out).trans HB4.out).step hbz (fun i hi=> .inr (by omega))⟩
set_option maxHeartbeats 8000000
theorem TR (T:List PinP) (v:Value) (w:World) (hB:Base w) (hT:Pins w v T) (hl1:T.length≤1) (hs:∀ p∈T,p.host.length≤100000) (hok:∀ p∈T,xU p=true):Calls Tryz.prog 50 #[v,.int .i64 1000] w fun e w'=>∃ q,e= .returned (.tuple #[.pointer q,.int .i64 0])∧TabG w' (.pointer q) T∧Below w.heap.size w w':=by
 have hl:T.length≤1000:=by omega
 have HOKS:=KZ9 hok;clear hok;have HT:=KZ9 hT;obtain ⟨a,cap,rfl,h1,h2,hc⟩:=hT.open;unfold maxLen at h2;have HC:=KZ9 hc;have HS:=KZ9 hs;have HB:=KZ9 hB;have HNW:=KZ9 (RH w);obtain ⟨W0,hW0⟩:=KZ6 (w.alloc (.cells #[.slice none 0 0,.int .i64 1000] 201));have hbA:Below w.heap.size w W0:=by rw [hW0];exact (Below.refl _ w).alloc (Nat.le_refl _) _
 have hb0:BlkL W0 w.heap.size 201 [.slice none 0 0,.int .i64 1000]:=by rw [hW0];exact BlkL.new w _ _
 have HW0:=KZ9 hW0.symm;have HBA:=KZ9 hbA;have HB0:=KZ9 hb0;obtain ⟨n,hn⟩:=KZ6 T.length;have HN:=KZ9 hn;rw [←hn] at h1 hl hl1 HT ⊢;clear hc hT hs hB hW0 hbA hb0 hn;go_enter Tryz.func50,Tryz.ntmps50
 go_wp2_with fail
 refine HNW.out.mono ?_;rintro e w' ⟨rfl,rfl⟩;rw [HW0.out];clear HW0 HNW;go_wp2_with fail
 all_goals try omega
 go_loopw [26] (fun iv wr=>∃ k:Nat,iv= .int .i64 k∧k≤n∧Hid (Below w.heap.size w wr)∧Hid (BlkL wr w.heap.size 201 [.slice none 0 0,.int .i64 1000])∧Hid ((∀ j (hj:j<T.length),j<k→xU T[j]=true)∧∀ j (hj:j+1<T.length),j+1<k→yI T[j].host T[j+1].host<0)) (fun iv _=>n - (intOf iv).toNat)
 case atStart=>exact ⟨0,rfl,by omega,HBA,HB0,KZ9 ⟨fun j hj h=>by omega,fun j hj h=>by omega⟩⟩
 case round =>
  obtain ⟨k,rfl,hk,hbw,hbt,hI⟩:=hrel;have hbs:=hbt.out.lt;by_cases hlt:k<n
  ·have hkT:k<T.length:=by rw [←HN.out];exact hlt
   obtain ⟨b,off,rfl,hb,hcc⟩:=HC.out (by omega);obtain ⟨k0,k1,k2⟩:=hcc k hkT;have c0:=(hbw.out.cell (p:=⟨b,off+k*3,none⟩) hb).trans k0;have c1:=(hbw.out.cell (p:=⟨b,off+k*3+1,none⟩) hb).trans k1;have c2:=(hbw.out.cell (p:=⟨b,off+k*3+2,none⟩) hb).trans k2;have HCC:=KZ9 hcc;obtain ⟨p,hp⟩:=KZ6 (T[k]);have hpl:p.host.length≤100000:=HS.out p (by rw [hp];exact List.getElem_mem hkT);rw [←hp] at c0 c1 c2;have HP:=KZ9 hp;clear k0 k1 k2 hcc hp;have HNZ:=KZ9 (heap_alloc_new wr (.cells (zx ⟨[],false,0⟩).toArray 64));have hY:=(BlkL.new wr 64 (zx ⟨[],false,0⟩)).setRow (zx p);have hT2:=(hbt.out.alloc (.cells (zx ⟨[],false,0⟩).toArray 64)).setRow_other (show w.heap.size≠wr.heap.size by omega) (zx p).toArray;have hA2:=below_setRow (hbw.out.alloc (by omega) (.cells (zx ⟨[],false,0⟩).toArray 64)) (show w.heap.size≤wr.heap.size by omega) (zx p).toArray
   obtain ⟨W2,hW2⟩:=KZ6 ((wr.alloc (.cells (zx ⟨[],false,0⟩).toArray 64)).setRow wr.heap.size (zx p).toArray);rw [←hW2] at hY hT2 hA2;have hs2:W2.heap.size=wr.heap.size+1:=by rw [hW2];simp [World.setRow]
   have HW2:Hid ((wr.alloc (.cells #[.string ⟨#[]⟩,.bool false,.int .i64 0] 64)).setRow wr.heap.size (zx p).toArray=W2):=KZ9 hW2.symm;have HV:=KZ9 (sZ p W2 (HB.out.below hA2) hpl);have HY:=KZ9 hY;have HT2:=KZ9 hT2;have HA2:=KZ9 hA2;clear hW2 hY hT2 hA2;go_upto_region 9 with (refine wpList_store_row rfl 64 (.tmp 9) (.tmp 30) rfl wr.heap.size (zx p).toArray rfl rfl 64 _ HNZ.out tO rfl (zh (px _)) ?_)
   all_goals try omega
   rw [HW2.out];clear HW2 HNZ c0 c1 c2;go_wp2_with (refine wpList_load_row rfl 64 (.tmp 9) rfl wr.heap.size rfl 64 _ _ _ HY.out Tryz.underlying64 rfl tO ?_)
   all_goals try omega
   refine HV.out.mono ?_;rintro e w3 ⟨rfl,hb3⟩;have hs3:=hb3.size;have hY3:=HY.out.below (by omega) hb3;have HT3:=KZ9 (HT2.out.below (by omega) hb3);have HA3:=KZ9 (HA2.out.trans (hb3.mono (by omega)));clear hb3 HV HY HT2 HA2;obtain ⟨ok,hok⟩:=KZ6 (xU p);rw [←hok];have HOK:=KZ9 hok;clear hok;cases ok
   ·exfalso;have h8:=HOKS.out p (by rw [HP.out];exact List.getElem_mem hkT);rw [←HOK.out] at h8;cases h8
   by_cases hk0:k=0
   ·subst hk0;have hI2:Hid ((∀ j (hj:j<T.length),j<0+1→xU T[j]=true)∧∀ j (hj:j+1<T.length),j+1<0+1→yI T[j].host T[j+1].host<0):=KZ9 ⟨fun j hj h=>by
     have:j=0:=by omega
     subst this;rw [←HP.out];exact HOK.out.symm,fun j hj h=>by omega⟩
    clear hY3 hI;go_wp2_with fail
    go_quiet (fail)
    go_wp2
    all_goals try omega
    go_roundw
    case rel=>exact ⟨0+1,by go_num,by omega,KZ9 (Go.below_drewN HA3.out _),KZ9 (HT3.out.drewN _),hI2⟩
    case measure=>simp [intOf];omega
   exfalso;omega
  have hall:(∀ p∈T,xU p=true)∧SortH (T.map (·.host)):=by
   refine ⟨fun p hp=> ?_,Xc (fun j hj=> ?_)⟩
   ·obtain ⟨i,hi,rfl⟩:=List.getElem_of_mem hp;exact hI.out.1 i hi (by have:=HN.out;omega)
   rw [List.length_map] at hj;have:=hI.out.2 j hj (by have:=HN.out;omega)
   simpa using this
  have HALL:=KZ9 hall;have hcl:=ko (.slice a n cap) T wr (Pins.below (by rw [HN.out];rw [HN.out] at HT;exact HT.out) hbw.out) (by rw [←HN.out];exact hl);rw [←HN.out] at hcl;have HCL:=KZ9 hcl;have HTL:=KZ9 hbt;clear hall hcl hI;go_wp2_with fail
  all_goals try omega
  refine HCL.out.mono ?_;rintro e w3 ⟨a2,cap2,rfl,hown,hb3⟩;have hs3:=hb3.size;have HB3:=KZ9 (hbt.out.below hbs hb3);have HA3:=KZ9 (hbw.out.trans (hb3.mono (by omega)));have HOW:=KZ9 hown;have f0:=HB3.out.f 0;have d0:=HB3.out.c 0 _ rfl;clear hb3 hown HCL;go_wp2
  all_goals try omega
  go_ret2;refine ⟨_,rfl,.inr ⟨w.heap.size,a2,cap2,1000,rfl,?_,?_,HALL.out.2,HS.out,by rw [←HN.out];exact hl⟩,HA3.out.trans (ze _ w.heap.size 0 _ (Nat.le_refl _))⟩
  ·rw [←HN.out];exact HB3.out.set 0 (by simp) _
  have:=Row.owned (ownsRow_setCell_below HOW.out (a:=⟨w.heap.size,0,none⟩) hbs (.slice a2 n cap2));unfold Pins;rw [←HN.out];exact this
theorem Pt (c:CtxP) (hv:Value) (h:HostP) (w:World) (hB:Base6 w) (hS:Strs w hv c.hosts) (hw:xR h) (hn:h.name.length≤20000):Calls Tryz.prog 241 #[.agg (yF c hv).toArray,.agg (zj h).toArray] w fun e w'=>e= .returned (.bool (T7 c h))∧Below w.heap.size w w':=by
 obtain ⟨z,hz⟩:=KZ6 w.heap.size;obtain ⟨W0,hW0⟩:=KZ6 ((w.alloc (.cells (yF c hv).toArray 120)).alloc (.cells (zj h).toArray 98));have hbA:Below z w W0:=by rw [hW0,hz];exact ((Below.refl _ w).alloc (Nat.le_refl _) _).alloc (by simp) _
 have b0:BlkL W0 z 120 (yF c hv):=by rw [hW0,hz];exact (BlkL.new w _ _).alloc _
 have b1:BlkL W0 (z+1) 98 (zj h):=by
  rw [hW0,hz];have:=BlkL.new (w.alloc (.cells (yF c hv).toArray 120)) 98 (zj h);simp only [World.size_alloc] at this;exact this
 have HW0:=KZ9 hW0.symm;have hsz:W0.heap.size=z+2:=by rw [hW0,hz];simp
 have hB0:Base6 W0:=hB.below (hz▸hbA);have hS0:Strs W0 hv c.hosts:=hS.below (hz▸hbA);have HV:=KZ9 (fun (W1:World) (h1:Below W0.heap.size W0 W1)=>jx h W1 (hB0.below h1).1 hw (by omega));have HF:=KZ9 (fun (W1:World) (h1:Below W0.heap.size W0 W1)=>Yj h W1 (hB0.below h1) hw (by omega));have HC:=KZ9 (fun (W1:World) (h1:Below W0.heap.size W0 W1)=>gK hv c.hosts (mk (xK h)) W1 (hS0.below h1));have hdef:T7 c h=(yo h&&decide (xK h∈c.hosts)):=rfl;simp only [zk] at HC;obtain ⟨ok,hok⟩:=KZ6 (yo h);obtain ⟨cn,hcn⟩:=KZ6 (decide (xK h∈c.hosts));obtain ⟨tx,htx⟩:=KZ6 (mk (xK h));rw [←hok,←hcn] at hdef;simp only [←hok] at HV;simp only [←hcn,←htx] at HC;simp only [←htx] at HF;have HD:=KZ9 hdef;have HBA:=KZ9 hbA;have HZ:=KZ9 hz;have HI:=KZ9 (uf hw.1);have HB1:=KZ9 b1;have hz':=Nat.le_of_eq hz
 clear hW0 hbA hB hB0 hS hS0 hok hcn htx hdef hz;go_enter Tryz.func241,Tryz.ntmps241
 go_upto_region 1 with fail
 rw [HW0.out,←HZ.out];clear HW0;obtain ⟨kd,nm,va,v6⟩:=h;obtain ⟨a0,a1,a2,a3,a4,a5,a6,a7,rfl⟩:=Z5 hw.1;clear HB1 HI;obtain ⟨q0,q1,q2,q3,q4,q5,q6,q7,q8,q9,q10⟩:=BlkL.fs11 (fun x:xi W0=>(b1.below (by omega) x.2));have r4:=fun x:xi W0=>(b0.below (by omega) x.2).c 4 _ rfl;have F1:=KZ9 (fun x:xi W0=>HV.out x.1 x.2);have F2:=KZ9 (fun x:xi W0=>HF.out x.1 x.2);have F3:=KZ9 (fun x:xi W0=>HC.out x.1 x.2);clear b0 b1 HV HF HC;cases ok
 ·refine xI W0 (by kernel_rfl) (by kernel_rfl) (Below.refl _ _) ?_;repeat (go_big_quiet_step (fail))
  go_big_quiet_step (exact Calls.later (F1.out _))
  repeat (go_big_quiet_step (fail))
  refine wpQuiet_nil ?_;intro w5 hw';obtain ⟨⟨w6,hb6⟩,hw6⟩:=hw';have HB5:Hid (Below W0.heap.size W0 w5):=KZ9 (hw6▸hb6);clear hw6 hb6 q0 q1 q2 q3 q4 q5 q6 q7 q8 q9 q10 r4 F1 F2 F3;go_wp2;go_ret;rw [HD.out];exact ⟨rfl,HZ.out▸HBA.out.trans (HB5.out.mono (by omega))⟩
 refine xI W0 (by kernel_rfl) (by kernel_rfl) (Below.refl _ _) ?_;repeat (go_big_quiet_step (fail))
 go_big_quiet_step (exact Calls.later (F1.out _))
 repeat (go_big_quiet_step (fail))
 go_big_quiet_step (exact Calls.later (F2.out _))
 repeat (go_big_quiet_step (fail))
 go_big_quiet_step (exact Calls.later ((F3.out _).mono (fun _ _ h=>⟨h.1,by rw [←h.2];exact Below.refl _ _⟩)))
 repeat (go_big_quiet_step (fail))
 refine wpQuiet_nil ?_;intro w5 hw';obtain ⟨⟨w6,hb6⟩,hw6⟩:=hw';have HB5:Hid (Below W0.heap.size W0 w5):=KZ9 (hw6▸hb6);clear hw6 hb6 q0 q1 q2 q3 q4 q5 q6 q7 q8 q9 q10 r4 F1 F2 F3;go_wp2;go_ret;rw [HD.out];exact ⟨rfl,HZ.out▸HBA.out.trans (HB5.out.mono (by omega))⟩
end Go.Proofs.YtbnnlkdhpifpeaaGreatDoor
namespace Hs
open Go
theorem Rz (u:UrlP) (d:Int) (img:Bool) (c:CtxP) (v:CovP) (ins sb tr dat doc cat kd nv:Bool) (h8:nv=T7 c u.host) (h1:ins=decide (zS u.scheme=80)) (h2:sb=((v.source:Int) != 0)) (h3:tr=xS u) (h4:dat=decide (u.scheme=SX)) (h5:doc=(d==4)) (h6:cat=(je d img==2)) (h7:kd=((u.host.kind:Int)==1)) :
  vo u d img c v=if (ins&&sb)=true then ⟨2,2,yN (zT u)⟩ else if (tr||dat)=true then ⟨1,1,yN u⟩ else if (ins&&(c.upgrade&&(!doc||nv)))=true then ⟨2,3,yN (zT u)⟩ else if (doc|| !c.prohibits)=true then ⟨1,6,yN u⟩ else if (ins&&(cat&&(kd&& !c.blockAll)))=true then ⟨2,4,yN (zT u)⟩ else ⟨3,5,[]⟩:=by
 have k1:((u.host.kind:Int)==1)=decide (u.host.kind=1):=by rw [Bool.eq_iff_iff];simp;omega
 have k2:((v.source:Int) != 0)=decide (v.source≠0):=by rw [Bool.eq_iff_iff];simp
 unfold vo;subst h1 h2 h3 h4 h5 h6 h7 h8;rw [k1,k2];simp
end Hs
namespace Go.Proofs.YtbnnlkdhpifpeaaGreatDoor
open Go.RowKit Hs
set_option maxRecDepth 20000
set_option maxHeartbeats 8000000
theorem RW (u:UrlP) (d:Int) (img:Bool) (c:CtxP) (hv:Value) (v:CovP) (w:World) (hB:Base6 w) (hw:xR u.host) (hb:qW u) (hT:okT (xx u)) (hw':xR (zT u).host) (hb':qW (zT u)) (hT':okT (xx (zT u))) (hS:Strs w hv c.hosts) :
  Calls Tryz.prog 169 #[.agg (zb u).toArray,.int .i64 d,.bool img,.agg (yF c hv).toArray,.agg (zw v).toArray] w fun e w'=>e= .returned (.agg (yy (vo u d img c v)).toArray)∧Below w.heap.size w w':=by
 obtain ⟨z,hz⟩:=KZ6 w.heap.size;obtain ⟨W0,hW0⟩:=KZ6 ((((w.alloc (.cells (zb u).toArray 100)).alloc (.cells (yF c hv).toArray 120)).alloc (.cells (zw v).toArray 204)).alloc (.cells #[.int .i64 0,.int .i64 0,.string ⟨#[]⟩] 38));have hbA:Below z w W0:=by rw [hW0,hz];exact ((((Below.refl _ w).alloc (Nat.le_refl _) _).alloc (by simp) _).alloc (by simp;omega) _).alloc (by simp;omega) _
 have b0:BlkL W0 z 100 (zb u):=by rw [hW0,hz];exact (((BlkL.new w _ _).alloc _).alloc _).alloc _
 have b1:BlkL W0 (z+1) 120 (yF c hv):=by
  rw [hW0,hz];have:=((BlkL.new (w.alloc (.cells (zb u).toArray 100)) 120 (yF c hv)).alloc (.cells (zw v).toArray 204)).alloc (.cells #[.int .i64 0,.int .i64 0,.string ⟨#[]⟩] 38);simp only [World.size_alloc] at this;exact this
 have b2:BlkL W0 (z+2) 204 (zw v):=by
  rw [hW0,hz];have:=(BlkL.new ((w.alloc (.cells (zb u).toArray 100)).alloc (.cells (yF c hv).toArray 120)) 204 (zw v)).alloc (.cells #[.int .i64 0,.int .i64 0,.string ⟨#[]⟩] 38);simp only [World.size_alloc] at this;exact this
 have b3:BlkL W0 (z+3) 38 (yy ⟨0,0,[]⟩):=by
  rw [hW0,hz];have:=BlkL.new (((w.alloc (.cells (zb u).toArray 100)).alloc (.cells (yF c hv).toArray 120)).alloc (.cells (zw v).toArray 204)) 38 (yy ⟨0,0,[]⟩);simp only [World.size_alloc] at this;exact this
 have HW0:=KZ9 hW0.symm;have hsz:W0.heap.size=z+4:=by rw [hW0,hz];simp
 have HI0:=KZ9 (yg hw.1);have HW8:=KZ9 hw;have HB0:=KZ9 b0;have HBA:=KZ9 hbA;have HBB:=KZ9 hB;have HZ:=KZ9 hz;have hz':=Nat.le_of_eq hz;have HIN:=KZ9 (jJ u W0);have hB0:Base6 W0:=hB.below (hz▸hbA);have FM:=KZ9 (fun (W1:World) (h1:Below W0.heap.size W0 W1)=>bW u W1 (hB0.below h1) hw hb hT);have UP:=KZ9 (fun (W1:World)=>VI u W1 hw);have FM2:=KZ9 (fun (W1:World) (h1:Below W0.heap.size W0 W1)=>bW (zT u) W1 (hB0.below h1) hw' hb' hT');have OT:=KZ9 (fun (W1:World) (h1:Below W0.heap.size W0 W1)=>WQ u W1 (hB0.below h1) hw hb hT);have DC:=KZ9 (fun (W1:World)=>gI d img W1);have hbA':Below w.heap.size w W0:=hz▸hbA;have HNV:=KZ9 (fun (W1:World) (h1:Below W0.heap.size W0 W1)=>Pt c hv u.host W1 (hB0.below h1) (hS.below (hbA'.trans (h1.mono hbA'.size))) hw hb.2.2.1);obtain ⟨nv,hnv⟩:=KZ6 (T7 c u.host)
 simp only [←hnv] at HNV;obtain ⟨xs,xp,xu,xb,xh⟩:=c;have hdef:=Rz u d img ⟨xs,xp,xu,xb,xh⟩ v _ _ _ _ _ _ _ nv hnv rfl rfl rfl rfl rfl rfl rfl;obtain ⟨ins,hins⟩:=KZ6 (decide (zS u.scheme=80));rw [←hins] at hdef HIN;obtain ⟨tr,htr⟩:=KZ6 (xS u);simp only [←htr] at hdef OT;obtain ⟨fa,hfa⟩:=KZ6 (yN u);simp only [←hfa] at hdef FM;obtain ⟨fu,hfu⟩:=KZ6 (yN (zT u));simp only [←hfu] at hdef FM2;obtain ⟨ct,hct⟩:=KZ6 (je d img);simp only [←hct] at hdef DC;obtain ⟨ca,hca⟩:=KZ6 ((ct==2));obtain ⟨ki,hki⟩:=KZ6 (((u.host.kind:Int)==1));obtain ⟨dc,hdc⟩:=KZ6 ((d==4));obtain ⟨da,hda⟩:=KZ6 (decide (u.scheme=SX));obtain ⟨sb,hsb⟩:=KZ6 (((v.source:Int) != 0));rw [←hca,←hki,←hdc,←hda,←hsb] at hdef;have g1:(d==4)=dc:=hdc.symm;have g2:((v.source:Int) != 0)=sb:=hsb.symm;have g3:(ct==2)=ca:=hca.symm;have G4:=KZ9 hki
 have g5:((mk u.scheme).toList==([100,97,116,97]:Bs))=da:=by rw [toList_mk',ud];exact hda.symm
 clear hca hki hdc hda hsb;generalize vo u d img ⟨xs,xp,xu,xb,xh⟩ v=rv at hdef ⊢;have HDEF:=KZ9 hdef;clear hW0 b0 hbA hbA' hS hnv hB hT hb hb' hT' hw' hz hB0 hins htr hfa hfu hct hdef;go_enter Tryz.func169,Tryz.ntmps169
 go_upto_region 1 with fail
 rw [HW0.out,←HZ.out];clear HW0;rw [show z+1+1+1=z+3 from rfl,show z+1+1=z+2 from rfl];go_upto_region 2 with (refine wpList_load_row rfl 100 (.tmp 5) rfl z rfl 100 _ _ _ HB0.out Tryz.underlying100 rfl HI0.out ?_)
 all_goals try omega
 refine HIN.out.mono ?_;rintro e w1 ⟨rfl,hb1⟩;go_upto_region 2 with fail
 have hs1:=hb1.size;have B0:=HB0.out.below (by omega) hb1;have B1:=b1.below (by omega) hb1;have B2:=b2.below (by omega) hb1;have B3:=b3.below (by omega) hb1;have HA1:=KZ9 (HBA.out.trans (hb1.mono (by omega)));have F1:=KZ9 (fun x:xi w1=>FM.out x.1 (hb1.trans (x.2.mono hs1)));have F2:=KZ9 (fun x:xi w1=>FM2.out x.1 (hb1.trans (x.2.mono hs1)));have F3:=KZ9 (fun x:xi w1=>UP.out x.1);have NV1:=KZ9 (fun (W1:World) (h1:Below w1.heap.size w1 W1)=>HNV.out W1 (hb1.trans (h1.mono hs1)));have OT1:=KZ9 (fun (W1:World) (h1:Below w1.heap.size w1 W1)=>OT.out W1 (hb1.trans (h1.mono hs1)));clear b1 b2 b3 HB0 HBA hb1 FM FM2 UP OT HIN HI0 HBB HNV;obtain ⟨sc,us,⟨kd,nm,va,v6⟩,pt,rs⟩:=u;obtain ⟨a0,a1,a2,a3,a4,a5,a6,a7,rfl⟩:=Z5 HW8.out.1;obtain ⟨q0,q1,q2,q3,q4,q5,q6,q7,q8,q9,q10,q11,q12,q13,q14⟩:=BlkL.fs15 (fun x:xi w1=>(B0.below (by omega) x.2))
 refine xI w1 (by kernel_rfl) (by kernel_rfl) (Below.refl _ _) ?_;repeat (go_big_quiet_step (fail))
 go_big_quiet_step (exact Calls.later (F1.out _))
 repeat (go_big_quiet_step (fail))
 go_big_quiet_step (exact Calls.later (F3.out _))
 repeat (go_big_quiet_step (fail))
 go_big_quiet_step (exact Calls.later (F2.out _))
 repeat (go_big_quiet_step (fail))
 refine wpQuiet_nil ?_;intro w5 hw';obtain ⟨⟨w6,hb6⟩,hw6⟩:=hw';have hb5:Below w1.heap.size w1 w5:=hw6▸hb6;clear hw6 hb6;have hs5:=hb5.size;have C0:=B0.below (by omega) hb5;have C1:=B1.below (by omega) hb5;have C2:=B2.below (by omega) hb5;have C3:=B3.below (by omega) hb5;have HA5:=KZ9 (HA1.out.trans (hb5.mono (by omega)));have OT5:=KZ9 (OT1.out w5 hb5);have NV5:=KZ9 (fun (W1:World) (h1:Below w5.heap.size w5 W1)=>NV1.out W1 (hb5.trans (h1.mono hb5.size)));clear NV1 q0 q1 q2 q3 q4 q5 q6 q7 q8 q9 q10 q11 q12 q13 q14 B0 B1 B2 B3 HA1 F1 F2 F3 OT1 hb5;have v0:=C2.c 0 _ rfl;have x1:=C1.c 1 _ rfl;have x2:=C1.c 2 _ rfl;have x3:=C1.c 3 _ rfl;obtain ⟨r0,r1,r2⟩:=BlkL.cs3 C3;have t0:=C3.f 0;have t1:=C3.f 1;have t2:=C3.f 2;obtain ⟨y0,y1,y2,y3,y4,y5,y6,y7,y8,y9,y10,y11,y12,y13,y14⟩:=BlkL.cs15 C0;cases ins
 ·go_wp2_with fail
  all_goals try omega
  refine OT5.out.mono ?_;rintro e w6 ⟨rfl,hb6⟩;have hs6:=hb6.size;have D0:=C0.below (by omega) hb6;have D1:=C1.below (by omega) hb6;have HD3:=KZ9 (C3.below (by omega) hb6);have HA6:=KZ9 (HA5.out.trans (hb6.mono (by omega)));clear hb6 x1 x2 x3 v0 r0 r1 r2 t0 t1 t2 OT5 C0 C1 C2 C3 HA5 y0 y1 y2 y3 y4 y5 y6 y7 y8 y9 y10 y11 y12 y13 y14;obtain ⟨r0,r1,r2⟩:=BlkL.cs3 HD3.out;have t0:=HD3.out.f 0;have t1:=HD3.out.f 1;have t2:=HD3.out.f 2;have x1:=D1.c 1 _ rfl;have x2:=D1.c 2 _ rfl;have x3:=D1.c 3 _ rfl;have y0:=D0.c 0 _ rfl;have y2:=D0.c 2 _ rfl;clear D0 D1;cases tr
  ·cases da
   ·cases dc
    ·cases xp
     ·have hfin:Hid (rv=⟨1,6,fa⟩):=KZ9 HDEF.out;go_wp2
      all_goals try omega
      refine bodyPost_ret (results_cell_row rfl _ _ (z+3) 38 _ _ _ rfl (zO HD3.out rfl (.int .i64 ((1:Nat):Int)) (.int .i64 ((6:Nat):Int)) (.string (mk fa))) Tryz.underlying38 rfl yi) rfl ?_;rw [hfin.out];exact ⟨rfl,HZ.out▸zC HA6.out (by omega) _ _ _⟩
     have hfin:Hid (rv=⟨3,5,[]⟩):=KZ9 HDEF.out;go_wp2
     all_goals try omega
     refine bodyPost_ret (results_cell_row rfl _ _ (z+3) 38 _ _ _ rfl (zO HD3.out rfl (.int .i64 ((3:Nat):Int)) (.int .i64 ((5:Nat):Int)) (.string (mk []))) Tryz.underlying38 rfl yi) rfl ?_;rw [hfin.out];exact ⟨rfl,HZ.out▸zC HA6.out (by omega) _ _ _⟩
    have hfin:Hid (rv=⟨1,6,fa⟩):=KZ9 HDEF.out;go_wp2
    all_goals try omega
    refine bodyPost_ret (results_cell_row rfl _ _ (z+3) 38 _ _ _ rfl (zO HD3.out rfl (.int .i64 ((1:Nat):Int)) (.int .i64 ((6:Nat):Int)) (.string (mk fa))) Tryz.underlying38 rfl yi) rfl ?_;rw [hfin.out];exact ⟨rfl,HZ.out▸zC HA6.out (by omega) _ _ _⟩
   have hfin:Hid (rv=⟨1,1,fa⟩):=KZ9 HDEF.out;go_wp2
   all_goals try omega
   refine bodyPost_ret (results_cell_row rfl _ _ (z+3) 38 _ _ _ rfl (zO HD3.out rfl (.int .i64 ((1:Nat):Int)) (.int .i64 ((1:Nat):Int)) (.string (mk fa))) Tryz.underlying38 rfl yi) rfl ?_;rw [hfin.out];exact ⟨rfl,HZ.out▸zC HA6.out (by omega) _ _ _⟩
  have hfin:Hid (rv=⟨1,1,fa⟩):=KZ9 HDEF.out;go_wp2
  all_goals try omega
  refine bodyPost_ret (results_cell_row rfl _ _ (z+3) 38 _ _ _ rfl (zO HD3.out rfl (.int .i64 ((1:Nat):Int)) (.int .i64 ((1:Nat):Int)) (.string (mk fa))) Tryz.underlying38 rfl yi) rfl ?_;rw [hfin.out];exact ⟨rfl,HZ.out▸zC HA6.out (by omega) _ _ _⟩
 cases sb
 ·go_wp2_with fail
  all_goals try omega
  refine OT5.out.mono ?_;rintro e w6 ⟨rfl,hb6⟩;have hs6:=hb6.size;have D0:=C0.below (by omega) hb6;have D1:=C1.below (by omega) hb6;have HD0:=KZ9 D0;have HD1:=KZ9 D1;have NV6:=KZ9 (NV5.out _ hb6);have HD3:=KZ9 (C3.below (by omega) hb6);have HA6:=KZ9 (HA5.out.trans (hb6.mono (by omega)));clear hb6 x1 x2 x3 v0 r0 r1 r2 t0 t1 t2 OT5 C0 C1 C2 C3 HA5 y0 y1 y2 y3 y4 y5 y6 y7 y8 y9 y10 y11 y12 y13 y14;obtain ⟨r0,r1,r2⟩:=BlkL.cs3 HD3.out;have t0:=HD3.out.f 0;have t1:=HD3.out.f 1;have t2:=HD3.out.f 2;have x1:=D1.c 1 _ rfl;have x2:=D1.c 2 _ rfl;have x3:=D1.c 3 _ rfl;have y0:=D0.c 0 _ rfl;have y2:=D0.c 2 _ rfl;clear D0 D1;cases tr
  ·cases da
   ·cases xu
    ·cases dc
     ·cases xp
      ·have hfin:Hid (rv=⟨1,6,fa⟩):=KZ9 HDEF.out;go_wp2
       all_goals try omega
       refine bodyPost_ret (results_cell_row rfl _ _ (z+3) 38 _ _ _ rfl (zO HD3.out rfl (.int .i64 ((1:Nat):Int)) (.int .i64 ((6:Nat):Int)) (.string (mk fa))) Tryz.underlying38 rfl yi) rfl ?_;rw [hfin.out];exact ⟨rfl,HZ.out▸zC HA6.out (by omega) _ _ _⟩
      go_wp2_with fail
      all_goals try omega
      refine (DC.out _).mono ?_;rintro e w7 ⟨rfl,rfl⟩;cases ca
      ·have hfin:Hid (rv=⟨3,5,[]⟩):=KZ9 HDEF.out;go_wp2
       all_goals try omega
       refine bodyPost_ret (results_cell_row rfl _ _ (z+3) 38 _ _ _ rfl (zO HD3.out rfl (.int .i64 ((3:Nat):Int)) (.int .i64 ((5:Nat):Int)) (.string (mk []))) Tryz.underlying38 rfl yi) rfl ?_;rw [hfin.out];exact ⟨rfl,HZ.out▸zC HA6.out (by omega) _ _ _⟩
      cases ki
      ·have g4:=G4.out.symm;have hfin:Hid (rv=⟨3,5,[]⟩):=KZ9 HDEF.out;go_wp2
       all_goals try omega
       refine bodyPost_ret (results_cell_row rfl _ _ (z+3) 38 _ _ _ rfl (zO HD3.out rfl (.int .i64 ((3:Nat):Int)) (.int .i64 ((5:Nat):Int)) (.string (mk []))) Tryz.underlying38 rfl yi) rfl ?_;rw [hfin.out];exact ⟨rfl,HZ.out▸zC HA6.out (by omega) _ _ _⟩
      have g4:=G4.out.symm;cases xb
      ·have hfin:Hid (rv=⟨2,4,fu⟩):=KZ9 HDEF.out;go_wp2
       all_goals try omega
       refine bodyPost_ret (results_cell_row rfl _ _ (z+3) 38 _ _ _ rfl (zO HD3.out rfl (.int .i64 ((2:Nat):Int)) (.int .i64 ((4:Nat):Int)) (.string (mk fu))) Tryz.underlying38 rfl yi) rfl ?_;rw [hfin.out];exact ⟨rfl,HZ.out▸zC HA6.out (by omega) _ _ _⟩
      have hfin:Hid (rv=⟨3,5,[]⟩):=KZ9 HDEF.out;go_wp2
      all_goals try omega
      refine bodyPost_ret (results_cell_row rfl _ _ (z+3) 38 _ _ _ rfl (zO HD3.out rfl (.int .i64 ((3:Nat):Int)) (.int .i64 ((5:Nat):Int)) (.string (mk []))) Tryz.underlying38 rfl yi) rfl ?_;rw [hfin.out];exact ⟨rfl,HZ.out▸zC HA6.out (by omega) _ _ _⟩
     have hfin:Hid (rv=⟨1,6,fa⟩):=KZ9 HDEF.out;go_wp2
     all_goals try omega
     refine bodyPost_ret (results_cell_row rfl _ _ (z+3) 38 _ _ _ rfl (zO HD3.out rfl (.int .i64 ((1:Nat):Int)) (.int .i64 ((6:Nat):Int)) (.string (mk fa))) Tryz.underlying38 rfl yi) rfl ?_;rw [hfin.out];exact ⟨rfl,HZ.out▸zC HA6.out (by omega) _ _ _⟩
    cases dc
    ·have hfin:Hid (rv=⟨2,3,fu⟩):=KZ9 HDEF.out;go_wp2
     all_goals try omega
     refine bodyPost_ret (results_cell_row rfl _ _ (z+3) 38 _ _ _ rfl (zO HD3.out rfl (.int .i64 ((2:Nat):Int)) (.int .i64 ((3:Nat):Int)) (.string (mk fu))) Tryz.underlying38 rfl yi) rfl ?_;rw [hfin.out];exact ⟨rfl,HZ.out▸zC HA6.out (by omega) _ _ _⟩
    have x0:=HD1.out.c 0 _ rfl;have x4:=HD1.out.c 4 _ rfl;have y3:=HD0.out.c 3 _ rfl;have y4:=HD0.out.c 4 _ rfl;have y5:=HD0.out.c 5 _ rfl;have y6:=HD0.out.c 6 _ rfl;have y7:=HD0.out.c 7 _ rfl;have y8:=HD0.out.c 8 _ rfl;have y9:=HD0.out.c 9 _ rfl;have y10:=HD0.out.c 10 _ rfl;have y11:=HD0.out.c 11 _ rfl;have y12:=HD0.out.c 12 _ rfl;go_wp2_with fail
    all_goals try omega
    refine NV6.out.mono ?_;rintro e w8 ⟨rfl,hb8⟩;have E1:=HD1.out.below (by omega) hb8;have HE3:=KZ9 (HD3.out.below (by omega) hb8);have HA8:=KZ9 (HA6.out.trans (hb8.mono (by omega)));clear hb8 x0 x1 x2 x3 x4 y0 y2 y3 y4 y5 y6 y7 y8 y9 y10 y11 y12 r0 r1 r2 t0 t1 t2;have x1:=E1.c 1 _ rfl;obtain ⟨r0,r1,r2⟩:=BlkL.cs3 HE3.out;have t0:=HE3.out.f 0;have t1:=HE3.out.f 1;have t2:=HE3.out.f 2;clear E1;cases nv
    ·have hfin:Hid (rv=⟨1,6,fa⟩):=KZ9 HDEF.out;go_wp2
     all_goals try omega
     refine bodyPost_ret (results_cell_row rfl _ _ (z+3) 38 _ _ _ rfl (zO HE3.out rfl (.int .i64 ((1:Nat):Int)) (.int .i64 ((6:Nat):Int)) (.string (mk fa))) Tryz.underlying38 rfl yi) rfl ?_;rw [hfin.out];exact ⟨rfl,HZ.out▸zC HA8.out (by omega) _ _ _⟩
    have hfin:Hid (rv=⟨2,3,fu⟩):=KZ9 HDEF.out;go_wp2
    all_goals try omega
    refine bodyPost_ret (results_cell_row rfl _ _ (z+3) 38 _ _ _ rfl (zO HE3.out rfl (.int .i64 ((2:Nat):Int)) (.int .i64 ((3:Nat):Int)) (.string (mk fu))) Tryz.underlying38 rfl yi) rfl ?_;rw [hfin.out];exact ⟨rfl,HZ.out▸zC HA8.out (by omega) _ _ _⟩
   have hfin:Hid (rv=⟨1,1,fa⟩):=KZ9 HDEF.out;go_wp2
   all_goals try omega
   refine bodyPost_ret (results_cell_row rfl _ _ (z+3) 38 _ _ _ rfl (zO HD3.out rfl (.int .i64 ((1:Nat):Int)) (.int .i64 ((1:Nat):Int)) (.string (mk fa))) Tryz.underlying38 rfl yi) rfl ?_;rw [hfin.out];exact ⟨rfl,HZ.out▸zC HA6.out (by omega) _ _ _⟩
  have hfin:Hid (rv=⟨1,1,fa⟩):=KZ9 HDEF.out;go_wp2
  all_goals try omega
  refine bodyPost_ret (results_cell_row rfl _ _ (z+3) 38 _ _ _ rfl (zO HD3.out rfl (.int .i64 ((1:Nat):Int)) (.int .i64 ((1:Nat):Int)) (.string (mk fa))) Tryz.underlying38 rfl yi) rfl ?_;rw [hfin.out];exact ⟨rfl,HZ.out▸zC HA6.out (by omega) _ _ _⟩
 have HC3:=KZ9 C3;have hfin:Hid (rv=⟨2,2,fu⟩):=KZ9 HDEF.out;go_wp2
 all_goals try omega
 refine bodyPost_ret (results_cell_row rfl _ _ (z+3) 38 _ _ _ rfl (zO HC3.out rfl (.int .i64 ((2:Nat):Int)) (.int .i64 ((2:Nat):Int)) (.string (mk fu))) Tryz.underlying38 rfl yi) rfl ?_;rw [hfin.out];exact ⟨rfl,HZ.out▸zC HA5.out (by omega) _ _ _⟩
theorem ZW (u:UrlP) (d:Int) (img:Bool) (c:CtxP) (hv:Value) (v:CovP) (w:World) (hB:Base6 w) (hw:xR u.host) (hb:qW u) (hT:okT (xx u)) (hw':xR (zT u).host) (hb':qW (zT u)) (hT':okT (xx (zT u))) (hS:Strs w hv c.hosts) (hvu:yY u=true) :
  Calls Tryz.prog 105 #[.agg (zb u).toArray,.int .i64 d,.bool img,.agg (yF c hv).toArray,.agg (zw v).toArray] w fun e w'=>e= .returned (.tuple #[.agg (yy (if uG d=true then vo u d img c v else SH)).toArray,.int .i64 (if uG d=true then 0 else 2)])∧Below w.heap.size w w':=by
 obtain ⟨z,hz⟩:=KZ6 w.heap.size;obtain ⟨W0,hW0⟩:=KZ6 ((((w.alloc (.cells (zb u).toArray 100)).alloc (.cells (yF c hv).toArray 120)).alloc (.cells (zw v).toArray 204)).alloc (.cells #[.int .i64 0,.int .i64 0,.string ⟨#[]⟩] 38));have hbA:Below z w W0:=by rw [hW0,hz];exact ((((Below.refl _ w).alloc (Nat.le_refl _) _).alloc (by simp) _).alloc (by simp;omega) _).alloc (by simp;omega) _
 have b0:BlkL W0 z 100 (zb u):=by rw [hW0,hz];exact (((BlkL.new w _ _).alloc _).alloc _).alloc _
 have b1:BlkL W0 (z+1) 120 (yF c hv):=by
  rw [hW0,hz];have:=((BlkL.new (w.alloc (.cells (zb u).toArray 100)) 120 (yF c hv)).alloc (.cells (zw v).toArray 204)).alloc (.cells #[.int .i64 0,.int .i64 0,.string ⟨#[]⟩] 38);simp only [World.size_alloc] at this;exact this
 have b2:BlkL W0 (z+2) 204 (zw v):=by
  rw [hW0,hz];have:=(BlkL.new ((w.alloc (.cells (zb u).toArray 100)).alloc (.cells (yF c hv).toArray 120)) 204 (zw v)).alloc (.cells #[.int .i64 0,.int .i64 0,.string ⟨#[]⟩] 38);simp only [World.size_alloc] at this;exact this
 have b3:BlkL W0 (z+3) 38 (yy ⟨0,0,[]⟩):=by
  rw [hW0,hz];have:=BlkL.new (((w.alloc (.cells (zb u).toArray 100)).alloc (.cells (yF c hv).toArray 120)).alloc (.cells (zw v).toArray 204)) 38 (yy ⟨0,0,[]⟩);simp only [World.size_alloc] at this;exact this
 have HW0:=KZ9 hW0.symm;have hsz:W0.heap.size=z+4:=by rw [hW0,hz];simp
 have HI0:=KZ9 (yg hw.1);have HB0:=KZ9 b0;have HBA:=KZ9 hbA;have HZ:=KZ9 hz;have hz':=Nat.le_of_eq hz;have hB0:Base6 W0:=hB.below (hz▸hbA);have hval:=cf u W0 hB0 hw hb hT;rw [hvu] at hval;have HVAL:=KZ9 hval;have hdv:=fun W=>ql d W;obtain ⟨vb,hvb⟩:=KZ6 (uG d);simp only [←hvb] at hdv ⊢;have hbA':Below w.heap.size w W0:=hz▸hbA;have HDV:=KZ9 hdv;have HR:=KZ9 (fun (W1:World) (h1:Below W0.heap.size W0 W1)=>RW u d img c hv v W1 (hB0.below h1) hw hb hT hw' hb' hT' (hS.below (hbA'.trans (h1.mono hbA'.size))));generalize vo u d img c v=rv at *;clear hW0 b0 hbA hbA' hB hT hb hb' hT' hw' hz hB0 hvu hvb hval hdv hS;go_enter Tryz.func105,Tryz.ntmps105
 go_upto_region 1 with fail
 rw [HW0.out,←HZ.out];clear HW0;rw [show z+1+1+1=z+3 from rfl,show z+1+1=z+2 from rfl];go_wp2_with (refine wpList_load_row rfl 100 (.tmp 5) rfl z rfl 100 _ _ _ HB0.out Tryz.underlying100 rfl HI0.out ?_)
 all_goals try omega
 refine HVAL.out.mono ?_;rintro e w1 ⟨rfl,hb1⟩;have hs1:=hb1.size;have B0:=KZ9 (HB0.out.below (by omega) hb1);have B1:=KZ9 (b1.below (by omega) hb1);have B2:=KZ9 (b2.below (by omega) hb1);have B3:=KZ9 (b3.below (by omega) hb1);have HA1:=KZ9 (HBA.out.trans (hb1.mono (by omega)));have HR1:=KZ9 (HR.out w1 hb1);clear HB0 b1 b2 b3 HBA hb1 HR HVAL;go_wp2_with fail
 all_goals try omega
 refine (HDV.out _).mono ?_;rintro e w7 ⟨rfl,rfl⟩;cases vb
 ·clear HR1;go_wp2_with (refine wpList_store_row rfl 38 (.tmp 10) (.tmp 21) rfl (z+3) (yy SH).toArray rfl rfl 38 _ B3.out yi rfl (zh (bK _)) ?_)
  all_goals try omega
  refine bodyPost_ret (zf rfl _ _ (z+3) 38 _ _ rfl (B3.out.setRow (yy SH)) Tryz.underlying38 rfl yi) rfl ?_;exact ⟨rfl,HZ.out▸below_setRow HA1.out (by omega) _⟩
 go_wp2_with (first
  | refine wpList_load_row rfl 100 (.tmp 5) rfl z rfl 100 _ _ _ B0.out Tryz.underlying100 rfl HI0.out ?_
  | refine wpList_load_row rfl 120 (.tmp 8) rfl (z+1) rfl 120 _ _ _ B1.out Tryz.underlying120 rfl Va ?_
  | refine wpList_load_row rfl 204 (.tmp 9) rfl (z+2) rfl 204 _ _ _ B2.out Tryz.underlying204 rfl zQ ?_)
 all_goals try omega
 refine HR1.out.mono ?_;rintro e w2 ⟨rfl,hb2⟩;have hs2:=hb2.size;have D3:=KZ9 (B3.out.below (by omega) hb2);have HA2:=KZ9 (HA1.out.trans (hb2.mono (by omega)));clear hb2 HR1 B0 B1 B2 B3 HA1;go_wp2_with (refine wpList_store_row rfl 38 (.tmp 10) (.tmp 27) rfl (z+3) (yy rv).toArray rfl rfl 38 _ D3.out yi rfl (zh (bK _)) ?_)
 all_goals try omega
 refine bodyPost_ret (zf rfl _ _ (z+3) 38 _ _ rfl (D3.out.setRow (yy rv)) Tryz.underlying38 rfl yi) rfl ?_;exact ⟨rfl,HZ.out▸below_setRow HA2.out (by omega) _⟩
end Go.Proofs.YtbnnlkdhpifpeaaGreatDoor
