/- What the proof of TopDecisionTable uses, part Dec03. -/
import Derived.Test.YtjbciamhhfcdoaaGreatDoorDec02
import Derived.RangeFuncNested
import Derived.Shelf.Spec.SlicesInsertGrow
import Derived.Deep.RegionHeld3
set_option linter.unusedSimpArgs false
set_option linter.unusedVariables false
namespace Hs
open Go Go.RowKit
theorem qW {l:Bs} (h:¬ (1≤l.length∧l.length≤63∧l.head? ≠some 45∧l.getLast? ≠some 45)):ya l=false:=by unfold ya;rw [KZ8 h];rfl
theorem jh {l:Bs} (h:1≤l.length∧l.length≤63∧l.head? ≠some 45∧l.getLast? ≠some 45):ya l=(l.all sj&&(!(decide (l.take 4=[120,110,45,45]))||uY (l.drop 4))):=by unfold ya;rw [KZ7 h,Bool.true_and]
theorem rU (l:Bs) (f:UInt8→Bool) (k:Nat) (h:k<l.length):(l.drop k).all f=(f l[k]&&(l.drop (k+1)).all f):=by
 rw [List.drop_eq_getElem_cons h,List.all_cons]
theorem pg (s:ByteArray) (h:0<s.size):(un s).head? =some s[0]:=by
 rw [List.head?_eq_getElem?,List.getElem?_eq_getElem (by simpa using h),zL s 0 h]
theorem qU (s:ByteArray) (h:0<s.size):(un s).getLast? =some (s[s.size - 1]'(by omega)):=by
 rw [List.getLast?_eq_getElem?,zb,List.getElem?_eq_getElem (by rw [zb];omega),zL s (s.size - 1) (by omega)]
theorem Pt {b:UInt8} (h:b.toNat≠45):b≠45:=fun e=>h (by rw [e];rfl)
theorem PJ {b:UInt8} (h:b.toNat=45):b=45:=UInt8.toNat_inj.1 h
end Hs
namespace Go.Proofs.YtjbciamhhfcdoaaGreatDoor
open Go.RowKit Hs
set_option maxRecDepth 20000
set_option maxHeartbeats 4000000
theorem pF (s:ByteArray) (w:World) (hs:s.size≤100000000):Calls Tryz.prog 29 #[.string s] w fun e w'=>e= .returned (.bool (ya (un s)))∧Below w.heap.size w w':=by
 have hlen:(un s).length=s.size:=zb s;have hF:=@qW (un s);have hG:=@jh (un s);rcases Nat.eq_zero_or_pos s.size with h0 | hpos
 ·have hfin:=KZ9 (hF (by rw [hlen];omega));have hsE:s=⟨#[]⟩:=by
   apply sJ;exact List.eq_nil_of_length_eq_zero (by omega)
  subst hsE;clear hF hG hlen h0 hs;go_enter Tryz.func29,Tryz.ntmps29
  go_wp2
  all_goals try omega
  go_ret;rw [hfin.out];exact ⟨rfl,Below.refl _ _⟩
 have hh:=pg s hpos;have hl:=qU s hpos;rw [hh,hl,hlen] at hF hG;obtain ⟨n,hn⟩:=KZ6 s.size;have hem:s.toList.isEmpty=false:=by
  rw [List.isEmpty_eq_false_iff,zl];intro h;rw [h] at hlen;simp at hlen;omega
 have hp1:s.size - 1<s.size:=by omega
 have hF63:=KZ9 (fun h:63<s.size=>hF (by omega));have hF0:=KZ9 (fun h:s[0].toNat=45=>hF (by rw [PJ h];simp));have hFz:=KZ9 (fun h:(s[s.size - 1]'hp1).toNat=45=>hF (by rw [PJ h];simp));have hGG:=KZ9 (fun (h1:¬ 63<s.size) (h2:s[0].toNat≠45) (h3:(s[s.size - 1]'hp1).toNat≠45)=>hG ⟨by omega,by omega,by simpa using Pt h2,by simpa using Pt h3⟩);clear hF hG hh hl;go_enter Tryz.func29,Tryz.ntmps29
 by_cases h63:63<s.size
 ·have hfin:=KZ9 (hF63.out h63);clear hF63 hF0 hFz hGG;go_wp2
  all_goals try omega
  go_ret;rw [hfin.out];exact ⟨rfl,Below.refl _ _⟩
 have g0:decide ((63:Int)<(s.size:Int))=false:=KZ8 (by omega);by_cases hA:s[0].toNat=45
 ·have hfin:=KZ9 (hF0.out hA);have c0:(s[0].toNat:Int)=45:=by omega
  clear hF63 hF0 hFz hGG hA;go_wp2
  all_goals try omega
  go_ret;rw [hfin.out];exact ⟨rfl,Below.refl _ _⟩
 by_cases hZ:(s[s.size - 1]'hp1).toNat=45
 ·have hfin:=KZ9 (hFz.out hZ);have g1:((s[0].toNat:Int)==45)=false:=by simp;omega
  have c1:((s[s.size - 1]'hp1).toNat:Int)=45:=by omega
  clear hF63 hF0 hFz hGG hA hZ;go_wp2
  all_goals try omega
  go_ret;rw [hfin.out];exact ⟨rfl,Below.refl _ _⟩
 have hdef:=hGG.out h63 hA hZ;have g1:((s[0].toNat:Int)==45)=false:=by simp;omega
 have g2:(((s[s.size - 1]'hp1).toNat:Int)==45)=false:=by simp;omega
 obtain ⟨l,hl⟩:=KZ6 (un s);rw [←hl] at hdef hlen ⊢;have HL:=KZ9 hl;have HDEF:=KZ9 hdef;have HLEN:=KZ9 hlen;clear hF63 hF0 hFz hGG hA hZ hdef hl hlen;go_wp2
 all_goals try omega
 clear g1 g2 g0;go_loop [3] (fun iv=>∃ k:Nat,iv= .int .i64 k∧k≤s.size∧Hid (l.all sj=(l.drop k).all sj)) (fun iv=>s.size - (intOf iv).toNat)
 case atStart=>exact ⟨0,rfl,by omega,KZ9 (by rw [List.drop_zero])⟩
 case round =>
  obtain ⟨k,rfl,hk,hall⟩:=hrel;by_cases hlt:k<s.size
  ·have hkl:k<l.length:=by rw [HLEN.out];exact hlt
   have hx:l[k]=s[k]:=by
    have:=HL.out;subst this;exact zL s k hlt
   have hstep:=rU l sj k hkl;rw [hx] at hstep;have hb256:=(s[k]).toNat_lt;have hlab:sj s[k]=decide ((97≤(s[k]).toNat∧(s[k]).toNat≤122)∨(48≤(s[k]).toNat∧(s[k]).toNat≤57)∨(s[k]).toNat=45∨(s[k]).toNat=95):=rfl;obtain ⟨x,hx2⟩:=KZ6 ((s[k]).toNat);have cs:(s[k].toNat:Int)=(x:Int):=by rw [hx2]
   rw [←hx2] at hb256 hlab;rw [hlab] at hstep;have HST:=KZ9 hstep;clear hstep hlab hx hx2 hkl;by_cases hok:(97≤x∧x≤122)∨(48≤x∧x≤57)∨x=45∨x=95
   ·have hall2:Hid (l.all sj=(l.drop (k+1)).all sj):=KZ9 (by rw [hall.out,HST.out,KZ7 hok,Bool.true_and]);clear hall HST;rcases hok with hok | hok | rfl | rfl
    all_goals
     go_wp2
     all_goals try omega
     go_round
     case rel=>exact ⟨k+1,by go_num,by omega,hall2⟩
     case measure=>simp [intOf];omega
   have hfin:Hid (ya l=false):=KZ9 (by rw [HDEF.out,hall.out,HST.out,KZ8 hok];rfl);have g45:((x:Int)==45)=false:=by simp;omega
   have g95:((x:Int)==95)=false:=by simp;omega
   clear hall HST HDEF;go_wp2
   all_goals try omega
   all_goals
    go_ret;rw [hfin.out];exact ⟨rfl,Below.refl _ _⟩
  have hall2:l.all sj=true:=by rw [hall.out,List.drop_of_length_le (by rw [HLEN.out];omega)];rfl
  have hdef2:=HDEF.out;rw [hall2,Bool.true_and] at hdef2;have HDEF2:=KZ9 hdef2;clear hdef2 hall2 hall HDEF;by_cases h4:s.size<4
  ·have hne:¬ l.take 4=[120,110,45,45]:=by
    intro h;have:=congrArg List.length h;rw [List.length_take,HLEN.out] at this;simp at this;omega
   have hfin:=HDEF2.out;rw [KZ8 hne,Bool.not_false,Bool.true_or] at hfin;have HFIN:=KZ9 hfin;clear HDEF2 hfin hne;have g4:decide ((s.size:Int)<4)=true:=KZ7 (by omega);go_wp2
   all_goals try omega
   go_ret;rw [HFIN.out];exact ⟨rfl,Below.refl _ _⟩
  have g4:decide ((s.size:Int)<4)=false:=KZ8 (by omega);have h4I:(4:Int)≤(s.size:Int):=by omega
  have hx4:un (s.extract 0 4)=l.take 4:=by rw [xk,HL.out];simp
  have hxr:un (s.extract 4 s.size)=l.drop 4:=by
   rw [xk,HL.out];apply List.take_of_length_le;rw [List.length_drop,zb];exact Nat.le_refl _
  have hpr:=VI (s.extract 4 s.size) w (by have:=congrArg List.length hxr;rw [zb,List.length_drop,HLEN.out] at this;omega);rw [hxr] at hpr;have HPR:=KZ9 hpr;obtain ⟨x4,hx⟩:=KZ6 (s.extract 0 4);rw [←hx] at hx4;have hx':s.extract 0 4=x4:=hx.symm;clear hpr hx;by_cases hp:l.take 4=[120,110,45,45]
  ·have hq:(x4.toList==[120,110,45,45])=true:=by rw [zl,hx4,hp];rfl
   have hq2:(x4.toList != [120,110,45,45])=false:=by rw [bne,hq];rfl
   have hfin:=HDEF2.out;rw [KZ7 hp,Bool.not_true,Bool.false_or] at hfin;have HFIN:=KZ9 hfin;clear HDEF2 hfin hp hx4 hxr;go_wp2_with fail
   all_goals try omega
   refine HPR.out.mono ?_;rintro e w9 ⟨rfl,hb9⟩;go_wp2
   all_goals try omega
   go_ret;rw [HFIN.out];exact ⟨rfl,hb9⟩
  have hq:(x4.toList==[120,110,45,45])=false:=by
   rw [zl,hx4]
   simpa using hp
  have hq2:(x4.toList != [120,110,45,45])=true:=by rw [bne,hq];rfl
  have hfin:=HDEF2.out;rw [KZ8 hp,Bool.not_false,Bool.true_or] at hfin;have HFIN:=KZ9 hfin;clear HDEF2 hfin hp hx4 hxr;go_wp2
  all_goals try omega
  go_ret;rw [HFIN.out];exact ⟨rfl,Below.refl _ _⟩
end Go.Proofs.YtjbciamhhfcdoaaGreatDoor
namespace Hs
open Go Go.RowKit
def BlkL (w:World) (g:Nat) (T:TypeId) (l:List Value):Prop:=w.heap[g]? =some (.cells l.toArray T (0,0))
variable {w w' : World} {g : Nat} {T : TypeId} {l : List Value}
theorem BlkL.lt (h:BlkL w g T l):g<w.heap.size:=(Array.getElem?_eq_some_iff.1 h).1
theorem BlkL.c (h:BlkL w g T l) (k:Nat) (v:Value) (hk:l[k]? =some v):w.cell? ⟨g,k,none⟩=some v:=by
 unfold BlkL at h;simp [World.cell?,h,hk]
theorem BlkL.cs3 {w:World} {g:Nat} {T:TypeId} {v0 v1 v2:Value} {r:List Value} (h:BlkL w g T (v0::v1::v2::r)):w.cell? ⟨g,0,none⟩=some v0∧w.cell? ⟨g,1,none⟩=some v1∧w.cell? ⟨g,2,none⟩=some v2:=⟨h.c 0 _ rfl,h.c 1 _ rfl,h.c 2 _ rfl⟩
theorem BlkL.fs3 {α:Type} {f:α→World} {g:Nat} {T:TypeId} {v0 v1 v2:Value} {r:List Value} (h:∀ x,BlkL (f x) g T (v0::v1::v2::r)):(∀ x,(f x).cell? ⟨g,0,none⟩=some v0)∧(∀ x,(f x).cell? ⟨g,1,none⟩=some v1)∧(∀ x,(f x).cell? ⟨g,2,none⟩=some v2):=⟨fun x=>(h x).c 0 _ rfl,fun x=>(h x).c 1 _ rfl,fun x=>(h x).c 2 _ rfl⟩
theorem BlkL.cs5 {w:World} {g:Nat} {T:TypeId} {v0 v1 v2 v3 v4:Value} {r:List Value} (h:BlkL w g T (v0::v1::v2::v3::v4::r)):w.cell? ⟨g,0,none⟩=some v0∧w.cell? ⟨g,1,none⟩=some v1∧w.cell? ⟨g,2,none⟩=some v2∧w.cell? ⟨g,3,none⟩=some v3∧w.cell? ⟨g,4,none⟩=some v4:=⟨h.c 0 _ rfl,h.c 1 _ rfl,h.c 2 _ rfl,h.c 3 _ rfl,h.c 4 _ rfl⟩
theorem BlkL.fs5 {α:Type} {f:α→World} {g:Nat} {T:TypeId} {v0 v1 v2 v3 v4:Value} {r:List Value} (h:∀ x,BlkL (f x) g T (v0::v1::v2::v3::v4::r)):(∀ x,(f x).cell? ⟨g,0,none⟩=some v0)∧(∀ x,(f x).cell? ⟨g,1,none⟩=some v1)∧(∀ x,(f x).cell? ⟨g,2,none⟩=some v2)∧(∀ x,(f x).cell? ⟨g,3,none⟩=some v3)∧(∀ x,(f x).cell? ⟨g,4,none⟩=some v4):=⟨fun x=>(h x).c 0 _ rfl,fun x=>(h x).c 1 _ rfl,fun x=>(h x).c 2 _ rfl,fun x=>(h x).c 3 _ rfl,fun x=>(h x).c 4 _ rfl⟩
theorem BlkL.cs8 {w:World} {g:Nat} {T:TypeId} {v0 v1 v2 v3 v4 v5 v6 v7:Value} {r:List Value} (h:BlkL w g T (v0::v1::v2::v3::v4::v5::v6::v7::r)):w.cell? ⟨g,0,none⟩=some v0∧w.cell? ⟨g,1,none⟩=some v1∧w.cell? ⟨g,2,none⟩=some v2∧w.cell? ⟨g,3,none⟩=some v3∧w.cell? ⟨g,4,none⟩=some v4∧w.cell? ⟨g,5,none⟩=some v5∧w.cell? ⟨g,6,none⟩=some v6∧w.cell? ⟨g,7,none⟩=some v7:=⟨h.c 0 _ rfl,h.c 1 _ rfl,h.c 2 _ rfl,h.c 3 _ rfl,h.c 4 _ rfl,h.c 5 _ rfl,h.c 6 _ rfl,h.c 7 _ rfl⟩
theorem BlkL.cs11 {w:World} {g:Nat} {T:TypeId} {v0 v1 v2 v3 v4 v5 v6 v7 v8 v9 v10:Value} {r:List Value} (h:BlkL w g T (v0::v1::v2::v3::v4::v5::v6::v7::v8::v9::v10::r)):w.cell? ⟨g,0,none⟩=some v0∧w.cell? ⟨g,1,none⟩=some v1∧w.cell? ⟨g,2,none⟩=some v2∧w.cell? ⟨g,3,none⟩=some v3∧w.cell? ⟨g,4,none⟩=some v4∧w.cell? ⟨g,5,none⟩=some v5∧w.cell? ⟨g,6,none⟩=some v6∧w.cell? ⟨g,7,none⟩=some v7∧w.cell? ⟨g,8,none⟩=some v8∧w.cell? ⟨g,9,none⟩=some v9∧w.cell? ⟨g,10,none⟩=some v10:=⟨h.c 0 _ rfl,h.c 1 _ rfl,h.c 2 _ rfl,h.c 3 _ rfl,h.c 4 _ rfl,h.c 5 _ rfl,h.c 6 _ rfl,h.c 7 _ rfl,h.c 8 _ rfl,h.c 9 _ rfl,h.c 10 _ rfl⟩
theorem BlkL.fs11 {α:Type} {f:α→World} {g:Nat} {T:TypeId} {v0 v1 v2 v3 v4 v5 v6 v7 v8 v9 v10:Value} {r:List Value} (h:∀ x,BlkL (f x) g T (v0::v1::v2::v3::v4::v5::v6::v7::v8::v9::v10::r)):(∀ x,(f x).cell? ⟨g,0,none⟩=some v0)∧(∀ x,(f x).cell? ⟨g,1,none⟩=some v1)∧(∀ x,(f x).cell? ⟨g,2,none⟩=some v2)∧(∀ x,(f x).cell? ⟨g,3,none⟩=some v3)∧(∀ x,(f x).cell? ⟨g,4,none⟩=some v4)∧(∀ x,(f x).cell? ⟨g,5,none⟩=some v5)∧(∀ x,(f x).cell? ⟨g,6,none⟩=some v6)∧(∀ x,(f x).cell? ⟨g,7,none⟩=some v7)∧(∀ x,(f x).cell? ⟨g,8,none⟩=some v8)∧(∀ x,(f x).cell? ⟨g,9,none⟩=some v9)∧(∀ x,(f x).cell? ⟨g,10,none⟩=some v10):=⟨fun x=>(h x).c 0 _ rfl,fun x=>(h x).c 1 _ rfl,fun x=>(h x).c 2 _ rfl,fun x=>(h x).c 3 _ rfl,fun x=>(h x).c 4 _ rfl,fun x=>(h x).c 5 _ rfl,fun x=>(h x).c 6 _ rfl,fun x=>(h x).c 7 _ rfl,fun x=>(h x).c 8 _ rfl,fun x=>(h x).c 9 _ rfl,fun x=>(h x).c 10 _ rfl⟩
theorem BlkL.cs15 {w:World} {g:Nat} {T:TypeId} {v0 v1 v2 v3 v4 v5 v6 v7 v8 v9 v10 v11 v12 v13 v14:Value} {r:List Value} (h:BlkL w g T (v0::v1::v2::v3::v4::v5::v6::v7::v8::v9::v10::v11::v12::v13::v14::r)):w.cell? ⟨g,0,none⟩=some v0∧w.cell? ⟨g,1,none⟩=some v1∧w.cell? ⟨g,2,none⟩=some v2∧w.cell? ⟨g,3,none⟩=some v3∧w.cell? ⟨g,4,none⟩=some v4∧w.cell? ⟨g,5,none⟩=some v5∧w.cell? ⟨g,6,none⟩=some v6∧w.cell? ⟨g,7,none⟩=some v7∧w.cell? ⟨g,8,none⟩=some v8∧w.cell? ⟨g,9,none⟩=some v9∧w.cell? ⟨g,10,none⟩=some v10∧w.cell? ⟨g,11,none⟩=some v11∧w.cell? ⟨g,12,none⟩=some v12∧w.cell? ⟨g,13,none⟩=some v13∧w.cell? ⟨g,14,none⟩=some v14:=⟨h.c 0 _ rfl,h.c 1 _ rfl,h.c 2 _ rfl,h.c 3 _ rfl,h.c 4 _ rfl,h.c 5 _ rfl,h.c 6 _ rfl,h.c 7 _ rfl,h.c 8 _ rfl,h.c 9 _ rfl,h.c 10 _ rfl,h.c 11 _ rfl,h.c 12 _ rfl,h.c 13 _ rfl,h.c 14 _ rfl⟩
theorem BlkL.fs15 {α:Type} {f:α→World} {g:Nat} {T:TypeId} {v0 v1 v2 v3 v4 v5 v6 v7 v8 v9 v10 v11 v12 v13 v14:Value} {r:List Value} (h:∀ x,BlkL (f x) g T (v0::v1::v2::v3::v4::v5::v6::v7::v8::v9::v10::v11::v12::v13::v14::r)):(∀ x,(f x).cell? ⟨g,0,none⟩=some v0)∧(∀ x,(f x).cell? ⟨g,1,none⟩=some v1)∧(∀ x,(f x).cell? ⟨g,2,none⟩=some v2)∧(∀ x,(f x).cell? ⟨g,3,none⟩=some v3)∧(∀ x,(f x).cell? ⟨g,4,none⟩=some v4)∧(∀ x,(f x).cell? ⟨g,5,none⟩=some v5)∧(∀ x,(f x).cell? ⟨g,6,none⟩=some v6)∧(∀ x,(f x).cell? ⟨g,7,none⟩=some v7)∧(∀ x,(f x).cell? ⟨g,8,none⟩=some v8)∧(∀ x,(f x).cell? ⟨g,9,none⟩=some v9)∧(∀ x,(f x).cell? ⟨g,10,none⟩=some v10)∧(∀ x,(f x).cell? ⟨g,11,none⟩=some v11)∧(∀ x,(f x).cell? ⟨g,12,none⟩=some v12)∧(∀ x,(f x).cell? ⟨g,13,none⟩=some v13)∧(∀ x,(f x).cell? ⟨g,14,none⟩=some v14):=⟨fun x=>(h x).c 0 _ rfl,fun x=>(h x).c 1 _ rfl,fun x=>(h x).c 2 _ rfl,fun x=>(h x).c 3 _ rfl,fun x=>(h x).c 4 _ rfl,fun x=>(h x).c 5 _ rfl,fun x=>(h x).c 6 _ rfl,fun x=>(h x).c 7 _ rfl,fun x=>(h x).c 8 _ rfl,fun x=>(h x).c 9 _ rfl,fun x=>(h x).c 10 _ rfl,fun x=>(h x).c 11 _ rfl,fun x=>(h x).c 12 _ rfl,fun x=>(h x).c 13 _ rfl,fun x=>(h x).c 14 _ rfl⟩
theorem BlkL.f (h:BlkL w g T l) (k:Nat):w.frozen? ⟨g,k,none⟩=false:=by
 unfold BlkL at h;simp [World.frozen?,h]
theorem BlkL.below (h:BlkL w g T l) {b:Nat} (hg:g<b) (hb:Below b w w'):BlkL w' g T l:=(hb.block g hg).trans h
theorem BlkL.alloc (h:BlkL w g T l) (o:Obj):BlkL (w.alloc o) g T l:=(Below.heap_alloc w o g h.lt).trans h
theorem BlkL.new (w:World) (T:TypeId) (l:List Value):BlkL (w.alloc (.cells l.toArray T)) w.heap.size T l:=heap_alloc_new w _
theorem BlkL.other (h:BlkL w g T l) {p:Nat} (hp:g≠p) (j:Nat) (v:Value):BlkL (w.setCell ⟨p,j,none⟩ v) g T l:=(Below.heap_setCell w ⟨p,j,none⟩ v g hp).trans h
theorem BlkL.grown {row:Option Nat} (h:BlkL w g T l) (hg:w.grownBy w' row) (hn:some g≠row):BlkL w' g T l:=(hg.block g h.lt hn).trans h
theorem BlkL.drewN (h:BlkL w g T l) (n:Nat):BlkL (w.drewN n) g T l:=h
theorem BlkL.drew (h:BlkL w g T l):BlkL w.drew g T l:=h
theorem BlkL.set (h:BlkL w g T l) (k:Nat) (hk:k<l.length) (v:Value):BlkL (w.setCell ⟨g,k,none⟩ v) g T (l.set k v):=by
 have hlt:=h.lt;have h':w.heap[g]= .cells l.toArray T (0,0):=(Array.getElem?_eq_some_iff.1 h).2;show (w.heap.modify g _)[g]? =_;rw [Array.getElem?_eq_getElem (by simpa using hlt),Array.getElem_modify_self,h'];simp
theorem wM {a w w':World} {row:Option Nat} (h:a.grownBy w row) (k:w.grownBy w' row):a.grownBy w' row :=
 ⟨k.os.trans h.os,k.tape.trans h.tape,k.output.trans h.output,Nat.le_trans h.size k.size,fun j hj hne=>(k.block j (Nat.lt_of_lt_of_le hj h.size) hne).trans (h.block j hj hne)⟩
theorem xY (w:World) (g j:Nat) (v:Value):w.grownBy (w.setCell ⟨g,j,none⟩ v) (some g) :=
 ⟨rfl,rfl,rfl,by simp,fun k _ hk=>Below.heap_setCell w ⟨g,j,none⟩ v k (fun e=>hk (by simp [e]))⟩
theorem sr (w:World) (row:Option Nat):w.grownBy w row:=⟨rfl,rfl,rfl,Nat.le_refl _,fun _ _ _=>rfl⟩
theorem ra {a w:World} {row:Option Nat} (h:a.grownBy w row) (o:Obj):a.grownBy (w.alloc o) row :=
 ⟨h.os,h.tape,h.output,by have:=h.size;simp;omega,fun k hk hn=>(Below.heap_alloc w o k (by have:=h.size;omega)).trans (h.block k hk hn)⟩
theorem Qc {a w:World} {row:Option Nat} (h:a.grownBy w row) {b:Nat} (hb:a.heap.size≤b) (j:Nat) (v:Value):a.grownBy (w.setCell ⟨b,j,none⟩ v) row :=
 ⟨h.os,h.tape,h.output,by have:=h.size;simpa using this,fun k hk hn=>(Below.heap_setCell w ⟨b,j,none⟩ v k (fun e=>by have:k=b:=e;omega)).trans (h.block k hk hn)⟩
theorem su {a w:World} {row:Option Nat} (h:a.grownBy w row):a.grownBy w.drew row:=⟨h.os,h.tape,h.output,h.size,h.block⟩
theorem Ve {w w':World} {g base:Nat} (h:w.grownBy w' (some g)) (hb:base≤g) (hs:base≤w.heap.size):Below base w w' :=
 ⟨h.os,h.tape,h.output,h.size,fun k hk=>h.block k (by omega) (fun e=>by injection e;omega)⟩
theorem vR {w:World} {base g size n:Nat} {e:TypeId} {v:Value} {xs:List Value} (h:w.ownsRow base e size v n xs) (hg:g<base):v.ownBlock=none∨v.ownBlock≠some g :=
 .inr (fun e=>by have:=(h.lt g e).1;omega)
end Hs
namespace Go.Proofs.YtjbciamhhfcdoaaGreatDoor
open Go.RowKit Hs
theorem Rn (b:UInt8) (w:World):Calls Tryz.prog 255 #[.int .u8 (b.toNat:Int)] w fun e w'=>e= .returned (.int .i64 (pvI b))∧w=w':=by
 have hc:=kt b;have hb:=b.toNat_lt;have hv:Hid (pvI b=if pv b=99 then -1 else (pv b:Int)):=KZ9 rfl;obtain ⟨x,hx⟩:=KZ6 b.toNat;rw [←hx] at hc hb ⊢;obtain ⟨v,hvv⟩:=KZ6 (pv b);rw [←hvv] at hc hv;clear hx hvv;rcases hc with ⟨h1,h2,h3⟩ | ⟨h1,h2,h3⟩ | ⟨h1,h2,h3⟩ | ⟨h1,h2,h3,h4⟩
 ·have hr:=KZ9 (show pvI b=(x:Int) - 97 by rw [hv.out,if_neg (by omega)];omega);clear hv h3;go_enter Tryz.func255,Tryz.ntmps255
  go_wp2
  all_goals try omega
  go_ret;rw [hr.out];exact ⟨rfl,rfl⟩
 ·have hr:=KZ9 (show pvI b=(x:Int) - 65 by rw [hv.out,if_neg (by omega)];omega);clear hv h3;go_enter Tryz.func255,Tryz.ntmps255
  go_wp2
  all_goals try omega
  go_ret;rw [hr.out];exact ⟨rfl,rfl⟩
 ·have hr:=KZ9 (show pvI b=(x:Int) - 48+26 by rw [hv.out,if_neg (by omega)];omega);clear hv h3;go_enter Tryz.func255,Tryz.ntmps255
  go_wp2
  all_goals try omega
  go_ret;rw [hr.out];exact ⟨rfl,rfl⟩
 have hr:=KZ9 (show pvI b= -1 by rw [hv.out,if_pos (by omega)]);clear hv h4;go_enter Tryz.func255,Tryz.ntmps255
 go_wp2
 all_goals try omega
 all_goals
  go_ret;rw [hr.out];exact ⟨rfl,rfl⟩
theorem XF (d:Nat) (w:World) (hd:d<36):Calls Tryz.prog 243 #[.int .i64 (d:Int)] w fun e w'=>e= .returned (.int .u8 ((pd d).toNat:Int))∧w=w':=by
 have hv:=KZ9 (Rv d hd);by_cases h:d<26
 ·have g1:decide ((d:Int)<26)=true:=KZ7 (by omega);go_enter Tryz.func243,Tryz.ntmps243
  go_wp2
  all_goals try omega
  go_ret;rw [hv.out,if_pos h];exact ⟨by go_num,rfl⟩
 have g1:decide ((d:Int)<26)=false:=KZ8 (by omega);go_enter Tryz.func243,Tryz.ntmps243
 go_wp2
 all_goals try omega
 go_ret;rw [hv.out,if_neg h];exact ⟨by go_num,rfl⟩
theorem XE (n:Nat) (w:World) (hn:n≤1152921504606846976):Calls Tryz.prog 217 #[.int .i64 (n:Int)] w fun e w'=>e= .returned (.bool (xl n))∧w=w':=by
 have hv:Hid (xl n=decide (n≤1114111∧(n<55296∨57343<n))):=KZ9 rfl;have hc:(n≤1114111∧n<55296)∨(n≤1114111∧55296≤n∧n≤57343)∨(n≤1114111∧57343<n)∨1114111<n:=by omega
 have g0:decide ((0:Int)≤(n:Int))=true:=KZ7 (by omega);rcases hc with ⟨h1,h2⟩ | ⟨h1,h2,h3⟩ | ⟨h1,h2⟩ | h1
 ·have g1:decide ((n:Int)≤1114111)=true:=KZ7 (by omega);have g2:decide ((n:Int)<55296)=true:=KZ7 (by omega);go_enter Tryz.func217,Tryz.ntmps217
  go_wp2
  all_goals try omega
  go_ret;rw [hv.out,KZ7 (by omega)];exact ⟨rfl,rfl⟩
 ·have g1:decide ((n:Int)≤1114111)=true:=KZ7 (by omega);have g2:decide ((n:Int)<55296)=false:=KZ8 (by omega);have g3:decide ((57343:Int)<(n:Int))=false:=KZ8 (by omega);go_enter Tryz.func217,Tryz.ntmps217
  go_wp2
  all_goals try omega
  go_ret;rw [hv.out,KZ8 (by omega)];exact ⟨rfl,rfl⟩
 ·have g1:decide ((n:Int)≤1114111)=true:=KZ7 (by omega);have g2:decide ((n:Int)<55296)=false:=KZ8 (by omega);have g3:decide ((57343:Int)<(n:Int))=true:=KZ7 (by omega);go_enter Tryz.func217,Tryz.ntmps217
  go_wp2
  all_goals try omega
  go_ret;rw [hv.out,KZ7 (by omega)];exact ⟨rfl,rfl⟩
 have g1:decide ((n:Int)≤1114111)=false:=KZ8 (by omega);go_enter Tryz.func217,Tryz.ntmps217
 go_wp2
 all_goals try omega
 go_ret;rw [hv.out,KZ8 (by omega)];exact ⟨rfl,rfl⟩
set_option maxHeartbeats 1600000
theorem ks (delta count:Nat) (first:Bool) (w:World) (hd:delta≤1099511627776) (hc0:0<count) (hc:count≤1048576):Calls Tryz.prog 219 #[.int .i64 (delta:Int),.int .i64 (count:Int),.bool first] w fun e w'=>e= .returned (.int .i64 (xV delta count first))∧w=w':=by
 have hv:Hid (xV delta count first=wf ((if first=true then delta / 700 else delta / 2)+(if first=true then delta / 700 else delta / 2) / count) 0):=KZ9 rfl;have h1:(if first=true then delta / 700 else delta / 2)≤549755813888:=by split<;>omega
 obtain ⟨d0,hd0⟩:=KZ6 ((if first=true then delta / 700 else delta / 2));rw [←hd0] at hv h1;have h2:d0 / count≤d0:=Nat.div_le_self _ _;obtain ⟨q,hq⟩:=KZ6 (d0 / count);rw [←hq] at hv h2;have hqi:(d0:Int) / (count:Int)=(q:Int):=by rw [hq];exact (Int.natCast_ediv d0 count).symm
 have hqt:(d0:Int).tdiv (count:Int)=(q:Int):=by rw [Int.tdiv_eq_ediv_of_nonneg (by omega)];exact hqi
 have hcz:((count:Int)==0)=false:=by simp;omega
 have hcn:(count:Int)≠0:=by omega
 have h35:d0+q<456*35 ^ 8:=by
  have:(35:Nat) ^ 8=2251875390625:=by decide
  omega
 have H35:=KZ9 h35;clear hq h35;cases first
 all_goals
  simp only [if_true,Bool.false_eq_true,if_false] at hd0
  (first | have hdi:(delta:Int) / 700=(d0:Int):=by omega | have hdi:(delta:Int) / 2=(d0:Int):=by omega)
  (first | have hdt:(delta:Int).tdiv 700=(d0:Int):=by rw [Int.tdiv_eq_ediv_of_nonneg (by omega)];exact hdi | have hdt:(delta:Int).tdiv 2=(d0:Int):=by rw [Int.tdiv_eq_ediv_of_nonneg (by omega)];exact hdi)
  clear hd0;go_enter Tryz.func219,Tryz.ntmps219
  go_wp2
  all_goals try omega
  go_loop [0,7] (fun dv kv=>∃ e k:Nat,dv= .int .i64 e∧kv= .int .i64 k∧e≤1099511627776∧k≤288∧Hid (wf (d0+q) 0=wf e k)∧Hid (∃ j,e<456*35 ^ j∧k+36*j≤288)) (fun dv _=>(intOf dv).toNat)
  case atStart=>exact ⟨d0+q,0,by go_num,rfl,by omega,by omega,KZ9 rfl,KZ9 ⟨8,H35.out,by omega⟩⟩
  case round =>
   obtain ⟨e,k,rfl,rfl,he,hk,hst,hj⟩:=hrel;by_cases hlt:455<e
   ·have g1:decide ((455:Int)<(e:Int))=true:=KZ7 (by omega);have hst2:Hid (wf (d0+q) 0=wf (e / 35) (k+36)):=KZ9 (by rw [hst.out,qs hlt]);have hj2:Hid (∃ j,e / 35<456*35 ^ j∧k+36+36*j≤288):=KZ9 (by
     obtain ⟨j,h1,h2⟩:=hj.out;cases j with
     | zero=>simp at h1;omega
     | succ j=>exact ⟨j,by rw [Nat.pow_succ,←Nat.mul_assoc] at h1;exact Nat.div_lt_of_lt_mul (by rw [Nat.mul_comm];exact h1),by omega⟩)
    have hk2:k+36≤288:=by obtain ⟨j,_,h⟩:=hj2.out;omega
    clear hst hj;go_wp2
    all_goals try omega
    go_round
    case rel=>exact ⟨e / 35,k+36,by go_num,by go_num,by omega,hk2,hst2,hj2⟩
    case measure=>simp [intOf];omega
   have g1:decide ((455:Int)<(e:Int))=false:=KZ8 (by omega);obtain ⟨r,hr⟩:=KZ6 (36*e / (e+38));have hfin:Hid (xV delta count _=k+r):=KZ9 (by rw [hv.out,hst.out,um hlt,hr]);have hri:36*(e:Int) / ((e:Int)+38)=(r:Int):=by rw [hr];push_cast;rfl
   have hrt:(36*(e:Int)).tdiv ((e:Int)+38)=(r:Int):=by rw [Int.tdiv_eq_ediv_of_nonneg (by omega)];exact hri
   have hr36:r≤36:=by
    rw [hr];apply Nat.le_of_lt_succ;rw [Nat.div_lt_iff_lt_mul (by omega)];omega
   have hez:(e:Int)+38≠0:=by omega
   clear hst hj hr;go_wp2
   all_goals try omega
   go_ret;rw [hfin.out];exact ⟨by go_num,rfl⟩
theorem UY (K B j bias:Nat) (w:World) (hj:j≤1000000000000) (hbi:bias≤1000000000000) (hK:Boxed w K 3 (.int .i64 ((36*j:Nat):Int))) (hB:Boxed w B 3 (.int .i64 (bias:Int))) (hne:K≠B) :
  Calls Tryz.prog 258 #[.pointer (some ⟨K,0,none⟩),.pointer (some ⟨B,0,none⟩)] w fun e w'=>e= .returned (.int .i64 (thr j bias))∧w'=w.setCell ⟨K,0,none⟩ (.int .i64 ((36*(j+1):Nat):Int)):=by
 have h1:=KZ9 (show (thr j bias:Int)=max 1 (min 26 (36*((j:Int)+1) - (bias:Int))) by unfold thr;omega);have cK:=hK.cell;have fK:=hK.frozen;have cB:=hB.cell;have cK2:=(hK.set (.int .i64 ((36*(j+1):Nat):Int))).cell;have cB2:=(hB.other hne.symm (.int .i64 ((36*(j+1):Nat):Int))).cell;obtain ⟨c,hc⟩:=KZ6 (36*j);have hc2:36*(j+1)=c+36:=by omega
 rw [hc2] at cK2 cB2 ⊢;rw [←hc] at cK;rw [Int.natCast_add] at cK2 cB2 ⊢;have hcb:c≤36000000000000:=by omega
 have HC:=KZ9 hc;clear hc hc2;go_enter Tryz.func258,Tryz.ntmps258
 go_wp2
 all_goals try omega
 all_goals
  go_ret;rw [h1.out];refine ⟨congrArg Ending.returned ?_,by first | rfl | (congr 1;go_num)⟩;show Value.int .i64 _=Value.int .i64 _;have:=HC.out
  congr 1
  omega
theorem rO (bias:Nat) (w:World):Calls Tryz.prog 242 #[.int .i64 (bias:Int)] w fun e w' =>
  e= .returned (.func (.func 258) #[] #[.pointer (some ⟨w.heap.size+1,0,none⟩),.pointer (some ⟨w.heap.size,0,none⟩)])∧w'=(w.alloc (.cells #[.int .i64 (bias:Int)] 3)).alloc (.cells #[.int .i64 0] 3):=by
 go_enter Tryz.func242,Tryz.ntmps242
 go_wp2;go_ret;exact ⟨rfl,rfl⟩
set_option maxRecDepth 20000
set_option maxHeartbeats 4000000
theorem Zv (v:Value) (n:Nat) (xs:List Value) (q bias base:Nat) (w:World) (hown:w.ownsRow base 5 1 v n xs) (hbase:base≤w.heap.size) (hn:n≤1000000) (hq:q≤900000000) (hbi:bias≤1048576) :
  Calls Tryz.prog 218 #[v,.int .i64 (q:Int),.int .i64 (bias:Int)] w fun e w'=>(∃ v',e= .returned v'∧w'.ownsRow base 5 1 v' (n+(vx q 0 bias).length) (xs++yb (vx q 0 bias)))∧Below base w w':=by
 obtain ⟨iB0,iB⟩:=info_parts vp;have hlen:=uO 9 q 0 bias (by omega);obtain ⟨T,hT⟩:=KZ6 (vx q 0 bias);have HT:=KZ9 hT;rw [←hT] at hlen ⊢;clear hT;have hth:=fun W=>rO bias W;have HTH:=KZ9 hth;clear hth;obtain ⟨z,hz⟩:=KZ6 w.heap.size;obtain ⟨wB,hwB⟩:=KZ6 (w.alloc (.cells #[.int .i64 (bias:Int)] 3));obtain ⟨wK,hwK⟩:=KZ6 (wB.alloc (.cells #[.int .i64 0] 3));have hsB:wB.heap.size=z+1:=by rw [hwB,hz];simp
 have hsK:wK.heap.size=z+2:=by rw [hwK];simp;omega
 have hBB:Boxed wK z 3 (.int .i64 (bias:Int)):=by rw [hwK,hwB,hz];exact (Boxed.new w _ _).alloc _
 have hBK:Boxed wK (z+1) 3 (.int .i64 ((36*0:Nat):Int)):=by rw [hwK,←hsB];exact Boxed.new wB _ _
 have hownK:wK.ownsRow base 5 1 v n xs:=by rw [hwK,hwB];exact (hown.alloc _).alloc _
 have hbelK:Below base w wK:=by rw [hwK,hwB];exact ((Below.refl base w).alloc hbase _).alloc (by simp;omega) _
 have hth2:Hid (∀ (e:Ending) (w':World),e= .returned (.func (.func 258) #[] #[.pointer (some ⟨w.heap.size+1,0,none⟩),.pointer (some ⟨w.heap.size,0,none⟩)])∧w'=(w.alloc (.cells #[.int .i64 (bias:Int)] 3)).alloc (.cells #[.int .i64 0] 3) →
   e= .returned (.func (.func 258) #[] #[.pointer (some ⟨z+1,0,none⟩),.pointer (some ⟨z,0,none⟩)])∧w'=wK):=KZ9 (by rintro e w' ⟨rfl,rfl⟩;rw [hwK,hwB,hz];exact ⟨rfl,rfl⟩)
 have hz1:base≤z:=by omega
 obtain ⟨a,c,rfl⟩:=yw hown;clear hz hwB hwK hown hbase hsB;go_enter Tryz.func218,Tryz.ntmps218
 go_wp2_with fail
 refine (HTH.out _).mono ?_;rintro e w2 hew;obtain ⟨rfl,rfl⟩:=hth2.out _ _ hew;clear hew hth2;go_wp2
 all_goals try omega
 go_loopw [0,1] (fun bv qv wr=>∃ (o5:Bs) (q5 k5:Nat),qv= .int .i64 q5∧q5+k5≤900000000∧wr.ownsRow base 5 1 bv (n+o5.length) (xs++yb o5)∧Hid (T=o5++vx q5 k5 bias)∧Boxed wr (z+1) 3 (.int .i64 ((36*k5:Nat):Int))∧Boxed wr z 3 (.int .i64 (bias:Int))∧z+2≤wr.heap.size∧Below base w wr) (fun _ qv _=>(intOf qv).toNat)
 case atStart=>exact ⟨[],q,0,rfl,by omega,by simpa [yb] using hownK,by simpa using HT,hBK,hBB,by omega,hbelK⟩
 case round =>
  obtain ⟨o5,q5,k5,rfl,hqk,hown,hst5,hbK,hbB,hzs,hnx⟩:=hrel;have hol:o5.length≤10:=by have:=congrArg List.length hst5.out;rw [List.length_append] at this;omega
  have htb:=wm k5 bias;have hnext:=UY (z+1) z k5 bias wr (by omega) (by omega) hbK hbB (by omega);have hES:=@uN q5 k5 bias;have hEB:=@pk q5 k5 bias;have hrow:=hbK.not_row (e:=5) (by decide) hown;have hown2:=hown.kept (grownBy_setCell' wr (z+1) (.int .i64 ((36*(k5+1):Nat):Int))) (.inr (fun e=>hrow e.symm));have hbK2:=hbK.set (.int .i64 ((36*(k5+1):Nat):Int));have hbB2:=hbB.other (B':=z+1) (by omega) (.int .i64 ((36*(k5+1):Nat):Int));have hnx2:=hnx.setCell (p:=⟨z+1,0,none⟩) (by show base≤z+1;omega) (.int .i64 ((36*(k5+1):Nat):Int));have hsz2:(wr.setCell ⟨z+1,0,none⟩ (.int .i64 ((36*(k5+1):Nat):Int))).heap.size=wr.heap.size:=by simp [World.setCell];try split<;>simp
  have HRK:=KZ9 (hbK2.not_row (e:=5) (by decide) hown2);have HRB:=KZ9 (hbB2.not_row (e:=5) (by decide) hown2);obtain ⟨wn,hwn⟩:=KZ6 (wr.setCell ⟨z+1,0,none⟩ (.int .i64 ((36*(k5+1):Nat):Int)));rw [←hwn] at hown2 hbK2 hbB2 hnx2 hnext hsz2;obtain ⟨t,htt⟩:=KZ6 (thr k5 bias);rw [←htt] at htb hES hEB;simp only [←htt] at hnext;have HNEXT:=KZ9 hnext;have hzs2:z+2≤wn.heap.size:=by omega
  obtain ⟨a,c,rfl⟩:=yw hown;clear htt hnext hwn hbK hbB hown hnx hrow hsz2;by_cases hqt:q5<t
  ·have g8:decide ((q5:Int)<(t:Int))=true:=KZ7 (by omega);have hfin:=hES hqt;have hdg:=fun W=>XF q5 W (by omega);have hT5e:Hid (T=o5++[pd q5]):=KZ9 (by rw [hst5.out,hfin]);have HD:=KZ9 hdg;clear hdg hfin hES hEB hst5;go_wp2_with fail
   refine HNEXT.out.mono ?_;rintro e w9 ⟨rfl,rfl⟩;go_wp2_with fail
   all_goals try omega
   refine (HD.out _).mono ?_;rintro e w8 ⟨rfl,rfl⟩;go_wp2_with (first | (at_builtin;refine wpList_append_own _ rfl (.tmp 16) (.tmp 19) 32 rfl (base) 5 iB0 (.int .u8 0) 1 1 Tryz.underlying32 iB.1 iB.2.1 iB.2.2.1 iB.2.2.2 rfl (by decide) _ _ _ rfl (hown2.alloc _) ⟨w9.heap.size,0,none⟩ 1 1 [_] rfl rfl (cell_one_new _ _ _) (by intro u hu;simp at hu;subst hu;rfl) (by unfold maxLen;omega) (by omega) (by simp;omega) ?_;intro v1 w3 hown1 hgrow1 hnil1))
   all_goals try omega
   go_ret;refine ⟨⟨_,rfl,?_⟩,(hnx2.alloc (by omega) _).grown hgrow1 (by simp;omega) (fun j hj=>(hown2.lt j hj).1)⟩;rw [hT5e.out,zU,List.length_append,←Nat.add_assoc,←List.append_assoc];exact hown1
  have g8:decide ((q5:Int)<(t:Int))=false:=KZ8 (by omega);have hbig:=hEB hqt;obtain ⟨r,hr⟩:=KZ6 ((q5 - t) % (36 - t));obtain ⟨q6,hq6⟩:=KZ6 ((q5 - t) / (36 - t));rw [←hr,←hq6] at hbig;have hr36:r<36 - t:=by rw [hr];exact Nat.mod_lt _ (by omega)
  have hq6l:q6≤q5 - t:=by rw [hq6];exact Nat.div_le_self _ _
  have e1:((q5:Int) - (t:Int))=((q5 - t:Nat):Int):=by omega
  have e2:(36:Int) - (t:Int)=((36 - t:Nat):Int):=by omega
  have hri:((q5:Int) - (t:Int)) % (36 - (t:Int))=(r:Int):=by rw [e1,e2,hr];rfl
  have hrt:((q5:Int) - (t:Int)).tmod (36 - (t:Int))=(r:Int):=by rw [Int.tmod_eq_emod_of_nonneg (by omega)];exact hri
  have hdi:((q5:Int) - (t:Int)) / (36 - (t:Int))=(q6:Int):=by rw [e1,e2,hq6];rfl
  have hdt:((q5:Int) - (t:Int)).tdiv (36 - (t:Int))=(q6:Int):=by rw [Int.tdiv_eq_ediv_of_nonneg (by omega)];exact hdi
  have hz36:(36:Int) - (t:Int)≠0:=by omega
  have hdg:=fun W=>XF (t+r) W (by omega);simp only [Int.natCast_add] at hdg;have HD:=KZ9 hdg;have hst6:Hid (T=(o5++[pd (t+r)])++vx q6 (k5+1) bias):=KZ9 (by rw [hst5.out,hbig,List.append_assoc];rfl);clear hdg hr hq6 e1 e2 hst5 hbig hES hEB;go_wp2_with fail
  refine HNEXT.out.mono ?_;rintro e w9 ⟨rfl,rfl⟩;go_wp2_with fail
  all_goals try omega
  refine (HD.out _).mono ?_;rintro e w8 ⟨rfl,rfl⟩;go_wp2_with (first | (at_builtin;refine wpList_append_own _ rfl (.tmp 21) (.tmp 31) 32 rfl (base) 5 iB0 (.int .u8 0) 1 1 Tryz.underlying32 iB.1 iB.2.1 iB.2.2.1 iB.2.2.2 rfl (by decide) _ _ _ rfl (hown2.alloc _) ⟨w9.heap.size,0,none⟩ 1 1 [_] rfl rfl (cell_one_new _ _ _) (by intro u hu;simp at hu;subst hu;rfl) (by unfold maxLen;omega) (by omega) (by simp;omega) ?_;intro v1 w3 hown1 hgrow1 hnil1))
  all_goals try omega
  go_roundw
  case rel =>
   refine ⟨o5++[pd (t+r)],q6,k5+1,rfl,by omega,?_,hst6,?_,?_,?_,(hnx2.alloc (by omega) _).grown hgrow1 (by simp;omega) (fun j hj=>(hown2.lt j hj).1)⟩
   ·rw [zU,List.length_append,←Nat.add_assoc,←List.append_assoc];exact hown1
   ·exact (hbK2.alloc _).kept hgrow1 HRK.out
   ·exact (hbB2.alloc _).kept hgrow1 HRB.out
   have:=hgrow1.size;simp at this;omega
  case measure=>simp [intOf];omega
set_option maxHeartbeats 16000000
theorem Qp (g:Nat) (l:Bs) (v:Value) (nn ii bi:Nat) (st:Bool) (w:World) (hd:BlkL w g 220 [.string (mk l),v,.int .i64 (nn:Int),.int .i64 (ii:Int),.int .i64 (bi:Int),.bool st]) (hl:l.length≤100000) (hii:ii≤257) (hbi:bi≤324) :
  Calls Tryz.prog 240 #[.pointer (some ⟨g,0,none⟩)] w fun e w'=>(∃ c,e= .returned (.int .i64 c)∧((c=0∧∃ p:Nat × Bs,vi l ii 1 0 bi=some p∧BlkL w' g 220 [.string (mk p.2),v,.int .i64 (nn:Int),.int .i64 (p.1:Int),.int .i64 (bi:Int),.bool st])∨(c≠0∧vi l ii 1 0 bi=none)))∧w.grownBy w' (some g):=by
 have hth:=fun W=>rO bi W;have HTH:=KZ9 hth;obtain ⟨N,hN⟩:=KZ6 (vi l ii 1 0 bi);have HN:=KZ9 hN;rw [←hN];obtain ⟨z,hz⟩:=KZ6 w.heap.size;obtain ⟨wB,hwB⟩:=KZ6 (w.alloc (.cells #[.int .i64 (bi:Int)] 3));obtain ⟨wK,hwK⟩:=KZ6 (wB.alloc (.cells #[.int .i64 0] 3));have hsB:wB.heap.size=z+1:=by rw [hwB,hz];simp
 have hsK:wK.heap.size=z+2:=by rw [hwK];simp;omega
 have hBB:Boxed wK z 3 (.int .i64 (bi:Int)):=by rw [hwK,hwB,hz];exact (Boxed.new w _ _).alloc _
 have hBK:Boxed wK (z+1) 3 (.int .i64 ((36*0:Nat):Int)):=by rw [hwK,←hsB];exact Boxed.new wB _ _
 have hdK:BlkL wK g 220 [.string (mk l),v,.int .i64 (nn:Int),.int .i64 (ii:Int),.int .i64 (bi:Int),.bool st]:=by rw [hwK,hwB];exact (hd.alloc _).alloc _
 have hgK:w.grownBy wK (some g):=by rw [hwK,hwB];exact ra (ra (sr _ _) _) _
 have hth2:Hid (∀ (e:Ending) (w':World),e= .returned (.func (.func 258) #[] #[.pointer (some ⟨w.heap.size+1,0,none⟩),.pointer (some ⟨w.heap.size,0,none⟩)])∧w'=(w.alloc (.cells #[.int .i64 (bi:Int)] 3)).alloc (.cells #[.int .i64 0] 3) →
   e= .returned (.func (.func 258) #[] #[.pointer (some ⟨z+1,0,none⟩),.pointer (some ⟨z,0,none⟩)])∧w'=wK):=KZ9 (by rintro e w' ⟨rfl,rfl⟩;rw [hwK,hwB,hz];exact ⟨rfl,rfl⟩)
 have hgz:g<z:=by rw [hz];exact hd.lt
 have c4:=hd.c 4 _ rfl;have HZ:=KZ9 hz;have HGK:=KZ9 hgK;have HDK:=KZ9 hdK;have HBB:=KZ9 hBB;have HBK:=KZ9 hBK;clear hN hz hwB hwK hd hsB hth hgK hdK hBB hBK;go_enter Tryz.func240,Tryz.ntmps240
 go_wp2_with fail
 refine (HTH.out _).mono ?_;rintro e w2 hew;obtain ⟨rfl,rfl⟩:=hth2.out _ _ hew;clear hew hth2 c4;go_wp2
 all_goals try omega
 go_loopg [4] l.length (fun m wv wr=>∃ (r:Bs) (w2 k2 i2:Nat),m=r.length∧wv= .int .i64 w2∧w2≤1099511627776∧k2+r.length≤l.length∧ii≤i2∧i2≤1099511627776∧BlkL wr g 220 [.string (mk r),v,.int .i64 (nn:Int),.int .i64 (i2:Int),.int .i64 (bi:Int),.bool st]∧Boxed wr (z+1) 3 (.int .i64 ((36*k2:Nat):Int))∧Boxed wr z 3 (.int .i64 (bi:Int))∧Hid (N=vi r i2 w2 k2 bi)∧w.grownBy wr (some g))
 case atStart=>exact ⟨l,1,0,ii,rfl,rfl,by omega,by omega,by omega,by omega,HDK.out,HBK.out,HBB.out,HN,HGK.out⟩
 case round =>
  obtain ⟨r,w2,k2,i2,rfl,rfl,hw2,hk2,hi1,hi2,hd,hbK,hbB,hnum,hgr⟩:=hrel;have c0:=hd.c 0 _ rfl;have c3:=hd.c 3 _ rfl;have f0:=hd.f 0;have f3:=hd.f 3;have HD:=KZ9 hd;have HGR:=KZ9 hgr;have HBK2:=KZ9 hbK;have HBB2:=KZ9 hbB;clear hd hgr hbK hbB HGK HDK HBB HBK;cases r with
  | nil =>
   have hend:Hid (N=none):=KZ9 hnum.out;have e0:mk ([]:Bs)=⟨#[]⟩:=rfl;rw [e0] at c0;clear hnum e0;go_wp2
   all_goals try omega
   go_ret;exact ⟨⟨_,rfl,.inr ⟨by decide,hend.out⟩⟩,HGR.out⟩
  | cons b r =>
   have hk3:k2+(r.length+1)≤l.length:=hk2;have hval:=fun W=>Rn b W;have hpI:pvI b=if pv b=99 then -1 else (pv b:Int):=rfl
   have hplt:=@P4 b;have hszn:(mk (b::r)).size=r.length+1:=by rw [zh];rfl
   have h0:0<(mk (b::r)).size:=by omega
   have hb0:(mk (b::r))[0]=b:=by
    rw [←zL (mk (b::r)) 0 h0];simp
   have hex:(mk (b::r)).extract 1 (r.length+1)=mk r:=by
    apply sJ;rw [xk,zj,zj];simp
   have hem:(mk (b::r)).toList.isEmpty=false:=by
    rw [List.isEmpty_eq_false_iff];intro h;rw [toList_mk'] at h;cases h
   obtain ⟨s,hs⟩:=KZ6 (mk (b::r));rw [←hs] at c0 hszn hem hex;have cs:(s[0].toNat:Int)=(b.toNat:Int):=by subst hs;rw [hb0]
   have hszI:(s.size:Int)=(r.length:Int)+1:=by rw [hszn];rfl
   have HD2:=HD.out;rw [←hs] at HD2;have HD3:=KZ9 HD2;have hs1:1≤s.size:=by omega
   clear HD HD2 hs hb0 h0;obtain ⟨pI,hp⟩:=KZ6 (pvI b);rw [←hp] at hpI;simp only [←hp] at hval;have HVAL:=KZ9 hval;clear hval hp;by_cases h99:pv b=99
   ·rw [if_pos h99] at hpI;subst hpI;have hend:Hid (N=none):=KZ9 (hnum.out.trans (X6 h99));clear hnum hplt h99;go_wp2_with fail
    all_goals try omega
    refine (HVAL.out _).mono ?_;rintro e w9 ⟨rfl,rfl⟩;go_wp2
    all_goals try omega
    go_ret;exact ⟨⟨_,rfl,.inr ⟨by decide,hend.out⟩⟩,HGR.out⟩
   rw [if_neg h99] at hpI;have hp36:=hplt h99;have h99b:pv b≠99:=h99;obtain ⟨x,hx⟩:=KZ6 (pv b);rw [←hx] at hpI hp36;subst hpI;obtain ⟨M,hM⟩:=KZ6 (x*w2);have hMb:M≤38482906972160:=by
    rw [hM];exact Nat.le_trans (Nat.mul_le_mul (show x≤35 by omega) hw2) (by decide)
   have hmul:(x:Int)*(w2:Int)=(M:Int):=by rw [hM];rfl
   have hMx:pv b*w2=M:=by rw [←hx,hM]
   have HX:=KZ9 hx;have HM:=KZ9 hMx;have H99:=KZ9 h99b;have b1:BlkL (wr.setCell ⟨g,0,none⟩ (.string (mk r))) g 220 [.string (mk r),v,.int .i64 (nn:Int),.int .i64 (i2:Int),.int .i64 (bi:Int),.bool st]:=HD3.out.set 0 (by simp) (.string (mk r));have b2:BlkL ((wr.setCell ⟨g,0,none⟩ (.string (mk r))).setCell ⟨g,3,none⟩ (.int .i64 ((i2:Int)+(M:Int)))) g 220 [.string (mk r),v,.int .i64 (nn:Int),.int .i64 ((i2:Int)+(M:Int)),.int .i64 (bi:Int),.bool st]:=b1.set 3 (by simp) (.int .i64 ((i2:Int)+(M:Int)));have c3b:=b1.c 3 _ rfl;have f3b:=b1.f 3;have c3c:=b2.c 3 _ rfl;have HDa:=KZ9 b2;have HGRa:=KZ9 (wM (wM HGR.out (xY _ g 0 (.string (mk r)))) (xY _ g 3 (.int .i64 ((i2:Int)+(M:Int)))));have hbKa:=(HBK2.out.kept (xY _ g 0 (.string (mk r))) (by intro e;cases e;omega)).kept (xY _ g 3 (.int .i64 ((i2:Int)+(M:Int)))) (by intro e;cases e;omega)
   have hbBa:=(HBB2.out.kept (xY _ g 0 (.string (mk r))) (by intro e;cases e;omega)).kept (xY _ g 3 (.int .i64 ((i2:Int)+(M:Int)))) (by intro e;cases e;omega);clear b1 b2 HD3 HGR HBK2 HBB2 hx hM hMx h99b hplt h99;have hcast:((i2+M:Nat):Int)=(i2:Int)+(M:Int):=by omega
   by_cases hfar:1099511627776<i2+M
   ·have g5:decide ((1099511627776:Int)<(i2:Int)+(M:Int))=true:=KZ7 (by omega);have hend:Hid (N=none):=KZ9 (hnum.out.trans (X4 H99.out (by rw [HM.out];exact hfar)));clear hnum hbKa hbBa hcast;go_wp2_with fail
    all_goals try omega
    refine (HVAL.out _).mono ?_;rintro e w9 ⟨rfl,rfl⟩;go_wp2
    all_goals try omega
    go_ret;exact ⟨⟨_,rfl,.inr ⟨by decide,hend.out⟩⟩,HGRa.out⟩
   have g5:decide ((1099511627776:Int)<(i2:Int)+(M:Int))=false:=KZ8 (by omega);have hfar2:¬ 1099511627776<i2+pv b*w2:=by rw [HM.out];exact hfar
   have htb:=wm k2 bi;have hk2b:k2≤100000:=by omega
   have hnext:=UY (z+1) z k2 bi _ (by omega) (by omega) hbKa hbBa (by omega);obtain ⟨t,ht⟩:=KZ6 (thr k2 bi);rw [←ht] at htb hnext;have HNEXT:=KZ9 hnext;have HBKb:=KZ9 (hbKa.set (.int .i64 ((36*(k2+1):Nat):Int)));have HBBb:=KZ9 (hbBa.other (B':=z+1) (by omega) (.int .i64 ((36*(k2+1):Nat):Int)));have HDb:=KZ9 (HDa.out.other (p:=z+1) (by omega) 0 (.int .i64 ((36*(k2+1):Nat):Int)));have HGRb:=KZ9 (Qc HGRa.out (b:=z+1) (by rw [←HZ.out];omega) 0 (.int .i64 ((36*(k2+1):Nat):Int)));clear hnext hbKa hbBa HDa HGRa;by_cases hxt:x<t
   ·have g6:decide ((x:Int)<(t:Int))=true:=KZ7 (by omega);have hsome:=hnum.out.trans (X5 H99.out hfar2 (by rw [←ht,←HX.out];exact hxt));rw [HM.out] at hsome;have HSOME:=KZ9 hsome;clear hnum hsome ht hfar2 H99 HX HM HBKb HBBb;go_wp2_with fail
    all_goals try omega
    refine (HVAL.out _).mono ?_;rintro e w9 ⟨rfl,rfl⟩;go_wp2_with fail
    all_goals try omega
    refine (HNEXT.out).mono ?_;rintro e w8 ⟨rfl,rfl⟩;go_wp2
    all_goals try omega
    go_ret;exact ⟨⟨_,rfl,.inl ⟨rfl,_,HSOME.out,by rw [hcast];exact HDb.out⟩⟩,HGRb.out⟩
   have g6:decide ((x:Int)<(t:Int))=false:=KZ8 (by omega);obtain ⟨Z,hZ⟩:=KZ6 (w2*(36 - t));have hZb:Z≤39582418599936:=by
    rw [hZ];exact Nat.le_trans (Nat.mul_le_mul hw2 (show 36 - t≤36 by omega)) (by decide)
   have hzm:(w2:Int)*(36 - (t:Int))=(Z:Int):=by rw [hZ,show (36:Int) - (t:Int)=((36 - t:Nat):Int) by omega];rfl
   by_cases hzw:1099511627776<Z
   ·have g7:decide ((1099511627776:Int)<(Z:Int))=true:=KZ7 (by omega);have hend:Hid (N=none):=KZ9 (hnum.out.trans (ZC H99.out hfar2 (by rw [←ht,←HX.out];exact hxt) (by rw [←ht,←hZ];exact hzw)));clear hnum ht hfar2 H99 HX HM hZ HBKb HBBb HDb hcast;go_wp2_with fail
    all_goals try omega
    refine (HVAL.out _).mono ?_;rintro e w9 ⟨rfl,rfl⟩;go_wp2_with fail
    all_goals try omega
    refine (HNEXT.out).mono ?_;rintro e w8 ⟨rfl,rfl⟩;go_wp2
    all_goals try omega
    go_ret;exact ⟨⟨_,rfl,.inr ⟨by decide,hend.out⟩⟩,HGRb.out⟩
   have g7:decide ((1099511627776:Int)<(Z:Int))=false:=KZ8 (by omega);have hmore:=hnum.out.trans (ZD H99.out hfar2 (by rw [←ht,←HX.out];exact hxt) (by rw [←ht,←hZ];exact hzw));rw [HM.out,←ht,←hZ] at hmore;have HMORE:=KZ9 hmore;have HCAST:=KZ9 hcast;clear hnum hmore ht hfar2 H99 HX HM hZ hcast;go_wp2_with fail
   all_goals try omega
   refine (HVAL.out _).mono ?_;rintro e w9 ⟨rfl,rfl⟩;go_wp2_with fail
   all_goals try omega
   refine (HNEXT.out).mono ?_;rintro e w8 ⟨rfl,rfl⟩;go_wp2
   all_goals try omega
   go_roundg r.length
   case measure=>simp
   case rel=>exact ⟨r,Z,k2+1,i2+M,rfl,by go_num,by omega,by omega,by omega,by omega,by rw [HCAST.out];exact HDb.out,HBKb.out,HBBb.out,HMORE,HGRb.out⟩
end Go.Proofs.YtjbciamhhfcdoaaGreatDoor
namespace Hs
open Go Go.RowKit
theorem BlkL.setCells {g:Nat} {T:TypeId}:∀ (vs:List Value) (o:Nat) (w:World) (l:List Value),BlkL w g T l→o+vs.length≤l.length→BlkL (w.setCells g o vs) g T (l.take o++vs++l.drop (o+vs.length))
 | [],o,w,l,h,hl=>by
  simp only [World.setCells,List.length_nil,Nat.add_zero,List.append_nil,List.take_append_drop];exact h
 | v::r,o,w,l,h,hl=>by
  simp only [List.length_cons] at hl;have h1:=BlkL.setCells r (o+1) _ _ (h.set o (by omega) v) (by rw [List.length_set];omega);have e1:(l.set o v).take (o+1)=l.take o++[v]:=by
   rw [List.take_succ_eq_append_getElem (by rw [List.length_set];omega),List.take_set_of_le (Nat.le_refl o)];simp
  have e2:(l.set o v).drop (o+1+r.length)=l.drop (o+(r.length+1)):=by
   rw [List.drop_set_of_lt (by omega)]
   congr 1
   omega
  rw [e1,e2] at h1;simp only [World.setCells,List.length_cons];have e3:l.take o++v::r=l.take o++[v]++r:=by simp
  rw [e3];exact h1
theorem td (g:Nat):∀ (vs:List Value) (o:Nat) (w:World),w.grownBy (w.setCells g o vs) (some g)
 | [],o,w=>sr _ _
 | v::r,o,w=>wM (xY w g o v) (td g r (o+1) _)
theorem sw {a:World} {row:Option Nat} {b:Nat} (hb:a.heap.size≤b):∀ (vs:List Value) (o:Nat) (w:World),a.grownBy w row→a.grownBy (w.setCells b o vs) row
 | [],o,w,h=>h
 | v::r,o,w,h=>sw hb r (o+1) _ (Qc h hb o v)
theorem wW (x:Int) (n:Nat):Builtin.zeroCells (Value.int .i64 x).cells n=Array.replicate n (Value.int .i64 x):=by
 apply Array.ext
 ·rw [size_zeroCells,Array.size_replicate];show n*1=n;omega
 intro j h1 h2;simp [Builtin.zeroCells,Value.cells,Nat.mod_one]
theorem Xn (a b:List Value) (n:Nat) (v:Value):(a++b).toArray++Array.replicate n v=(a++b++List.replicate n v).toArray:=by simp
theorem Ss (L D:List Value) (x:Value) (i n:Nat) (hL:n+1≤L.length) (hi:i≤n) (hD:D.length=n - i) :
  ((L.take (i+1)++D++L.drop (i+1+D.length)).take i++[x]++(L.take (i+1)++D++L.drop (i+1+D.length)).drop (i+1)).take (n+1)=L.take i++[x]++D:=by
 have h1:(L.take (i+1)).length=i+1:=by rw [List.length_take];omega
 have e1:(L.take (i+1)++D++L.drop (i+1+D.length)).take i=L.take i:=by
  rw [List.append_assoc,List.take_append_of_le_length (by omega),List.take_take,Nat.min_eq_left (by omega)]
 have e2:(L.take (i+1)++D++L.drop (i+1+D.length)).drop (i+1)=D++L.drop (i+1+D.length):=by
  rw [List.append_assoc,List.drop_append_of_le_length (by omega),List.drop_of_length_le (by omega),List.nil_append]
 rw [e1,e2,←List.append_assoc,List.take_append_of_le_length (by simp;omega),List.take_of_length_le (by simp;omega)]
theorem Sr (L D:List Value) (x:Value) (i n:Nat) (hL:n+1≤L.length) (hi:i≤n) (hD:D.length=n - i) :
  ((L.take i++[x]++L.drop (i+1)).take (i+1)++D++(L.take i++[x]++L.drop (i+1)).drop (i+1+D.length)).take (n+1)=L.take i++[x]++D:=by
 have h1:(L.take i++[x]).length=i+1:=by simp;omega
 have e1:(L.take i++[x]++L.drop (i+1)).take (i+1)=L.take i++[x]:=by
  rw [List.take_append_of_le_length (by omega),List.take_of_length_le (by omega)]
 rw [e1,List.take_append_of_le_length (by simp;omega),List.take_of_length_le (by simp;omega)]
theorem t8 (l:List Nat) (i x:Nat):zq (xf l i x)=(zq l).take i++[.int .i64 (x:Int)]++(zq l).drop i:=by
 unfold zq xf;rw [List.map_append,List.map_cons,List.map_take,List.map_drop];simp
end Hs
namespace Go.Proofs.YtjbciamhhfcdoaaGreatDoor
open Go.RowKit Hs Go.Shelf
def ins_ren:Go.Shelf.Ren:=⟨fun | 21=>241 | 27=>256 | 28=>257 | 35=>267 | 39=>270 | n=>n,fun | 0=>0 | 3=>3 | 4=>4 | 22=>140 | n=>n,fun | n=>n⟩
theorem sV:Go.Proofs.Lays2.n21 Tryz.prog ins_ren:={
 mixed:=by kernel_rfl
 f21:=Tryz.func241.trans (congrArg some (by kernel_rfl))
 f27:=Tryz.func256.trans (congrArg some (by kernel_rfl))
 f28:=Tryz.func257.trans (congrArg some (by kernel_rfl))
 f35:=Tryz.func267.trans (congrArg some (by kernel_rfl))
 f39:=Tryz.func270.trans (congrArg some (by kernel_rfl))
 t0:=Tryz.underlying0
 a0:=Tryz.isAgg0
 z0:=Tryz.sizeOf0
 v0:=Tryz.zeroValue0
 t3:=Tryz.underlying3
 a3:=Tryz.isAgg3
 z3:=Tryz.sizeOf3
 v3:=Tryz.zeroValue3
 t4:=Tryz.underlying4
 a4:=Tryz.isAgg4
 z4:=Tryz.sizeOf4
 v4:=Tryz.zeroValue4
 t22:=Tryz.underlying140
 a22:=Tryz.isAgg140
 z22:=Tryz.sizeOf140
 v22:=Tryz.zeroValue140
 i3:=by kernel_rfl }
theorem RS (v:Value) (l:List Nat) (i x base vb:Nat) (w:World) (hown:w.ownsRow base 3 1 v l.length (zq l)) (hb:base≤w.heap.size) (hi:i≤l.length) (hl:l.length≤100000)
  (hx:BlkL w vb 3 [.int .i64 (x:Int)]) (hne:v.ownBlock≠some vb) :
  Calls Tryz.prog 241 #[v,.int .i64 (i:Int),.slice (some ⟨vb,0,none⟩) 1 1] w fun e w'=>(∃ v',e= .returned v'∧w'.ownsRow base 3 1 v' (l.length+1) (zq (xf l i x)))∧w.grownBy w' v.ownBlock:=by
 have hvs:∀ j u,[Value.int .i64 (x:Int)][j]? =some u→w.cell? ⟨vb,0+j,none⟩=some u:=fun j u hj=>by rw [Nat.zero_add];exact hx.c j u hj
 have h1v:∀ u∈[Value.int .i64 (x:Int)],u.oneCell'=true:=by intro u hu;simp at hu;subst hu;rfl
 have hcl:(zq l).length=l.length:=tq l;have hpl:(zq (xf l i x)).length=l.length+1:=by rw [tq,wz]
 rcases hown.2 with ⟨rfl,h0⟩ | ⟨g,cap,cur,rfl,hbg,hg,hnc,hcm,hcs,ht⟩
 ·have hl0:l=[]:=List.eq_nil_of_length_eq_zero h0;subst hl0;obtain rfl:i=0:=by simpa using hi
  refine (Any2.slices_Insert_int_end_grow sV none 0 0 vb 0 1 1 [] [.int .i64 (x:Int)] w (by omega) (by omega) (by omega) (by omega) rfl rfl (fun _=>rfl) (by intro a ha;cases ha) hvs h1v).mono ?_;rintro e w' ⟨rfl,rfl⟩;refine ⟨⟨_,rfl,by simp [zq,xf],.inr ⟨w.heap.size,_,_,rfl,hb,heap_alloc_new w.drew _,grownCap_ge _ _ _ _,grownCap_le_maxLen _ _ _ _ (by simp [maxLen]),?_,?_⟩⟩,ra (su (sr w _)) _⟩
  ·have h9:=grownCap_ge w (0+1) 0 (ins_ren.t 3);rw [Array.size_append,wW,Array.size_replicate];simp only [List.nil_append,List.size_toArray,List.length_cons,List.length_nil];omega
  simp [wW,zq,xf]
 have hL:cur.toList.length=cap:=by simpa using hcs
 have hLt:cur.toList.take l.length=zq l:=by simpa using ht
 have hBL:BlkL w g 3 cur.toList:=by unfold BlkL;simpa using hg
 have hgv:g≠vb:=by intro e;exact hne (by rw [e];rfl)
 have hcsx:∀ j u,(zq l)[j]? =some u→w.cell? ⟨g,0+j,none⟩=some u:=by
  intro j u hj;rw [Nat.zero_add];refine hBL.c j u ?_;rw [←hLt,List.getElem?_take] at hj;split at hj
  ·exact hj
  cases hj
 have hcell:∀ j,j<cap→(w.cell? ⟨g,j,none⟩).isSome=true:=by
  intro j hj;rw [hBL.c j cur.toList[j] (List.getElem?_eq_getElem (by omega))];rfl
 have hcell0:∀ j,j<cap→(w.cell? ⟨g,0+j,none⟩).isSome=true:=by intro j hj;rw [Nat.zero_add];exact hcell j hj
 by_cases hroom:l.length+1≤cap
 ·rcases Nat.lt_or_ge i l.length with hin | hin
  ·refine (Any2.slices_Insert_int_shift sV g 0 l.length cap i vb 0 1 1 (zq l) [.int .i64 (x:Int)] w hin (by omega) hroom (by unfold maxLen at hcm;omega) (fun e=>hgv e.symm) hcl rfl hcsx (fun j hj=>hcell0 j (by omega)) (fun j hj=>hBL.f _) hvs (qe l) h1v 3 3 1 cap (by have h9:=hx;unfold BlkL at h9;simp [World.shape?,h9]) (by simp [World.shape?,hg,hcs]) (by omega) (hx.f _) (hx.f _)).mono ?_;rintro e w' ⟨rfl,rfl⟩;have hD:((zq l).drop i).length=l.length - i:=by rw [List.length_drop,hcl]
   have b1:=BlkL.setCells ((zq l).drop i) (0+(i+1)) w.drew cur.toList hBL (by rw [hD];omega);have b2:=BlkL.setCells [.int .i64 (x:Int)] (0+i) _ _ b1 (by simp;omega);simp only [Nat.zero_add] at b2 ⊢;refine ⟨⟨_,rfl,hpl.trans (by omega),.inr ⟨g,cap,_,rfl,hbg,b2,hroom,hcm,by simp;omega,?_⟩⟩,wM (wM (su (sr w _)) (td g _ _ _)) (td g _ _ _)⟩;have h8:=Ss cur.toList ((zq l).drop i) (.int .i64 (x:Int)) i l.length (by omega) hi hD;have h7:cur.toList.take i=(zq l).take i:=by rw [←hLt,List.take_take,Nat.min_eq_left hi]
   rw [Nat.mul_one,t8,←h7];exact h8
  obtain rfl:i=l.length:=by omega
  refine (Any2.slices_Insert_int_end_room sV g 0 l.length cap vb 0 1 1 [.int .i64 (x:Int)] w (by omega) hroom (by unfold maxLen at hcm;omega) rfl (fun j hj=>by rw [Nat.zero_add];exact hcell _ (by omega)) (fun j hj=>hBL.f _) hvs h1v).mono ?_;rintro e w' ⟨rfl,rfl⟩;have b1:=BlkL.setCells [.int .i64 (x:Int)] (0+l.length) w cur.toList hBL (by simp;omega);rw [Nat.zero_add] at b1;refine ⟨⟨_,rfl,hpl.trans (by omega),.inr ⟨g,cap,_,rfl,hbg,by rw [Nat.zero_add];exact b1,hroom,hcm,by simp;omega,?_⟩⟩,td g _ _ _⟩;rw [Nat.mul_one,t8,hLt,List.take_of_length_le (by omega:(zq l).length≤l.length),List.drop_of_length_le (by omega:(zq l).length≤l.length),List.append_nil];simp only [List.toList_toArray];rw [List.take_append_of_le_length (by simp),List.take_of_length_le (by simp)]
 rcases Nat.lt_or_ge i l.length with hin | hin
 ·refine (Any2.slices_Insert_int_grow sV g 0 l.length cap i vb 0 1 1 (zq l) [.int .i64 (x:Int)] w hin (by omega) hnc (by omega) (by omega) hcl rfl hcsx hvs (qe l) h1v).mono ?_;rintro e w' ⟨rfl,rfl⟩;have hD:((zq l).drop i).length=l.length - i:=by rw [List.length_drop,hcl]
  have hA:((zq l).take i).length=i:=by rw [List.length_take,hcl];omega
  have hge:=grownCap_ge w (l.length+1) cap (ins_ren.t 3);have hle:=grownCap_le_maxLen w (l.length+1) cap (ins_ren.t 3) (by unfold maxLen;omega);obtain ⟨C,hC⟩:=KZ6 (grownCap w (l.length+1) cap (ins_ren.t 3));rw [←hC] at hge hle ⊢;rw [wW,wW];obtain ⟨Z,hZ⟩:∃ Z:List Value,Z=(zq l).take i++List.replicate (l.length+1 - i) (.int .i64 0)++List.replicate (C - (l.length+1)) (.int .i64 0):=⟨_,rfl⟩;have hZa:((zq l).take i).toArray++Array.replicate (l.length+1 - i) (Value.int .i64 0)++Array.replicate (C - (l.length+1)) (Value.int .i64 0)=Z.toArray:=by rw [hZ];simp
  rw [hZa];have hZl:Z.length=C:=by rw [hZ];simp [hA];omega
  have hZt:Z.take i=(zq l).take i:=by rw [hZ,List.append_assoc,List.take_append_of_le_length (by omega),List.take_of_length_le (by omega)]
  have b0:BlkL (w.alloc (.cells Z.toArray (ins_ren.t 3))).drew w.heap.size 3 Z:=(BlkL.new w 3 Z).drew;have b1:=BlkL.setCells [.int .i64 (x:Int)] i _ _ b0 (by simp;omega);have b2:=BlkL.setCells ((zq l).drop i) (i+1) _ _ b1.drew (by simp;omega);refine ⟨⟨_,rfl,hpl.trans (by omega),.inr ⟨w.heap.size,C,_,rfl,hb,b2,hge,hle,by simp;omega,?_⟩⟩,sw (Nat.le_refl _) _ _ _ (su (sw (Nat.le_refl _) _ _ _ (su (ra (sr w _) _))))⟩;have h8:=Sr Z ((zq l).drop i) (.int .i64 (x:Int)) i l.length (by omega) hi hD;rw [Nat.mul_one,t8,←hZt];exact h8
 obtain rfl:i=l.length:=by omega
 refine (Any2.slices_Insert_int_end_grow sV (some ⟨g,0,none⟩) l.length cap vb 0 1 1 (zq l) [.int .i64 (x:Int)] w (by omega) hnc (by omega) (by omega) hcl rfl (by intro h;cases h) (by intro a ha j u hj;cases ha;rw [ZE];exact hcsx j u hj) hvs h1v).mono ?_;rintro e w' ⟨rfl,rfl⟩;have hge:=grownCap_ge w (l.length+1) cap (ins_ren.t 3);have hle:=grownCap_le_maxLen w (l.length+1) cap (ins_ren.t 3) (by unfold maxLen;omega);refine ⟨⟨_,rfl,hpl.trans (by omega),.inr ⟨w.heap.size,_,_,rfl,hb,heap_alloc_new w.drew _,hge,hle,?_,?_⟩⟩,ra (su (sr w _)) _⟩
 ·rw [Array.size_append,wW,Array.size_replicate];simp;omega
 rw [wW,t8,Nat.mul_one,List.take_of_length_le (by omega:(zq l).length≤l.length),List.drop_of_length_le (by omega:(zq l).length≤l.length),List.append_nil,Xn];simp only [List.toList_toArray];rw [List.take_append_of_le_length (by simp),List.take_of_length_le (by simp)]
end Go.Proofs.YtjbciamhhfcdoaaGreatDoor
namespace Go.Proofs.YtjbciamhhfcdoaaGreatDoor
open Go.RowKit Hs
set_option maxRecDepth 20000
set_option maxHeartbeats 16000000
theorem Jr (g:Nat) (l:Bs) (v:Value) (pts:List Nat) (nn ii bi:Nat) (st:Bool) (w:World) (hd:BlkL w g 220 [.string (mk l),v,.int .i64 (nn:Int),.int .i64 (ii:Int),.int .i64 (bi:Int),.bool st]) (hown:w.ownsRow (g+1) 3 1 v pts.length (zq pts))
  (h0:l≠[]) (hl:l.length≤100000) (hnn:nn≤1114111) (hii:ii≤257) (hbi:bi≤324) (hpl:pts.length≤256) :
  Calls Tryz.prog 216 #[.pointer (some ⟨g,0,none⟩)] w fun e w'=>(∃ c,e= .returned (.int .i64 c)∧((c=0∧∃ (l2:Bs) (v2:Value) (pts2:List Nat) (nn2 ii2 bi2:Nat),rI l nn ii bi (!st) pts=rI l2 nn2 ii2 bi2 false pts2∧l2.length<l.length∧nn2≤1114111∧ii2≤257∧bi2≤324∧pts2.length≤256∧BlkL w' g 220 [.string (mk l2),v2,.int .i64 (nn2:Int),.int .i64 (ii2:Int),.int .i64 (bi2:Int),.bool true]∧w'.ownsRow (g+1) 3 1 v2 pts2.length (zq pts2))∨(c≠0∧rI l nn ii bi (!st) pts=none)))∧Below g w w':=by
 have hnum:=Qp g l v nn ii bi st w hd hl hii hbi;have HNUM:=KZ9 hnum;have c3:=hd.c 3 _ rfl;have hgl:=hd.lt;have HD:=KZ9 hd;have HDL:Hid (∃ x,x=rI l nn ii bi (!st) pts):=KZ9 ⟨_,rfl⟩;obtain ⟨R,hR⟩:=HDL.out;have HR:=KZ9 hR;rw [←hR];have HOWN:=KZ9 hown;obtain ⟨m,hm⟩:=KZ6 pts.length;rw [←hm] at hpl hown;have HM:=KZ9 hm;obtain ⟨a,cp,rfl⟩:=yw hown;clear hR hown hm hnum hd HDL;go_enter Tryz.func216,Tryz.ntmps216
 go_wp2_with fail
 all_goals try omega
 refine (HNUM.out).mono ?_;rintro e w2 ⟨⟨c,rfl,hres⟩,hg2⟩;have HG2:=KZ9 hg2;clear hg2 HNUM c3;rcases hres with ⟨rfl,p,hp,hd2⟩ | ⟨hc,hnone⟩
 ·have hps:=t6 l ii 1 0 bi p hp;have hdl:=Z0 (n:=nn) (first:= !st) (pts:=pts) hp;rw [←HR.out,←HM.out] at hdl;obtain ⟨I,l2⟩:=p;simp only at hps hdl hd2;have HO2:=KZ9 (HOWN.out.kept HG2.out (vR HOWN.out (Nat.lt_succ_self g)));have q1:=hd2.c 1 _ rfl;have q3:=hd2.c 3 _ rfl;have q5:=hd2.c 5 _ rfl;have k4:=hd2.f 4;have q4:=hd2.c 4 _ rfl;obtain ⟨D,hD⟩:=KZ6 (I - ii);rw [←hD] at hdl;have hDi:(I:Int) - (ii:Int)=(D:Int):=by omega
  have hDb:D≤1099511627776:=by omega
  have had:=fun W=>ks D (m+1) (!st) W hDb (by omega) (by omega);have hadb:=uB D (m+1) (!st) hDb;obtain ⟨bi2,hbi2⟩:∃ b2,b2=xV D (m+1) (!st):=⟨_,rfl⟩;rw [←hbi2] at hadb hdl;simp only [←hbi2] at had
  push_cast at had
  have had2:∀ (W:World) (x y:Int),x=(D:Int)→y=(m:Int)+1→Calls Tryz.prog 219 #[.int .i64 x,.int .i64 y,.bool (!st)] W fun e w'=>e= .returned (.int .i64 (bi2:Int))∧W=w':=by rintro W x y rfl rfl;exact had W
  have HAD:=KZ9 had2;obtain ⟨q,hq⟩:=KZ6 (I / (m+1));obtain ⟨r,hr⟩:=KZ6 (I % (m+1));rw [←hq,←hr] at hdl;have hrm:r≤m:=by have:=Nat.mod_lt I (show 0<m+1 by omega);omega
  have hqb:q≤1099511627776:=by have:=Nat.div_le_self I (m+1);omega
  have e2:(m:Int)+1=((m+1:Nat):Int):=by omega
  have HQI:Hid ((I:Int) / ((m:Int)+1)=(q:Int)):=KZ9 (by rw [e2,hq];rfl);have HQT:Hid ((I:Int).tdiv ((m:Int)+1)=(q:Int)):=KZ9 (by rw [Int.tdiv_eq_ediv_of_nonneg (by omega)];exact HQI.out);have HRI:Hid ((I:Int) % ((m:Int)+1)=(r:Int)):=KZ9 (by rw [e2,hr];rfl);have HRT:Hid ((I:Int).tmod ((m:Int)+1)=(r:Int)):=KZ9 (by rw [Int.tmod_eq_emod_of_nonneg (by omega)];exact HRI.out);have hpt:=fun W=>XE (nn+q) W (by omega);obtain ⟨ok,hok⟩:=KZ6 (xl (nn+q));have hokb:Hid (ok=true→nn+q≤1114111):=KZ9 (fun h=>by rw [hok] at h;exact (of_decide_eq_true h).1);rw [←hok] at hdl;simp only [←hok] at hpt
  push_cast at hpt
  have HPT:=KZ9 hpt;have HDL2:=KZ9 hdl;have HD2:=KZ9 hd2;have hI0:I≤1099511627776:=hps.2.2;have HLS:=KZ9 hps.1;clear hdl hD had had2 hbi2 hq hr e2 hpt hok hd2 hps hp;go_upto_region 6 with fail
  all_goals try omega
  go_cut [] (fun wx=>BlkL wx g 220 [.string (mk l2),.slice a m cp,.int .i64 (nn:Int),.int .i64 (I:Int),.int .i64 (bi2:Int),.bool st]∧w2.grownBy wx (some g))
  case first =>
   go_still_tail 16,(by kernel_rfl)
   still_call ((HAD.out _ _ _ (by first | exact hDi | (rw [IntKind.wrap_i64]<;>omega) | omega) (by first | rfl | (rw [IntKind.wrap_i64]<;>omega) | omega)).mono (fun _ _ h=>⟨h.1,h.2.symm⟩))
   repeat still_step
   refine wpStill_nil ?_;change wpList _ _ _ _ _ w2.drew
   all_goals (go_wp2;go_meet;exact ⟨HD2.out.drew.set 4 (by simp) (.int .i64 (bi2:Int)),wM (su (sr _ _)) (xY _ g 4 (.int .i64 (bi2:Int)))⟩)
  case rest =>
  obtain ⟨hd3,hg3⟩:=hcut;clear q1 q3 q5 k4 q4 HD2 HAD;have p5:=hd3.c 5 _ rfl;have g5:=hd3.f 5;have HD3:=KZ9 hd3;have HG3:=KZ9 hg3;clear hd3 hg3;have hb5:BlkL (wc.setCell ⟨g,5,none⟩ (.bool true)) g 220 [.string (mk l2),.slice a m cp,.int .i64 (nn:Int),.int .i64 (I:Int),.int .i64 (bi2:Int),.bool true]:=HD3.out.set 5 (by simp) (.bool true);have hg5:=wM HG3.out (xY wc g 5 (.bool true));obtain ⟨w5,hw5⟩:=KZ6 (wc.setCell ⟨g,5,none⟩ (.bool true));rw [←hw5] at hb5 hg5;have HW5:=KZ9 hw5;have HB5:=KZ9 hb5;have HG5:=KZ9 hg5;clear hw5 hb5 hg5;go_upto_region 8 with fail
  all_goals try omega
  go_cut [] (fun wx=>BlkL wx g 220 [.string (mk l2),.slice a m cp,.int .i64 ((nn:Int)+(q:Int)),.int .i64 (I:Int),.int .i64 (bi2:Int),.bool true]∧w2.grownBy wx (some g))
  case first =>
   rw [←HW5.out];have p2:=HB5.out.c 2 _ rfl;have p3:=HB5.out.c 3 _ rfl;have k2:=HB5.out.f 2;have hqi:=HQI.out;have hqt:=HQT.out;have hmz:(m:Int)+1≠0:=by omega
   clear p5 g5;go_still_tail 13,(by kernel_rfl)
   all_goals (change wpList _ _ _ _ _ w5.drew)
   go_wp2
   all_goals (go_meet;exact ⟨HB5.out.drew.set 2 (by simp) (.int .i64 ((nn:Int)+(q:Int))),wM (su HG5.out) (xY _ g 2 (.int .i64 ((nn:Int)+(q:Int))))⟩)
  case rest =>
  obtain ⟨hd6,hg6⟩:=hcut;clear p5 g5 HD3 HG3 HB5 HG5 HW5;have p3:=hd6.c 3 _ rfl;have k3:=hd6.f 3;have b7:BlkL (wc.setCell ⟨g,3,none⟩ (.int .i64 (r:Int))) g 220 [.string (mk l2),.slice a m cp,.int .i64 ((nn:Int)+(q:Int)),.int .i64 (r:Int),.int .i64 (bi2:Int),.bool true]:=hd6.set 3 (by simp) (.int .i64 (r:Int));have p2:=b7.c 2 _ rfl;have HG7:=KZ9 (wM hg6 (xY wc g 3 (.int .i64 (r:Int))));have HB7:=KZ9 b7;have hri:=HRI.out;have hrt:=HRT.out;have hmz:(m:Int)+1≠0:=by omega
  obtain ⟨w7,hw7⟩:=KZ6 (wc.setCell ⟨g,3,none⟩ (.int .i64 (r:Int)));rw [←hw7] at HG7 HB7;have HW7:=KZ9 hw7;have HO7:=KZ9 (HO2.out.kept HG7.out (vR HO2.out (Nat.lt_succ_self g)));have HBEL:=KZ9 (Ve (wM HG2.out HG7.out) (Nat.le_refl _) (by omega));clear b7 hd6 hg6 hw7;cases ok
  ·have HN:=KZ9 (HDL2.out.trans (if_pos rfl));clear HDL2;go_wp2_with fail
   all_goals try omega
   refine (HPT.out _).mono ?_;rintro e w6 ⟨rfl,rfl⟩;go_wp2
   all_goals try omega
   go_ret;rw [←HW7.out];exact ⟨⟨_,rfl,.inr ⟨by decide,HN.out⟩⟩,HBEL.out⟩
  have hN1:=hokb.out rfl;have HDL3:=KZ9 (HDL2.out.trans (if_neg (by simp)));clear HDL2;by_cases h256:256<m+1
  ·have HN:=KZ9 (HDL3.out.trans (if_pos h256));have g8:decide ((256:Int)<(m:Int)+1)=true:=KZ7 (by omega);clear HDL3;go_wp2_with fail
   all_goals try omega
   refine (HPT.out _).mono ?_;rintro e w6 ⟨rfl,rfl⟩;go_wp2
   all_goals try omega
   go_ret;rw [←HW7.out];exact ⟨⟨_,rfl,.inr ⟨by decide,HN.out⟩⟩,HBEL.out⟩
  have HDL4:=KZ9 (HDL3.out.trans (if_neg h256));have g8:decide ((256:Int)<(m:Int)+1)=false:=KZ8 (by omega);clear HDL3;go_wp2_with fail
  all_goals try omega
  refine (HPT.out _).mono ?_;rintro e w6 ⟨rfl,rfl⟩;go_upto_region 14 with fail
  all_goals try omega
  go_cut [] (fun wx=>∃ v2,BlkL wx g 220 [.string (mk l2),v2,.int .i64 ((nn:Int)+(q:Int)),.int .i64 (r:Int),.int .i64 (bi2:Int),.bool true]∧wx.ownsRow (g+1) 3 1 v2 (m+1) (zq (xf pts r (nn+q)))∧Below g w wx)
  case first =>
   rw [←HW7.out];clear p3 k3 p2 hri hrt hmz;have y1:=HB7.out.c 1 _ rfl;have y2:=HB7.out.c 2 _ rfl;have y3:=HB7.out.c 3 _ rfl;have hx7:BlkL ((w7.alloc (.cells #[.int .i64 ((nn:Int)+(q:Int))] 3)).drew) w7.heap.size 3 [.int .i64 ((nn+q:Nat):Int)]:=by
    rw [Int.natCast_add];exact (BlkL.new w7 3 [.int .i64 ((nn:Int)+(q:Int))]).drew
   have ho7:((w7.alloc (.cells #[.int .i64 ((nn:Int)+(q:Int))] 3)).drew).ownsRow (g+1) 3 1 (.slice a m cp) pts.length (zq pts):=(HO7.out.alloc _).drew;have hins:=RS (.slice a m cp) pts r (nn+q) (g+1) w7.heap.size _ ho7 (by simp;have:=HB7.out.lt;omega) (by rw [←HM.out];exact hrm) (by rw [←HM.out];omega) hx7 (by intro e;have:=(HO7.out.lt _ e).2;omega);rw [←HM.out] at hins;have HINS:=KZ9 hins;have HBX:=KZ9 (HB7.out.alloc (.cells #[.int .i64 ((nn:Int)+(q:Int))] 3)).drew;have hgw:=HB7.out.lt;have z1:∀ o,(w7.alloc o).cell? ⟨g,1,none⟩=some (.slice a m cp):=fun o=>(HB7.out.alloc o).c 1 _ rfl;have z3:∀ o,(w7.alloc o).cell? ⟨g,3,none⟩=some (.int .i64 (r:Int)):=fun o=>(HB7.out.alloc o).c 3 _ rfl;clear hins hx7 ho7
   go_region_with (go_at_call 241;refine HINS.out.mono ?_;rintro e w' ⟨⟨v',rfl,hown'⟩,hg'⟩;obtain ⟨a',c',rfl⟩:=yw hown';have hB':=HBX.out.grown hg' (fun e=>by have:=(HO7.out.lt g e.symm).1;omega);have u1:=hB'.c 1 _ rfl;have t1:=hB'.f 1)
   all_goals (go_wp2;go_meet;exact ⟨_,hB'.set 1 (by simp) _,by
    have h9:=hown'.kept (xY w' g 1 (.slice a' (m+1) c')) (vR hown' (Nat.lt_succ_self g));exact h9,((((HBEL.out.alloc (by have:=HBEL.out.size;omega) _).drew).grown hg' (by simp;have:=HBEL.out.size;omega) (fun k hk=>by have:=(HO7.out.lt k hk).1;omega)).setCell (p:=⟨g,1,none⟩) (Nat.le_refl _) _)⟩)
  case rest =>
   obtain ⟨v2,hb2,ho2,hbel2⟩:=hcut;clear p3 k3 p2 hri hrt hmz;have y3:=hb2.c 3 _ rfl;have f3:=hb2.f 3;have HFB:=KZ9 (hb2.set 3 (by simp) (.int .i64 ((r:Int)+1)));have HFO:=KZ9 (ho2.kept (xY _ g 3 (.int .i64 ((r:Int)+1))) (vR ho2 (Nat.lt_succ_self g)));have HFL:=KZ9 (hbel2.setCell (p:=⟨g,3,none⟩) (Nat.le_refl _) (.int .i64 ((r:Int)+1)));clear hb2 ho2 hbel2;go_wp2
   all_goals try omega
   go_ret;refine ⟨⟨_,rfl,.inl ⟨rfl,l2,v2,xf pts r (nn+q),nn+q,r+1,bi2,HDL4.out,HLS.out,hN1,by omega,hadb,by rw [wz,←HM.out];omega,?_,?_⟩⟩,HFL.out⟩
   ·have h9:=HFB.out;rw [Int.natCast_add,Int.natCast_add];exact h9
   rw [wz,←HM.out];exact HFO.out
 have HN:=KZ9 (HR.out.trans (tP h0 hnone));have hcb:(c != 0)=true:=by simpa using hc
 have hcd:Hid (c≠0):=KZ9 hc;clear hnone hc;go_wp2
 all_goals try omega
 go_ret;exact ⟨⟨_,rfl,.inr ⟨hcd.out,HN.out⟩⟩,Ve HG2.out (Nat.le_refl _) (by omega)⟩
end Go.Proofs.YtjbciamhhfcdoaaGreatDoor
