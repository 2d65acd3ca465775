/- What the proof of TopDecisionTable uses, part Dec08. -/
import Derived.Test.YtjbciamhhfcdoaaGreatDoorDec07
set_option linter.unusedSimpArgs false
set_option linter.unusedVariables false
namespace Go.Proofs.YtjbciamhhfcdoaaGreatDoor
open Go.RowKit Hs
def Jw (l:Bs) (w:World) (e:Ending) (w':World):Prop:=(∃ v ok,e= .returned (.tuple #[v,.bool ok])∧((ok=true∧Lib.validD l=true∧w'.ownsRow w.heap.size 3 1 v (xD l).length (zq (xD l)))∨(ok=false∧Lib.validD l=false∧v= .slice none 0 0)))∧Below w.heap.size w w'
set_option maxRecDepth 20000
set_option maxHeartbeats 16000000
theorem kh (s:ByteArray) (w:World) (hs:s.size≤1000000):Calls Tryz.prog 201 #[.string s] w (Jw (un s) w):=by
 obtain ⟨iN0,iN⟩:=info_parts qZ;have hlen:(un s).length=s.size:=zb s;obtain ⟨l,hl⟩:=KZ6 (un s);rw [←hl] at hlen ⊢;have hget:∀ j (hj:j<s.size),s[j]=l[j]'(by omega):=fun j hj=>by
  have:=zL s j hj;simp only [←hl] at this;exact this.symm
 have HGET:Hid (∀ j (hj:j<s.size),s[j]=l[j]'(by omega)):=KZ9 hget;obtain ⟨n,hn⟩:=KZ6 s.size;have hnI:(s.size:Int)=(n:Int):=by rw [hn]
 have HN:=KZ9 hn;have hn6:n≤1000000:=by omega
 have HLEN:Hid (l.length=n):=KZ9 (by omega);clear hget hl hs hn;go_enter Tryz.func201,Tryz.ntmps201
 go_wp2;go_loopw [4,5] (fun ov iv wr=>∃ (i:Nat) (done:List Nat),iv= .int .i64 i∧i≤n∧done.length≤i∧wr.ownsRow w.heap.size 3 1 ov done.length (zq done)∧Hid (Lib.validD l=Lib.validD (l.drop i))∧Hid (xD l=done++xD (l.drop i))∧Below w.heap.size w wr) (fun _ iv _=>n - (intOf iv).toNat)
 case atStart=>exact ⟨0,[],rfl,by omega,by simp,World.ownsRow_nil _ _ _ _,KZ9 (by rw [List.drop_zero]),KZ9 (by rw [List.drop_zero];rfl),Below.refl _ _⟩
 case round =>
  obtain ⟨i,done,rfl,hi,hdl,hown,hval,hpts,hnx⟩:=hrel;by_cases hlt:i<n
  ·have his:i<s.size:=by omega
   have hne:l.drop i≠[]:=by
    intro e;have:=congrArg List.length e;rw [List.length_drop,HLEN.out] at this;simp at this;omega
   have hb0:=HGET.out i his;have hdc:l.drop i=s[i]::l.drop (i+1):=by rw [List.drop_eq_getElem_cons (by rw [HLEN.out];exact hlt),hb0]
   have hv1:Hid (Lib.validD l=match xe (l.drop i) with | none=>false | some p=>Lib.validD (l.drop (i+p.2))):=by
    refine KZ9 ?_;rw [hval.out,Vo hne];cases xe (l.drop i) with
    | none=>rfl
    | some p =>
     show Lib.validD ((l.drop i).drop p.2)=Lib.validD (l.drop (i+p.2));rw [List.drop_drop]
   obtain ⟨b,hb⟩:=KZ6 (s[i].toNat);have hbI:((s[i].toNat:Nat):Int)=(b:Int):=by rw [hb]
   have hb256:b<256:=by rw [hb];exact s[i].toNat_lt
   have HB:=KZ9 hb;have HDC:=KZ9 hdc;have hsz:=hnx.size;clear hval hne hb0 hdc hb;by_cases h1:b<128
   ·have hr:xe (l.drop i)=some (b,1):=by rw [HDC.out,Zq _ (by rw [←HB.out];exact h1),←HB.out]
    have hv2:Hid (Lib.validD l=Lib.validD (l.drop (i+1))):=KZ9 (by rw [hv1.out,hr]);have hp2:Hid (xD l=(done++[b])++xD (l.drop (i+1))):=KZ9 (by rw [hpts.out,(qC hr).1,List.drop_drop,List.append_assoc];rfl);have g1:decide ((b:Int)<128)=true:=KZ7 (by omega);have hpt:=KZ9 (fun W=>uo b W (by omega));obtain ⟨ok,hok⟩:=KZ6 (xl b);have hokt:ok=true:=by rw [hok];unfold xl;simp;omega
    simp only [←hok,hokt] at hpt;have g2:decide ((b:Int)<0)=false:=KZ8 (by omega);have g3:decide ((n:Int) - (i:Int)<1)=false:=KZ8 (by omega);clear hv1 hpts hr hok hokt;go_wp2
    all_goals try omega
    go_loopw [8,10] (fun vv kv wr2=>vv= .int .i64 (b:Int)∧kv= .int .i64 ((1:Nat):Int)∧wr2=wr) (fun _ kv _=>10 - (intOf kv).toNat)
    case atStart=>exact ⟨rfl,rfl,rfl⟩
    case round =>
     obtain ⟨rfl,rfl,rfl⟩:=hrel;go_wp2_with fail
     all_goals try omega
     refine (hpt.out _).mono ?_;rintro e w2 ⟨rfl,rfl⟩;go_wp2_with (at_builtin;refine wpList_append_own _ rfl (.tmp 87) (.tmp 89) 140 rfl (w.heap.size) 3 iN0 (.int .i64 0) 1 8 Tryz.underlying140 iN.1 iN.2.1 iN.2.2.1 iN.2.2.2 rfl (by decide) _ _ _ rfl (hown.alloc _) ⟨wr.heap.size,0,none⟩ 1 1 [_] rfl rfl (cell_one_new _ _ _) (by intro u hu;simp at hu;subst hu;rfl) (by unfold maxLen;omega) (by omega) (by simp;omega) ?_;intro v1 w3 hown1 hgrow1 hnil1)
     all_goals try omega
     refine ⟨⟨i+1,done++[b],by go_num,by omega,by simp;omega,?_,hv2,hp2,(hnx.alloc hsz _).grown hgrow1 (by simp;omega) (fun j hj=>(hown.lt j hj).1)⟩,by simp [intOf];omega⟩;rw [xH,List.length_append,show zq [b]=[.int .i64 (b:Int)] from rfl];exact hown1
   by_cases h2:194≤b∧b<224
   ·obtain ⟨h2a,h2b⟩:=h2;have q0:decide ((b:Int)<128)=false:=KZ8 (by omega);have q1:decide ((194:Int)≤(b:Int))=true:=KZ7 (by omega);have q2:decide ((b:Int)<224)=true:=KZ7 (by omega);have hlead:xC b=(2,b - 192,128):=by unfold xC;repeat (first | rw [if_pos (by omega)] | rw [if_neg (by omega)])
    obtain ⟨v0,hv0⟩:=KZ6 (b - 192);have hv0I:(b:Int) - 192=(v0:Int):=by omega
    have hv0b:v0<32:=by omega
    rw [←hv0] at hlead;clear hv0;have hlead2:xC s[i].toNat=(2,v0,128):=by rw [←HB.out];exact hlead
    by_cases hshort:n - i<2
    ·have hr:xe (l.drop i)=none:=by rw [HDC.out];exact sO hlead2 (by rw [List.length_cons,List.length_drop,HLEN.out];omega)
     have hfin:Hid (Lib.validD l=false):=KZ9 (by rw [hv1.out,hr]);have g3:decide ((n:Int) - (i:Int)<2)=true:=KZ7 (by omega);clear hv1 hpts hr hlead hlead2;go_wp2
     all_goals try omega
     go_ret2;exact ⟨⟨_,_,rfl,.inr ⟨rfl,hfin.out,rfl⟩⟩,hnx⟩
    have g3:decide ((n:Int) - (i:Int)<2)=false:=KZ8 (by omega);obtain ⟨D,hD⟩:=KZ6 ((l.drop (i+1)).take (2 - 1));have hDl:D.length=2 - 1:=by rw [hD,List.length_take,List.length_drop,HLEN.out];omega
    have hr0:xe (l.drop i)=match xi v0 D with | none=>none | some v=>if v<128∨xl v=false then none else some (v,2):=by
     rw [HDC.out,hD];exact r9 hlead2 (by decide) (by rw [List.length_cons,List.length_drop,HLEN.out];omega)
    have HDG:Hid (∀ j (h:j<D.length) (h2:i+1+j<s.size),D[j]=s[i+1+j]):=KZ9 (fun j h h2=>by
     rw [HGET.out (i+1+j) h2];simp only [hD,List.getElem_take,List.getElem_drop])
    have HR0:=KZ9 hr0;clear hD hr0 hlead hlead2;go_wp2
    all_goals try omega
    go_loopw [8,10] (fun vv kv wr2=>∃ (v j:Nat),vv= .int .i64 (v:Int)∧kv= .int .i64 (j:Int)∧1≤j∧j≤2∧v<vb j∧Hid (xi v0 D=xi v (D.drop (j - 1)))∧wr2=wr) (fun _ kv _=>10 - (intOf kv).toNat)
    case atStart=>exact ⟨v0,1,by rw [←hv0I],rfl,by omega,by omega,hv0b,KZ9 (by rw [Nat.sub_self,List.drop_zero]),rfl⟩
    case round =>
     obtain ⟨v,j,rfl,rfl,hj1,hj2,hvb,hct,rfl⟩:=hrel;have hvl:=SX (show j≤4 by omega);by_cases hjk:j<2
     ·have hjs:i+j<s.size:=by omega
      have hDd:D.drop (j - 1)=s[i+j]::D.drop j:=by
       rw [List.drop_eq_getElem_cons (by omega)];have e1:=HDG.out (j - 1) (by omega) (by omega);have e2:i+1+(j - 1)=i+j:=by omega
       simp only [e2] at e1;rw [e1,show j - 1+1=j by omega]
      have hcv:Hid (xi v0 D=if 128≤s[i+j].toNat∧s[i+j].toNat≤191 then xi (v*64+s[i+j].toNat - 128) (D.drop j) else none):=KZ9 (by rw [hct.out,hDd,pX]);obtain ⟨c,hc⟩:=KZ6 (s[i+j].toNat);have hcI:((s[i+j].toNat:Nat):Int)=(c:Int):=by rw [hc]
      have hc256:c<256:=by rw [hc];exact s[i+j].toNat_lt
      rw [←hc] at hcv;have hijI:(i:Int)+(j:Int)<(n:Int):=by omega
      clear hct hDd hc;by_cases hok:128≤c∧c≤191
      ·have hcv2:Hid (xi v0 D=xi (v*64+c - 128) (D.drop (j+1 - 1))):=KZ9 (by rw [hcv.out,if_pos hok,Nat.add_sub_cancel]);have g4:decide ((c:Int)<128)=false:=KZ8 (by omega);have g5:decide ((191:Int)<(c:Int))=false:=KZ8 (by omega);have hvn:=Yg hvb hj1 hok.2;have hvI:(v:Int)*64+(c:Int) - 128=((v*64+c - 128:Nat):Int):=by omega
       clear hcv;go_wp2
       all_goals try omega
       go_roundw
       case rel=>exact ⟨v*64+c - 128,j+1,by first | rw [←hvI] | (go_num;omega) | go_goals,by go_num,by omega,by omega,hvn,hcv2,by first | exact True.intro | exact rfl⟩
       case measure=>simp [intOf];omega
      have hr:xe (l.drop i)=none:=by rw [HR0.out,hcv.out,if_neg hok]
      have hfin:Hid (Lib.validD l=false):=KZ9 (by rw [hv1.out,hr]);clear hv1 hpts hr hcv;by_cases hlo:c<128
      ·have g4:decide ((c:Int)<128)=true:=KZ7 (by omega);go_wp2
       all_goals try omega
       go_ret2;exact ⟨⟨_,_,rfl,.inr ⟨rfl,hfin.out,rfl⟩⟩,hnx⟩
      have g4:decide ((c:Int)<128)=false:=KZ8 (by omega);have g5:decide ((191:Int)<(c:Int))=true:=KZ7 (by omega);go_wp2
      all_goals try omega
      go_ret2;exact ⟨⟨_,_,rfl,.inr ⟨rfl,hfin.out,rfl⟩⟩,hnx⟩
     have hjI:¬ (j:Int)<2:=by omega
     have hcv:xi v0 D=some v:=by rw [hct.out,List.drop_of_length_le (by omega),pY]
     have hr:xe (l.drop i)=if v<128∨xl v=false then none else some (v,2):=by rw [HR0.out,hcv]
     have hpt:=KZ9 (fun W=>uo v W (by omega));obtain ⟨ok,hok⟩:=KZ6 (xl v);rw [←hok] at hr;simp only [←hok] at hpt;clear hct hcv hok;by_cases hle:v<128
     ·have hfin:Hid (Lib.validD l=false):=KZ9 (by rw [hv1.out,hr,if_pos (.inl hle)]);have g6:decide ((v:Int)<128)=true:=KZ7 (by omega);clear hv1 hpts hr;go_wp2_with fail
      all_goals try omega
      go_ret2;exact ⟨⟨_,_,rfl,.inr ⟨rfl,hfin.out,rfl⟩⟩,hnx⟩
     have g6:decide ((v:Int)<128)=false:=KZ8 (by omega);cases ok
     ·have hfin:Hid (Lib.validD l=false):=KZ9 (by rw [hv1.out,hr,if_pos (.inr rfl)]);clear hv1 hpts hr;go_wp2_with fail
      all_goals try omega
      refine (hpt.out _).mono ?_;rintro e w2 ⟨rfl,rfl⟩;go_wp2
      all_goals try omega
      go_ret2;exact ⟨⟨_,_,rfl,.inr ⟨rfl,hfin.out,rfl⟩⟩,hnx⟩
     have hr2:xe (l.drop i)=some (v,2):=by rw [hr,if_neg (by rintro (h | h);exact hle h;cases h)]
     have hv2:Hid (Lib.validD l=Lib.validD (l.drop (i+2))):=KZ9 (by rw [hv1.out,hr2]);have hp2:Hid (xD l=(done++[v])++xD (l.drop (i+2))):=KZ9 (by rw [hpts.out,(qC hr2).1,List.drop_drop,List.append_assoc];rfl);clear hv1 hpts hr hr2;go_wp2_with fail
     all_goals try omega
     refine (hpt.out _).mono ?_;rintro e w2 ⟨rfl,rfl⟩;go_wp2_with (at_builtin;refine wpList_append_own _ rfl (.tmp 87) (.tmp 89) 140 rfl (w.heap.size) 3 iN0 (.int .i64 0) 1 8 Tryz.underlying140 iN.1 iN.2.1 iN.2.2.1 iN.2.2.2 rfl (by decide) _ _ _ rfl (hown.alloc _) ⟨wr.heap.size,0,none⟩ 1 1 [_] rfl rfl (cell_one_new _ _ _) (by intro u hu;simp at hu;subst hu;rfl) (by unfold maxLen;omega) (by omega) (by simp;omega) ?_;intro v1 w3 hown1 hgrow1 hnil1)
     all_goals try omega
     refine ⟨⟨i+2,done++[v],by go_num,by omega,by simp;omega,?_,hv2,hp2,(hnx.alloc hsz _).grown hgrow1 (by simp;omega) (fun j hj=>(hown.lt j hj).1)⟩,by simp [intOf];omega⟩;rw [xH,List.length_append,show zq [v]=[.int .i64 (v:Int)] from rfl];exact hown1
   by_cases h3:224≤b∧b<240
   ·obtain ⟨h3a,h3b⟩:=h3;have q0:decide ((b:Int)<128)=false:=KZ8 (by omega);have q1:decide ((194:Int)≤(b:Int))=true:=KZ7 (by omega);have q2:decide ((b:Int)<224)=false:=KZ8 (by omega);have q3:decide ((224:Int)≤(b:Int))=true:=KZ7 (by omega);have q4:decide ((b:Int)<240)=true:=KZ7 (by omega);have hlead:xC b=(3,b - 224,2048):=by unfold xC;repeat (first | rw [if_pos (by omega)] | rw [if_neg (by omega)])
    obtain ⟨v0,hv0⟩:=KZ6 (b - 224);have hv0I:(b:Int) - 224=(v0:Int):=by omega
    have hv0b:v0<32:=by omega
    rw [←hv0] at hlead;clear hv0;have hlead2:xC s[i].toNat=(3,v0,2048):=by rw [←HB.out];exact hlead
    by_cases hshort:n - i<3
    ·have hr:xe (l.drop i)=none:=by rw [HDC.out];exact sO hlead2 (by rw [List.length_cons,List.length_drop,HLEN.out];omega)
     have hfin:Hid (Lib.validD l=false):=KZ9 (by rw [hv1.out,hr]);have g3:decide ((n:Int) - (i:Int)<3)=true:=KZ7 (by omega);clear hv1 hpts hr hlead hlead2;go_wp2
     all_goals try omega
     go_ret2;exact ⟨⟨_,_,rfl,.inr ⟨rfl,hfin.out,rfl⟩⟩,hnx⟩
    have g3:decide ((n:Int) - (i:Int)<3)=false:=KZ8 (by omega);obtain ⟨D,hD⟩:=KZ6 ((l.drop (i+1)).take (3 - 1));have hDl:D.length=3 - 1:=by rw [hD,List.length_take,List.length_drop,HLEN.out];omega
    have hr0:xe (l.drop i)=match xi v0 D with | none=>none | some v=>if v<2048∨xl v=false then none else some (v,3):=by
     rw [HDC.out,hD];exact r9 hlead2 (by decide) (by rw [List.length_cons,List.length_drop,HLEN.out];omega)
    have HDG:Hid (∀ j (h:j<D.length) (h2:i+1+j<s.size),D[j]=s[i+1+j]):=KZ9 (fun j h h2=>by
     rw [HGET.out (i+1+j) h2];simp only [hD,List.getElem_take,List.getElem_drop])
    have HR0:=KZ9 hr0;clear hD hr0 hlead hlead2;go_wp2
    all_goals try omega
    go_loopw [8,10] (fun vv kv wr2=>∃ (v j:Nat),vv= .int .i64 (v:Int)∧kv= .int .i64 (j:Int)∧1≤j∧j≤3∧v<vb j∧Hid (xi v0 D=xi v (D.drop (j - 1)))∧wr2=wr) (fun _ kv _=>10 - (intOf kv).toNat)
    case atStart=>exact ⟨v0,1,by rw [←hv0I],rfl,by omega,by omega,hv0b,KZ9 (by rw [Nat.sub_self,List.drop_zero]),rfl⟩
    case round =>
     obtain ⟨v,j,rfl,rfl,hj1,hj2,hvb,hct,rfl⟩:=hrel;have hvl:=SX (show j≤4 by omega);by_cases hjk:j<3
     ·have hjs:i+j<s.size:=by omega
      have hDd:D.drop (j - 1)=s[i+j]::D.drop j:=by
       rw [List.drop_eq_getElem_cons (by omega)];have e1:=HDG.out (j - 1) (by omega) (by omega);have e2:i+1+(j - 1)=i+j:=by omega
       simp only [e2] at e1;rw [e1,show j - 1+1=j by omega]
      have hcv:Hid (xi v0 D=if 128≤s[i+j].toNat∧s[i+j].toNat≤191 then xi (v*64+s[i+j].toNat - 128) (D.drop j) else none):=KZ9 (by rw [hct.out,hDd,pX]);obtain ⟨c,hc⟩:=KZ6 (s[i+j].toNat);have hcI:((s[i+j].toNat:Nat):Int)=(c:Int):=by rw [hc]
      have hc256:c<256:=by rw [hc];exact s[i+j].toNat_lt
      rw [←hc] at hcv;have hijI:(i:Int)+(j:Int)<(n:Int):=by omega
      clear hct hDd hc;by_cases hok:128≤c∧c≤191
      ·have hcv2:Hid (xi v0 D=xi (v*64+c - 128) (D.drop (j+1 - 1))):=KZ9 (by rw [hcv.out,if_pos hok,Nat.add_sub_cancel]);have g4:decide ((c:Int)<128)=false:=KZ8 (by omega);have g5:decide ((191:Int)<(c:Int))=false:=KZ8 (by omega);have hvn:=Yg hvb hj1 hok.2;have hvI:(v:Int)*64+(c:Int) - 128=((v*64+c - 128:Nat):Int):=by omega
       clear hcv;go_wp2
       all_goals try omega
       go_roundw
       case rel=>exact ⟨v*64+c - 128,j+1,by first | rw [←hvI] | (go_num;omega) | go_goals,by go_num,by omega,by omega,hvn,hcv2,by first | exact True.intro | exact rfl⟩
       case measure=>simp [intOf];omega
      have hr:xe (l.drop i)=none:=by rw [HR0.out,hcv.out,if_neg hok]
      have hfin:Hid (Lib.validD l=false):=KZ9 (by rw [hv1.out,hr]);clear hv1 hpts hr hcv;by_cases hlo:c<128
      ·have g4:decide ((c:Int)<128)=true:=KZ7 (by omega);go_wp2
       all_goals try omega
       go_ret2;exact ⟨⟨_,_,rfl,.inr ⟨rfl,hfin.out,rfl⟩⟩,hnx⟩
      have g4:decide ((c:Int)<128)=false:=KZ8 (by omega);have g5:decide ((191:Int)<(c:Int))=true:=KZ7 (by omega);go_wp2
      all_goals try omega
      go_ret2;exact ⟨⟨_,_,rfl,.inr ⟨rfl,hfin.out,rfl⟩⟩,hnx⟩
     have hjI:¬ (j:Int)<3:=by omega
     have hcv:xi v0 D=some v:=by rw [hct.out,List.drop_of_length_le (by omega),pY]
     have hr:xe (l.drop i)=if v<2048∨xl v=false then none else some (v,3):=by rw [HR0.out,hcv]
     have hpt:=KZ9 (fun W=>uo v W (by omega));obtain ⟨ok,hok⟩:=KZ6 (xl v);rw [←hok] at hr;simp only [←hok] at hpt;clear hct hcv hok;by_cases hle:v<2048
     ·have hfin:Hid (Lib.validD l=false):=KZ9 (by rw [hv1.out,hr,if_pos (.inl hle)]);have g6:decide ((v:Int)<2048)=true:=KZ7 (by omega);clear hv1 hpts hr;go_wp2_with fail
      all_goals try omega
      go_ret2;exact ⟨⟨_,_,rfl,.inr ⟨rfl,hfin.out,rfl⟩⟩,hnx⟩
     have g6:decide ((v:Int)<2048)=false:=KZ8 (by omega);cases ok
     ·have hfin:Hid (Lib.validD l=false):=KZ9 (by rw [hv1.out,hr,if_pos (.inr rfl)]);clear hv1 hpts hr;go_wp2_with fail
      all_goals try omega
      refine (hpt.out _).mono ?_;rintro e w2 ⟨rfl,rfl⟩;go_wp2
      all_goals try omega
      go_ret2;exact ⟨⟨_,_,rfl,.inr ⟨rfl,hfin.out,rfl⟩⟩,hnx⟩
     have hr2:xe (l.drop i)=some (v,3):=by rw [hr,if_neg (by rintro (h | h);exact hle h;cases h)]
     have hv2:Hid (Lib.validD l=Lib.validD (l.drop (i+3))):=KZ9 (by rw [hv1.out,hr2]);have hp2:Hid (xD l=(done++[v])++xD (l.drop (i+3))):=KZ9 (by rw [hpts.out,(qC hr2).1,List.drop_drop,List.append_assoc];rfl);clear hv1 hpts hr hr2;go_wp2_with fail
     all_goals try omega
     refine (hpt.out _).mono ?_;rintro e w2 ⟨rfl,rfl⟩;go_wp2_with (at_builtin;refine wpList_append_own _ rfl (.tmp 87) (.tmp 89) 140 rfl (w.heap.size) 3 iN0 (.int .i64 0) 1 8 Tryz.underlying140 iN.1 iN.2.1 iN.2.2.1 iN.2.2.2 rfl (by decide) _ _ _ rfl (hown.alloc _) ⟨wr.heap.size,0,none⟩ 1 1 [_] rfl rfl (cell_one_new _ _ _) (by intro u hu;simp at hu;subst hu;rfl) (by unfold maxLen;omega) (by omega) (by simp;omega) ?_;intro v1 w3 hown1 hgrow1 hnil1)
     all_goals try omega
     refine ⟨⟨i+3,done++[v],by go_num,by omega,by simp;omega,?_,hv2,hp2,(hnx.alloc hsz _).grown hgrow1 (by simp;omega) (fun j hj=>(hown.lt j hj).1)⟩,by simp [intOf];omega⟩;rw [xH,List.length_append,show zq [v]=[.int .i64 (v:Int)] from rfl];exact hown1
   by_cases h4:240≤b∧b<245
   ·obtain ⟨h4a,h4b⟩:=h4;have q0:decide ((b:Int)<128)=false:=KZ8 (by omega);have q1:decide ((194:Int)≤(b:Int))=true:=KZ7 (by omega);have q2:decide ((b:Int)<224)=false:=KZ8 (by omega);have q3:decide ((224:Int)≤(b:Int))=true:=KZ7 (by omega);have q4:decide ((b:Int)<240)=false:=KZ8 (by omega);have q5:decide ((240:Int)≤(b:Int))=true:=KZ7 (by omega);have q6:decide ((b:Int)<245)=true:=KZ7 (by omega);have hlead:xC b=(4,b - 240,65536):=by unfold xC;repeat (first | rw [if_pos (by omega)] | rw [if_neg (by omega)])
    obtain ⟨v0,hv0⟩:=KZ6 (b - 240);have hv0I:(b:Int) - 240=(v0:Int):=by omega
    have hv0b:v0<32:=by omega
    rw [←hv0] at hlead;clear hv0;have hlead2:xC s[i].toNat=(4,v0,65536):=by rw [←HB.out];exact hlead
    by_cases hshort:n - i<4
    ·have hr:xe (l.drop i)=none:=by rw [HDC.out];exact sO hlead2 (by rw [List.length_cons,List.length_drop,HLEN.out];omega)
     have hfin:Hid (Lib.validD l=false):=KZ9 (by rw [hv1.out,hr]);have g3:decide ((n:Int) - (i:Int)<4)=true:=KZ7 (by omega);clear hv1 hpts hr hlead hlead2;go_wp2
     all_goals try omega
     go_ret2;exact ⟨⟨_,_,rfl,.inr ⟨rfl,hfin.out,rfl⟩⟩,hnx⟩
    have g3:decide ((n:Int) - (i:Int)<4)=false:=KZ8 (by omega);obtain ⟨D,hD⟩:=KZ6 ((l.drop (i+1)).take (4 - 1));have hDl:D.length=4 - 1:=by rw [hD,List.length_take,List.length_drop,HLEN.out];omega
    have hr0:xe (l.drop i)=match xi v0 D with | none=>none | some v=>if v<65536∨xl v=false then none else some (v,4):=by
     rw [HDC.out,hD];exact r9 hlead2 (by decide) (by rw [List.length_cons,List.length_drop,HLEN.out];omega)
    have HDG:Hid (∀ j (h:j<D.length) (h2:i+1+j<s.size),D[j]=s[i+1+j]):=KZ9 (fun j h h2=>by
     rw [HGET.out (i+1+j) h2];simp only [hD,List.getElem_take,List.getElem_drop])
    have HR0:=KZ9 hr0;clear hD hr0 hlead hlead2;go_wp2
    all_goals try omega
    go_loopw [8,10] (fun vv kv wr2=>∃ (v j:Nat),vv= .int .i64 (v:Int)∧kv= .int .i64 (j:Int)∧1≤j∧j≤4∧v<vb j∧Hid (xi v0 D=xi v (D.drop (j - 1)))∧wr2=wr) (fun _ kv _=>10 - (intOf kv).toNat)
    case atStart=>exact ⟨v0,1,by rw [←hv0I],rfl,by omega,by omega,hv0b,KZ9 (by rw [Nat.sub_self,List.drop_zero]),rfl⟩
    case round =>
     obtain ⟨v,j,rfl,rfl,hj1,hj2,hvb,hct,rfl⟩:=hrel;have hvl:=SX (show j≤4 by omega);by_cases hjk:j<4
     ·have hjs:i+j<s.size:=by omega
      have hDd:D.drop (j - 1)=s[i+j]::D.drop j:=by
       rw [List.drop_eq_getElem_cons (by omega)];have e1:=HDG.out (j - 1) (by omega) (by omega);have e2:i+1+(j - 1)=i+j:=by omega
       simp only [e2] at e1;rw [e1,show j - 1+1=j by omega]
      have hcv:Hid (xi v0 D=if 128≤s[i+j].toNat∧s[i+j].toNat≤191 then xi (v*64+s[i+j].toNat - 128) (D.drop j) else none):=KZ9 (by rw [hct.out,hDd,pX]);obtain ⟨c,hc⟩:=KZ6 (s[i+j].toNat);have hcI:((s[i+j].toNat:Nat):Int)=(c:Int):=by rw [hc]
      have hc256:c<256:=by rw [hc];exact s[i+j].toNat_lt
      rw [←hc] at hcv;have hijI:(i:Int)+(j:Int)<(n:Int):=by omega
      clear hct hDd hc;by_cases hok:128≤c∧c≤191
      ·have hcv2:Hid (xi v0 D=xi (v*64+c - 128) (D.drop (j+1 - 1))):=KZ9 (by rw [hcv.out,if_pos hok,Nat.add_sub_cancel]);have g4:decide ((c:Int)<128)=false:=KZ8 (by omega);have g5:decide ((191:Int)<(c:Int))=false:=KZ8 (by omega);have hvn:=Yg hvb hj1 hok.2;have hvI:(v:Int)*64+(c:Int) - 128=((v*64+c - 128:Nat):Int):=by omega
       clear hcv;go_wp2
       all_goals try omega
       go_roundw
       case rel=>exact ⟨v*64+c - 128,j+1,by first | rw [←hvI] | (go_num;omega) | go_goals,by go_num,by omega,by omega,hvn,hcv2,by first | exact True.intro | exact rfl⟩
       case measure=>simp [intOf];omega
      have hr:xe (l.drop i)=none:=by rw [HR0.out,hcv.out,if_neg hok]
      have hfin:Hid (Lib.validD l=false):=KZ9 (by rw [hv1.out,hr]);clear hv1 hpts hr hcv;by_cases hlo:c<128
      ·have g4:decide ((c:Int)<128)=true:=KZ7 (by omega);go_wp2
       all_goals try omega
       go_ret2;exact ⟨⟨_,_,rfl,.inr ⟨rfl,hfin.out,rfl⟩⟩,hnx⟩
      have g4:decide ((c:Int)<128)=false:=KZ8 (by omega);have g5:decide ((191:Int)<(c:Int))=true:=KZ7 (by omega);go_wp2
      all_goals try omega
      go_ret2;exact ⟨⟨_,_,rfl,.inr ⟨rfl,hfin.out,rfl⟩⟩,hnx⟩
     have hjI:¬ (j:Int)<4:=by omega
     have hcv:xi v0 D=some v:=by rw [hct.out,List.drop_of_length_le (by omega),pY]
     have hr:xe (l.drop i)=if v<65536∨xl v=false then none else some (v,4):=by rw [HR0.out,hcv]
     have hpt:=KZ9 (fun W=>uo v W (by omega));obtain ⟨ok,hok⟩:=KZ6 (xl v);rw [←hok] at hr;simp only [←hok] at hpt;clear hct hcv hok;by_cases hle:v<65536
     ·have hfin:Hid (Lib.validD l=false):=KZ9 (by rw [hv1.out,hr,if_pos (.inl hle)]);have g6:decide ((v:Int)<65536)=true:=KZ7 (by omega);clear hv1 hpts hr;go_wp2_with fail
      all_goals try omega
      go_ret2;exact ⟨⟨_,_,rfl,.inr ⟨rfl,hfin.out,rfl⟩⟩,hnx⟩
     have g6:decide ((v:Int)<65536)=false:=KZ8 (by omega);cases ok
     ·have hfin:Hid (Lib.validD l=false):=KZ9 (by rw [hv1.out,hr,if_pos (.inr rfl)]);clear hv1 hpts hr;go_wp2_with fail
      all_goals try omega
      refine (hpt.out _).mono ?_;rintro e w2 ⟨rfl,rfl⟩;go_wp2
      all_goals try omega
      go_ret2;exact ⟨⟨_,_,rfl,.inr ⟨rfl,hfin.out,rfl⟩⟩,hnx⟩
     have hr2:xe (l.drop i)=some (v,4):=by rw [hr,if_neg (by rintro (h | h);exact hle h;cases h)]
     have hv2:Hid (Lib.validD l=Lib.validD (l.drop (i+4))):=KZ9 (by rw [hv1.out,hr2]);have hp2:Hid (xD l=(done++[v])++xD (l.drop (i+4))):=KZ9 (by rw [hpts.out,(qC hr2).1,List.drop_drop,List.append_assoc];rfl);clear hv1 hpts hr hr2;go_wp2_with fail
     all_goals try omega
     refine (hpt.out _).mono ?_;rintro e w2 ⟨rfl,rfl⟩;go_wp2_with (at_builtin;refine wpList_append_own _ rfl (.tmp 87) (.tmp 89) 140 rfl (w.heap.size) 3 iN0 (.int .i64 0) 1 8 Tryz.underlying140 iN.1 iN.2.1 iN.2.2.1 iN.2.2.2 rfl (by decide) _ _ _ rfl (hown.alloc _) ⟨wr.heap.size,0,none⟩ 1 1 [_] rfl rfl (cell_one_new _ _ _) (by intro u hu;simp at hu;subst hu;rfl) (by unfold maxLen;omega) (by omega) (by simp;omega) ?_;intro v1 w3 hown1 hgrow1 hnil1)
     all_goals try omega
     refine ⟨⟨i+4,done++[v],by go_num,by omega,by simp;omega,?_,hv2,hp2,(hnx.alloc hsz _).grown hgrow1 (by simp;omega) (fun j hj=>(hown.lt j hj).1)⟩,by simp [intOf];omega⟩;rw [xH,List.length_append,show zq [v]=[.int .i64 (v:Int)] from rfl];exact hown1
   have hlead:xC b=(0,0,0):=by unfold xC;rw [if_neg h1,if_neg h2,if_neg h3,if_neg h4]
   have hr:xe (l.drop i)=none:=by rw [HDC.out];exact Vz (by rw [←HB.out,hlead])
   have hfin:Hid (Lib.validD l=false):=KZ9 (by rw [hv1.out,hr]);clear hv1 hpts hr hlead;by_cases h5:b<194
   ·go_wp2
    all_goals try omega
    all_goals
     go_ret2;exact ⟨⟨_,_,rfl,.inr ⟨rfl,hfin.out,rfl⟩⟩,hnx⟩
   have h6:245≤b:=by omega
   go_wp2
   all_goals try omega
   all_goals
    go_ret2;exact ⟨⟨_,_,rfl,.inr ⟨rfl,hfin.out,rfl⟩⟩,hnx⟩
  have hin:i=n:=by omega
  have hfv:Lib.validD l=true:=by rw [hval.out,List.drop_of_length_le (by rw [HLEN.out];omega)];rfl
  have hfp:xD l=done:=by rw [hpts.out,List.drop_of_length_le (by rw [HLEN.out];omega),XH,List.append_nil]
  have HFV:=KZ9 hfv;have HFP:=KZ9 hfp;clear hval hpts hfv hfp;go_wp2
  all_goals try omega
  go_ret2;exact ⟨⟨_,_,rfl,.inl ⟨rfl,HFV.out,by rw [HFP.out];exact hown⟩⟩,hnx⟩
end Go.Proofs.YtjbciamhhfcdoaaGreatDoor
namespace Hs
open Go
def Zp (a b:Nat):Prop:=a=b∨(a / 64≠2∧b / 64≠2)
theorem Si (b:UInt8):Zp (we b).toNat b.toNat:=by
 unfold Zp;rw [ws];split
 ·right;omega
 exact .inl rfl
set_option maxRecDepth 4000
theorem Xa (n b0 a1 a2 a3 b1 b2 b3:Nat) (h1:Zp a1 b1) (h2:Zp a2 b2) (h3:Zp a3 b3) (h0:128≤b0):Lib.decodeN n b0 a1 a2 a3=Lib.decodeN n b0 b1 b2 b3:=by
 have hn:¬ b0<128:=by omega
 unfold Lib.decodeN;rw [if_neg hn,if_neg hn];by_cases c1:a1 / 64=2
 ·obtain rfl:a1=b1:=by rcases h1 with h | h;exact h;exact absurd c1 h.1
  by_cases c2:a2 / 64=2
  ·obtain rfl:a2=b2:=by rcases h2 with h | h;exact h;exact absurd c2 h.1
   by_cases c3:a3 / 64=2
   ·obtain rfl:a3=b3:=by rcases h3 with h | h;exact h;exact absurd c3 h.1
    rfl
   have c3':¬ b3 / 64=2:=by rcases h3 with h | h;rwa [←h];exact h.2
   have e1:¬ (b0 / 8=30∧(1<n∧a1 / 64=2)∧(2<n∧a2 / 64=2)∧(3<n∧a3 / 64=2)):=by omega
   have e2:¬ (b0 / 8=30∧(1<n∧a1 / 64=2)∧(2<n∧a2 / 64=2)∧(3<n∧b3 / 64=2)):=by omega
   rw [if_neg e1,if_neg e2]
  have c2':¬ b2 / 64=2:=by rcases h2 with h | h;rwa [←h];exact h.2
  have e1:¬ (b0 / 8=30∧(1<n∧a1 / 64=2)∧(2<n∧a2 / 64=2)∧(3<n∧a3 / 64=2)):=by omega
  have e2:¬ (b0 / 8=30∧(1<n∧a1 / 64=2)∧(2<n∧b2 / 64=2)∧(3<n∧b3 / 64=2)):=by omega
  have e3:¬ (b0 / 16=14∧(1<n∧a1 / 64=2)∧(2<n∧a2 / 64=2)):=by omega
  have e4:¬ (b0 / 16=14∧(1<n∧a1 / 64=2)∧(2<n∧b2 / 64=2)):=by omega
  rw [if_neg e1,if_neg e2,if_neg e3,if_neg e4]
 have c1':¬ b1 / 64=2:=by rcases h1 with h | h;rwa [←h];exact h.2
 have e1:¬ (b0 / 8=30∧(1<n∧a1 / 64=2)∧(2<n∧a2 / 64=2)∧(3<n∧a3 / 64=2)):=by omega
 have e2:¬ (b0 / 8=30∧(1<n∧b1 / 64=2)∧(2<n∧b2 / 64=2)∧(3<n∧b3 / 64=2)):=by omega
 have e3:¬ (b0 / 16=14∧(1<n∧a1 / 64=2)∧(2<n∧a2 / 64=2)):=by omega
 have e4:¬ (b0 / 16=14∧(1<n∧b1 / 64=2)∧(2<n∧b2 / 64=2)):=by omega
 have e5:¬ (b0 / 32=6∧(1<n∧a1 / 64=2)):=by omega
 have e6:¬ (b0 / 32=6∧(1<n∧b1 / 64=2)):=by omega
 rw [if_neg e1,if_neg e2,if_neg e3,if_neg e4,if_neg e5,if_neg e6]
theorem gp (l:Bs) (k:Nat):Zp ((zt l).getD k 0).toNat (l.getD k 0).toNat:=by
 unfold zt;by_cases h:k<l.length
 ·simp only [List.getD,List.getElem?_map,List.getElem?_eq_getElem h,Option.map_some,Option.getD_some];exact Si _
 simp only [List.getD,List.getElem?_map,List.getElem?_eq_none (by omega:l.length≤k),Option.map_none,Option.getD_none];exact .inl rfl
theorem WO {b:UInt8} {r:Bs} (h:128≤b.toNat):Lib.decodeL (zt (b::r))=Lib.decodeL (b::r):=by
 rw [Lib.decodeL_N,Lib.decodeL_N,yK];have h0:((zt (b::r)).getD 0 0).toNat=b.toNat:=by
  show (we b).toNat=_;rw [ws,if_neg (by omega)]
 rw [h0];exact Xa _ _ _ _ _ _ _ _ (gp _ 1) (gp _ 2) (gp _ 3) h
theorem V7 (l:Bs) (k:Nat):(zt l).drop k=zt (l.drop k):=by unfold zt;rw [List.map_drop]
theorem U7 {b:UInt8} (h:b.toNat<128):(we b).toNat<128:=by
 rw [ws];split<;>omega
theorem pp:∀ (n:Nat) (l:Bs),l.length≤n→Lib.validD (zt l)=Lib.validD l∧(xD (zt l)).length=(xD l).length
 | _,[],_=>⟨rfl,rfl⟩
 | 0,_::_,h=>by simp at h
 | n+1,b::r,h=>by
  simp only [List.length_cons] at h;by_cases hb:b.toNat<128
  ·have ih:=pp n r (by omega);have e:zt (b::r)=we b::zt r:=rfl;rw [e,Lib.validD_cons _ _ (U7 hb),Lib.validD_cons _ _ hb,ww (by simp),ww (l:=b::r) (by simp),Lib.decodeL_ascii _ _ (U7 hb),Lib.decodeL_ascii _ _ hb];simp only [List.drop_succ_cons,List.drop_zero,List.length_cons,ih.1,ih.2];exact ⟨trivial,trivial⟩
  have hd:=WO (b:=b) (r:=r) (by omega);have hw:=Lib.decodeL_width (b::r);have ih:=pp n ((b::r).drop (Lib.decodeL (b::r)).2) (by rw [List.length_drop];simp;omega);have hne:zt (b::r)≠[]:=by simp [zt]
  have hv1:=Lib.validD_step (zt (b::r)) hne;have hv2:=Lib.validD_step (b::r) (by simp);have hp1:=ww hne;have hp2:=ww (l:=b::r) (by simp);rw [hd,V7] at hv1 hp1;rw [hv1,hv2,hp1,hp2,ih.1,List.length_cons,List.length_cons,ih.2];exact ⟨rfl,rfl⟩
end Hs
namespace Go.Proofs.YtjbciamhhfcdoaaGreatDoor
open Go.RowKit Hs
def JA (l:Bs) (w:World) (e:Ending) (w':World):Prop:=(∃ t c,e= .returned (.tuple #[.string t,.int .i64 c])∧((c=0∧yx l=some (un t))∨(c≠0∧t=⟨#[]⟩∧yx l=none)))∧Below w.heap.size w w'
theorem Yp {l:Bs} (h:Lib.validD l=false):yx l=none:=by
 unfold yx;split
 ·rename_i ha;have:Lib.validD l=true:=by
   rw [Lib.validD_ascii l.length l (fun b hb=>by
    have:=List.all_eq_true.1 ha b (List.mem_of_mem_take hb)
    simpa using this),List.drop_length]
   rfl
  rw [this] at h;cases h
 unfold xQ;rw [if_pos h]
theorem Yo {l:Bs} (h:256<(xD l).length):yx l=none:=by
 unfold yx;split
 ·rename_i ha;unfold x8;rw [ku l ha] at h;rw [if_pos h]
 unfold xQ;by_cases hv:Lib.validD l=false
 ·rw [if_pos hv]
 rw [if_neg hv,if_pos h]
set_option maxRecDepth 20000
set_option maxHeartbeats 8000000
theorem XA (s:ByteArray) (w:World) (hs:s.size≤100000):Calls Tryz.prog 157 #[.string s] w (JA (un s) w):=by
 have hlen:(un s).length=s.size:=zb s;obtain ⟨l,hl⟩:=KZ6 (un s);have hp1:=kh s w (by omega);have hlow:=fun W=>ja s W (by omega);have hp2:=fun W=>kh (mk (zt l)) W (by rw [zh,yK,hl];omega);simp only [zj] at hp2;have hvl:=pp l.length l (Nat.le_refl _);have hplt:=YD l.length l (Nat.le_refl _);have hpasc:=ku l;rw [←hl] at hp1 hlow hlen ⊢;have hbad:=Yp (l:=l);have hbig:=Yo (l:=l);have hasc:rp l=true→yx l=x8 l:=fun h=>if_pos h;have huni:rp l=false→yx l=xQ l:=fun h=>if_neg (by rw [h];simp);have hdU:xQ l=if Lib.validD l=false then none else if 256<(xD l).length then none else match sx (xD (zt l)) with
  | none=>none
  | some c=>if ya (xnP++c)=true then some (xnP++c) else none:=rfl
 have hdA:x8 l=if 256<l.length then none else if ya (zt l)=true then some (zt l) else none:=rfl
 obtain ⟨n,hn⟩:=KZ6 l.length;obtain ⟨m,hm⟩:=KZ6 ((xD l).length);have hmn:m≤n:=by rw [hm,hn];exact qE l
 have hsI:(s.size:Int)=(n:Int):=by omega
 have hn6:n≤100000:=by omega
 rw [←hn] at hplt hpasc hdA;rw [←hm] at hplt hpasc hbig hdU hvl;have HP1:=KZ9 hp1;have HP2:=KZ9 hp2;have HLOW:=KZ9 hlow;have HBAD:=KZ9 hbad;have HBIG:=KZ9 hbig;have HASC:=KZ9 hasc;have HUNI:=KZ9 huni;have HDU:=KZ9 hdU;have HDA:=KZ9 hdA;have HPLT:=KZ9 hplt;have HPASC:=KZ9 hpasc;have HVL:=KZ9 hvl;have HM:=KZ9 hm;have HQL:=KZ9 (show (zt l).length=n by rw [yK];exact hn.symm);clear hp1 hp2 hlow hbad hbig hasc huni hdU hdA hplt hpasc hvl hm hn hl hlen hs;go_enter Tryz.func157,Tryz.ntmps157
 go_wp2_with fail
 refine HP1.out.mono ?_;rintro e w1 ⟨⟨v,ok,rfl,hcase⟩,hb1⟩;have HB1:=KZ9 hb1;clear hb1 HP1;rcases hcase with ⟨rfl,hv,hown⟩ | ⟨rfl,hv,rfl⟩
 ·obtain ⟨a,cp,rfl⟩:=yw hown;rw [←HM.out];have hDU:=HDU.out.trans (if_neg (by rw [hv];simp));by_cases h256:256<m
  ·have hfin:=KZ9 (HBIG.out h256);have g1:decide ((256:Int)<(m:Int))=true:=KZ7 (by omega);clear hown hDU;go_wp2
   all_goals try omega
   go_ret2;exact ⟨⟨_,_,rfl,.inr ⟨by decide,rfl,hfin.out⟩⟩,HB1.out⟩
  have g1:decide ((256:Int)<(m:Int))=false:=KZ8 (by omega);have HDU2:=KZ9 (hDU.trans (if_neg h256));clear hown hDU;by_cases ha:rp l=true
  ·have hmn2:m=n:=by rw [HM.out];exact (HM.out▸HPASC.out ha)
   have g2:decide ((m:Int)<(n:Int))=false:=KZ8 (by omega);have hnm:n≤m:=by omega
   have hfin0:=(HASC.out ha).trans (HDA.out.trans (if_neg (by omega)));have hval:=fun W=>pF (mk (zt l)) W (by rw [zh,HQL.out];omega);simp only [zj] at hval;obtain ⟨ok2,hok2⟩:=KZ6 (ya (zt l));rw [←hok2] at hfin0;simp only [←hok2] at hval;have HVAL:=KZ9 hval;have HF:=KZ9 hfin0;clear hval hfin0 hok2 hmn2;go_wp2_with fail
   all_goals try omega
   refine (HLOW.out _).mono ?_;rintro e w2 ⟨rfl,hb2⟩;have HB2:=KZ9 (HB1.out.trans (hb2.mono HB1.out.size));clear hb2;go_wp2_with fail
   all_goals try omega
   refine (HVAL.out _).mono ?_;rintro e w3 ⟨rfl,hb3⟩;have HB3:=KZ9 (HB2.out.trans (hb3.mono HB2.out.size));clear hb3;cases ok2
   ·have hf:=KZ9 (HF.out.trans (if_neg (by simp)));go_wp2
    all_goals try omega
    go_ret2;exact ⟨⟨_,_,rfl,.inr ⟨by decide,rfl,hf.out⟩⟩,HB3.out⟩
   have hf:=KZ9 (HF.out.trans (if_pos rfl));go_wp2
   all_goals try omega
   go_ret2;exact ⟨⟨_,_,rfl,.inl ⟨rfl,by rw [hf.out,zj]⟩⟩,HB3.out⟩
  have ha2:rp l=false:=by simpa using ha
  have hlt:=HPLT.out hv ha2;have g2:decide ((m:Int)<(n:Int))=true:=KZ7 (by omega);have HDU3:=KZ9 ((HUNI.out ha2).trans HDU2.out);go_wp2_with fail
  all_goals try omega
  refine (HLOW.out _).mono ?_;rintro e w2 ⟨rfl,hb2⟩;have HB2:=KZ9 (HB1.out.trans (hb2.mono HB1.out.size));clear hb2;go_wp2_with fail
  all_goals try omega
  refine (HP2.out _).mono ?_;rintro e w3 ⟨⟨v2,ok2,rfl,hcase2⟩,hb3⟩;have HB3:=KZ9 (HB2.out.trans (hb3.mono HB2.out.size));clear hb3;rcases hcase2 with ⟨rfl,hv2,hown2⟩ | ⟨rfl,hv2,rfl⟩
  ·have hml:(xD (zt l)).length=m:=HVL.out.2;have henc:=kj v2 (xD (zt l)) w3 (Nums.owned hown2) (by omega) (fun p h=>by have:=Pf _ p h;omega);have HE:=KZ9 henc;clear henc hown2 hv2;go_wp2_with fail
   all_goals try omega
   refine HE.out.mono ?_;rintro e w6 ⟨⟨sc,ec,rfl,hcase⟩,hb6⟩;have HB6:=KZ9 (HB3.out.trans (hb6.mono HB3.out.size));clear hb6 HE;rcases hcase with ⟨rfl,henc2⟩ | ⟨hne,rfl,henc2⟩
   ·have HD4:Hid (yx l=if ya (xnP++un sc)=true then some (xnP++un sc) else none):=KZ9 (by rw [HDU3.out,henc2]);obtain ⟨T,hT⟩:=KZ6 ((⟨#[120,110,45,45]⟩:ByteArray)++sc);have huT:un T=xnP++un sc:=by rw [hT,yo];rfl
    have hTs:T.size=sc.size+4:=by rw [←zb,huT,List.length_append,zb,Nat.add_comm];rfl
    rw [←huT] at HD4;have hscl:sc.size≤1000000:=by have:=WG henc2;rwa [zb] at this
    have hval:=fun W=>pF T W (by omega);obtain ⟨ok3,hok3⟩:=KZ6 (ya (un T));rw [←hok3] at HD4;simp only [←hok3] at hval;have HVAL:=KZ9 hval;rw [hT] at hTs;have hT2:=hT.symm;clear hT huT hval hok3 henc2;go_wp2_with fail
    all_goals try omega
    refine (HVAL.out _).mono ?_;rintro e w7 ⟨rfl,hb7⟩;have HB7:=KZ9 (HB6.out.trans (hb7.mono HB6.out.size));clear hb7;cases ok3
    ·have hf:=KZ9 (HD4.out.trans (if_neg (by simp)));go_wp2
     all_goals try omega
     go_ret2;exact ⟨⟨_,_,rfl,.inr ⟨by decide,rfl,hf.out⟩⟩,HB7.out⟩
    have hf:=KZ9 (HD4.out.trans (if_pos rfl));go_wp2
    all_goals try omega
    go_ret2;exact ⟨⟨_,_,rfl,.inl ⟨rfl,hf.out⟩⟩,HB7.out⟩
   have hf:Hid (yx l=none):=KZ9 (by rw [HDU3.out,henc2]);have g3:((ec:Int) != 0)=true:=by simp;omega
   go_wp2
   all_goals try omega
   go_ret2;exact ⟨⟨_,_,rfl,.inr ⟨by decide,rfl,hf.out⟩⟩,HB6.out⟩
  exfalso;rw [HVL.out.1,hv] at hv2;cases hv2
 have hfin:=KZ9 (HBAD.out hv);go_wp2
 all_goals try omega
 go_ret2;exact ⟨⟨_,_,rfl,.inr ⟨by decide,rfl,hfin.out⟩⟩,HB1.out⟩
theorem XU (W:World) (b:Nat) (x:Int) (c:UInt8) (hx:x=(c.toNat:Int)) (h:W.cell? ⟨b,0,none⟩=some (.int .u8 x)):(convert 32 9 (.slice (some ⟨b,0,none⟩) 1 1)).run Tryz.prog W= .ok (.string (mk [c])) W:=by
 subst hx;refine yI (n:=1) (l:=[c]) ⟨by simp,_,1,rfl,Nat.le_refl _,by simp [maxLen],.inr ⟨b,0,rfl,World.block_lt_of_cell? W _ h,fun j u hj=> ?_⟩⟩ Tryz.underlying32 Tryz.underlying5 Tryz.underlying9
 match j,hj with
 | 0,hj=>simp [yb] at hj;subst hj;simpa using h
 | j+1,hj=>simp [yb] at hj
theorem Tv (d:Nat) (h:d<10):(48+(d:Int))=((UInt8.ofNat (48+d)).toNat:Int):=by simp<;>omega
theorem jk (k:Nat):∀ (z:Int) (w:World),0≤z→z<k→z≤9999999999→Calls Tryz.prog 97 #[.int .i64 z] w fun e w'=>e= .returned (.string (mk (Lib.decDigits z.toNat)))∧Below w.heap.size w w':=by
 induction k with
 | zero=>intro z w h0 h;omega
 | succ k ih =>
  intro z w h0 hk hn;obtain ⟨n,rfl⟩:=Int.eq_ofNat_of_zero_le h0;rw [Int.toNat_natCast];by_cases h:n<10
  ·have hd:Lib.decDigits n=[UInt8.ofNat (48+n)]:=by rw [Lib.decDigits,dif_pos h]<;>rfl
   obtain ⟨c,hc⟩:=KZ6 (UInt8.ofNat (48+n));have hb:=Tv n h;rw [←hc] at hd hb;rw [hd];have hcv:=XU (w.alloc (.cells #[.int .u8 (48+(n:Int))] 5)) w.heap.size (48+(n:Int)) c hb (by simp);clear hc hb hd ih;go_enter Tryz.func97,Tryz.ntmps97
   go_wp2;go_ret;exact ⟨rfl,(Below.refl _ _).alloc (Nat.le_refl _) _⟩
  have hd:Lib.decDigits n=Lib.decDigits (n / 10)++[UInt8.ofNat (48+n % 10)]:=by rw [Lib.decDigits,dif_neg h]<;>rfl
  obtain ⟨c,hc⟩:=KZ6 (UInt8.ofNat (48+n % 10));have hb:=Tv (n % 10) (by omega);rw [←hc] at hd hb;have hz:IntKind.i64.wrap ((n:Int) / 10)=((n / 10:Nat):Int):=by
   rw [IntKind.wrap_i64];omega
  have hy:IntKind.u8.wrap (IntKind.i64.wrap (48+(n:Int).tmod 10))=((c.toNat:Nat):Int):=by
   rw [←hb,Int.tmod_eq_emod_of_nonneg (by omega),IntKind.wrap_i64,IntKind.wrap_u8];omega
  have IH:Hid (∀ W:World,Calls Tryz.prog 97 #[.int .i64 (IntKind.i64.wrap ((n:Int) / 10))] W fun e w'=>e= .returned (.string (mk (Lib.decDigits (n / 10))))∧Below W.heap.size W w'):=by
   refine KZ9 fun W=> ?_;rw [hz];have:=ih ((n / 10:Nat):Int) W (by omega) (by omega) (by omega)
   rwa [Int.toNat_natCast] at this
  have hcv:=fun (W:World) (b:Nat) (h:W.cell? ⟨b,0,none⟩=some (.int .u8 (IntKind.u8.wrap (IntKind.i64.wrap (48+(n:Int).tmod 10)))))=>XU W b _ c hy h;have hlen:=zX (n / 10) (by omega);have hln2:(mk (Lib.decDigits (n / 10))).size≤10:=by rw [zh];exact hlen
  clear hc hb hz ih;rw [hd];clear hd;go_enter Tryz.func97,Tryz.ntmps97
  go_wp2;go_region_with (go_at_call 97;refine (IH.out _).mono ?_;rintro e w1 ⟨rfl,hb1⟩;obtain ⟨hc1,hf1⟩:=yA hb1)
  all_goals (go_wp2;go_ret)
  all_goals rw [zK]
  ·refine ⟨by first | rfl | (simp;done) | (go_simp;done),?_⟩;exact (((Below.refl _ w).drew).trans hb1).alloc (by have:=hb1.size;simp at *;omega) _
  all_goals
   refine ⟨by first | rfl | (simp;done) | (go_simp;done),?_⟩;refine Below.trans (b:=w.drew.alloc (.cells #[.int .u8 c.toNat] 5)) (((Below.refl _ w).drew).alloc (by simp) _) ?_;exact (hb1.mono (by simp))
theorem fromInt_nat' (n:Nat) (w:World) (hn:n≤9999999999):Calls Tryz.prog 97 #[.int .i64 (n:Int)] w fun e w'=>e= .returned (.string (mk (Lib.decDigits n)))∧Below w.heap.size w w':=by
 have:=jk (n+1) (n:Int) w (by omega) (by omega) (by omega);rw [Int.toNat_natCast] at this;exact this
theorem VM (v:Nat) (w:World) (hv:v<4294967296):Calls Tryz.prog 158 #[.int .u32 (v:Int)] w fun e w'=>e= .returned (.string (mk (vJ v)))∧Below w.heap.size w w':=by
 obtain ⟨a,ha⟩:=KZ6 (v / 16777216 % 256);obtain ⟨b,hb⟩:=KZ6 (v / 65536 % 256);obtain ⟨c,hc⟩:=KZ6 (v / 256 % 256);obtain ⟨d,hd⟩:=KZ6 (v % 256);have E1:(v:Int) / 16777216=(a:Int):=by omega
 have E2:(v:Int) / 65536 % 256=(b:Int):=by omega
 have E3:(v:Int) / 256 % 256=(c:Int):=by omega
 have E4:(v:Int) % 256=(d:Int):=by omega
 have ha5:a≤255:=by omega
 have hb5:b≤255:=by omega
 have hc5:c≤255:=by omega
 have hd5:d≤255:=by omega
 have HF:=KZ9 (show vJ v=Lib.decDigits a++46::(Lib.decDigits b++46::(Lib.decDigits c++46::Lib.decDigits d)) by rw [ha,hb,hc,hd];rfl);have FA:=KZ9 (fun W=>fromInt_nat' a W (by omega));have FB:=KZ9 (fun W=>fromInt_nat' b W (by omega));have FC:=KZ9 (fun W=>fromInt_nat' c W (by omega));have FD:=KZ9 (fun W=>fromInt_nat' d W (by omega));have la:=zX a (by omega);have lb:=zX b (by omega);have lc:=zX c (by omega);have ld:=zX d (by omega);clear ha hb hc hd;go_enter Tryz.func158,Tryz.ntmps158
 go_wp2_with fail
 refine (FA.out _).mono ?_;rintro e w1 ⟨rfl,h1⟩;go_wp2_with fail
 all_goals try omega
 refine (FB.out _).mono ?_;rintro e w2 ⟨rfl,hy⟩;have h2:=h1.trans (hy.mono h1.size);go_wp2_with fail
 all_goals try omega
 refine (FC.out _).mono ?_;rintro e w3 ⟨rfl,hy⟩;have h3:=h2.trans (hy.mono h2.size);go_wp2_with fail
 all_goals try omega
 refine (FD.out _).mono ?_;rintro e w4 ⟨rfl,hy⟩;have h4:=h3.trans (hy.mono h3.size);go_wp2_with fail
 all_goals try omega
 go_ret;exact ⟨UV (by simp only [yo,zj];rw [HF.out];simp [un]),h4⟩
end Go.Proofs.YtjbciamhhfcdoaaGreatDoor
namespace Hs
open Go
def SplitTo (c:UInt8) (l:Bs) (D:List Bs) (fr k:Nat):Prop:=(k≤l.length→D++zi c (l.drop fr)=zi c l∧∀ x∈seg l fr k,x≠c)∧(k=l.length+1→D=zi c l)
theorem SplitTo.start (c:UInt8) (l:Bs):SplitTo c l [] 0 0:=⟨fun _=>⟨rfl,by simp [seg]⟩,fun h=>by omega⟩
theorem WI (l:Bs) (fr k:Nat) (h:fr≤k):l.drop fr=seg l fr k++l.drop k:=by
 have e:l.drop k=(l.drop fr).drop (k - fr):=by rw [List.drop_drop];congr 1;omega
 rw [e];exact (List.take_append_drop (k - fr) (l.drop fr)).symm
theorem SplitTo.char {c:UInt8} {l:Bs} {D:List Bs} {fr k:Nat} (h:SplitTo c l D fr k) (hf:fr≤k) (hk:k<l.length) (hc:l[k]≠c):SplitTo c l D fr (k+1):=by
 refine ⟨fun _=>⟨(h.1 (by omega)).1,fun x hx=> ?_⟩,fun e=>by omega⟩;have e:seg l fr (k+1)=seg l fr k++[l[k]]:=by
  unfold seg;rw [show k+1 - fr=(k - fr)+1 by omega,List.take_succ_eq_append_getElem (by rw [List.length_drop];omega),List.getElem_drop];simp only [show fr+(k - fr)=k by omega]
 rw [e] at hx;rcases List.mem_append.1 hx with hx | hx
 ·exact (h.1 (by omega)).2 x hx
 rw [List.mem_singleton.1 hx];exact hc
theorem SplitTo.cut {c:UInt8} {l:Bs} {D:List Bs} {fr k:Nat} (h:SplitTo c l D fr k) (hf:fr≤k) (hk:k<l.length) (hc:l[k]=c):SplitTo c l (D++[seg l fr k]) (k+1) (k+1):=by
 refine ⟨fun _=>⟨?_,by simp [seg]⟩,fun e=>by omega⟩;obtain ⟨h1,h2⟩:=h.1 (by omega);rw [←h1,WI l fr k hf,List.drop_eq_getElem_cons hk,hc,vF c _ _ h2];simp
theorem SplitTo.fin {c:UInt8} {l:Bs} {D:List Bs} {fr k:Nat} (h:SplitTo c l D fr k) (hf:fr≤k) (hk:k=l.length):SplitTo c l (D++[seg l fr k]) (k+1) (k+1):=by
 refine ⟨fun e=>by omega,fun _=> ?_⟩;obtain ⟨h1,h2⟩:=h.1 (by omega);rw [←h1,WI l fr k hf,List.drop_eq_nil_of_le (by omega),List.append_nil,wo c _ h2]
end Hs
namespace Go.Proofs.YtjbciamhhfcdoaaGreatDoor
open Go.RowKit Hs
set_option maxHeartbeats 1500000
theorem sQ (s:ByteArray) (c:UInt8) (w:World) (hs:s.size≤100000000):Calls Tryz.prog 28 #[.string s,.int .u8 (c.toNat:Int)] w fun e w'=>∃ v,e= .returned v∧w'.ownsRow w.heap.size 9 1 v (zi c (un s)).length (zy (zi c (un s)))∧Below w.heap.size w w':=by
 obtain ⟨iS0,iS⟩:=info_parts qY;go_enter Tryz.func28,Tryz.ntmps28
 go_wp2;go_loopw [5,6,7] (fun v f i wr=>∃ (k fr:Nat) (D:List Bs),i= .int .i64 k∧f= .int .i64 fr∧fr≤k∧k≤s.size+1∧D.length≤k∧wr.ownsRow w.heap.size 9 1 v D.length (zy D)∧Below w.heap.size w wr∧Hid (SplitTo c (un s) D fr k))
  (fun _ _ i _=>s.size+1 - (intOf i).toNat)
 case atStart=>exact ⟨0,0,[],rfl,rfl,by omega,by omega,by simp,World.ownsRow_nil _ _ _ _,Below.refl _ _,SplitTo.start _ _⟩
 case round =>
  obtain ⟨k,fr,D,rfl,rfl,hfk,hk,hD,hown,hnx,hwt⟩:=hrel;have hsize:=hnx.size;by_cases hlt:k<s.size
  ·have hne:((k:Int)==(s.size:Int))=false:=by simp;omega
   by_cases hb:(s[k]'hlt)=c
   ·have hb':(un s)[k]'(by rw [zb];omega)=c:=hb;have hb1:(((s[k]'hlt).toNat:Int)==(c.toNat:Int))=true:=by rw [hb];simp
    have hcut:=KZ9 (hwt.out.cut hfk (by rw [zb];omega) hb');clear hwt hb' hb;have ex:=KZ9 (yP s fr k);go_wp2_with (first | (at_builtin;refine wpList_append_own _ rfl (.tmp 25) (.tmp 30) 39 rfl (w.heap.size) 9 iS0 (.string ByteArray.empty) 1 16 Tryz.underlying39 iS.1 iS.2.1 iS.2.2.1 iS.2.2.2 rfl (by decide) _ _ _ rfl (hown.alloc _) ⟨wr.heap.size,0,none⟩ 1 1 [_] rfl rfl (cell_one_new _ _ _) (by intro u hu;simp at hu;subst hu;rfl) (by unfold maxLen;omega) (by omega) (by simp;omega) ?_;intro v1 w1 hown1 hgrow1 hnil1))
    go_roundw
    case rel =>
     refine ⟨k+1,k+1,D++[seg (un s) fr k],by go_num,by go_num,by omega,by omega,by simp;omega,?_,(hnx.alloc (by omega) _).grown hgrow1 (by simp;omega) (fun j hj=>(hown.lt j hj).1),hcut⟩;have e:=hown1;rw [ex.out] at e;rw [xF,List.length_append];exact e
    case measure=>simp [intOf];omega
   have hb':(un s)[k]'(by rw [zb];omega)≠c:=hb;have hb1:(((s[k]'hlt).toNat:Int)==(c.toNat:Int))=false:=by
    rw [beq_eq_false_iff_ne];exact fun e=>hb (UInt8.toNat_inj.1 (by omega))
   have hch:=KZ9 (hwt.out.char hfk (by rw [zb];omega) hb');clear hwt hb' hb;go_wp2;go_roundw
   case rel=>exact ⟨k+1,fr,D,by go_num,rfl,by omega,by omega,by omega,hown,hnx,hch⟩
   case measure=>simp [intOf];omega
  by_cases he:k=s.size
  ·have hne:((k:Int)==(s.size:Int))=true:=by simp;omega
   have hle:(k:Int)≤(s.size:Int):=by omega
   have hfin:=KZ9 (hwt.out.fin hfk (by rw [zb];exact he));have ex:=KZ9 (yP s fr k);have HE:=KZ9 he;clear hwt he;go_wp2_with (first | (at_builtin;refine wpList_append_own _ rfl (.tmp 25) (.tmp 30) 39 rfl (w.heap.size) 9 iS0 (.string ByteArray.empty) 1 16 Tryz.underlying39 iS.1 iS.2.1 iS.2.2.1 iS.2.2.2 rfl (by decide) _ _ _ rfl (hown.alloc _) ⟨wr.heap.size,0,none⟩ 1 1 [_] rfl rfl (cell_one_new _ _ _) (by intro u hu;simp at hu;subst hu;rfl) (by unfold maxLen;omega) (by omega) (by simp;omega) ?_;intro v1 w1 hown1 hgrow1 hnil1))
   go_roundw
   case rel =>
    refine ⟨k+1,k+1,D++[seg (un s) fr k],by go_num,by go_num,by omega,by omega,by simp;omega,?_,(hnx.alloc (by omega) _).grown hgrow1 (by simp;omega) (fun j hj=>(hown.lt j hj).1),hfin⟩;have e:=hown1;rw [ex.out] at e;rw [xF,List.length_append];exact e
   case measure=>simp [intOf];omega
  obtain rfl:k=s.size+1:=by omega
  have hfin:Hid (D=zi c (un s)):=hwt.out.2 (by rw [zb]);clear hwt he;go_wp2;go_ret;have e:=hfin.out;subst e;exact ⟨_,rfl,hown,hnx⟩
theorem ko (s:ByteArray) (w:World) (hs:s.size≤100000000):Calls Tryz.prog 28 #[.string s,.int .u8 46] w fun e w'=>∃ v,e= .returned v∧Strs w' v (zi 46 (un s))∧Below w.heap.size w w':=by
 refine (sQ s 46 w hs).mono ?_;rintro e w' ⟨v,rfl,ho,hb⟩;exact ⟨v,rfl,Row.owned ho,hb⟩
theorem uq (s:ByteArray) (w:World) (hs:s.size≤100000000):Calls Tryz.prog 62 #[.string s] w fun e w'=>∃ v,e= .returned v∧Strs w' v (zH (un s))∧Below w.heap.size w w':=by
 have HS:=KZ9 (ko s w hs);go_enter Tryz.func62,Tryz.ntmps62
 go_wp2_with fail
 refine HS.out.mono ?_;rintro e w1 ⟨v,rfl,hst,hb⟩;clear HS;have hpos:=rZ (un s);have hpd:Hid (zH (un s)=if 1<(zi 46 (un s)).length∧(zi 46 (un s)).getLast? =some [] then (zi 46 (un s)).dropLast else zi 46 (un s)):=KZ9 rfl;obtain ⟨P,hP⟩:=KZ6 (zH (un s));rw [←hP] at hpd;have HP:=KZ9 hP;clear hP;generalize zi 46 (un s)=L at hst hpos hpd;rcases List.eq_nil_or_concat L with rfl | ⟨A,x,hL⟩
 ·simp at hpos
 rw [List.concat_eq_append] at hL;subst hL;have hpd2:Hid (P=if 1<(A++[x]).length∧x=[] then A else A++[x]):=KZ9 (by rw [hpd.out];simp);clear hpd hpos;obtain ⟨a,c,rfl,hn,hm,hc⟩:=hst.open;unfold maxLen at hm;obtain ⟨b,off,rfl,hb1,hcell⟩:=hc (by simp);obtain ⟨n,hA⟩:∃ n,A.length=n:=⟨_,rfl⟩;have hlen:(A++[x]).length=n+1:=by simp [hA]
 have c0:=hcell n (by rw [hlen];omega);rw [List.getElem_append_right (by omega)] at c0;simp only [hA,Nat.sub_self,List.getElem_singleton] at c0;have hca:n+1≤c:=by rw [←hlen];exact hn
 rw [hlen] at hst ⊢;rw [hlen] at hpd2;have HST:=KZ9 hst;clear hc hcell hn hst hlen;by_cases h0:0<n
 ·have h0':(0:Int)<(n:Int):=by omega
  cases hx:x.isEmpty
  ·have hfin:Hid (P=A++[x]):=KZ9 (by rw [hpd2.out,if_neg (by rintro ⟨_,rfl⟩;cases hx)]);have hx2:(mk x).toList.isEmpty=false:=by rw [zl,zj];exact hx
   clear hpd2 hx;go_wp2_with fail
   all_goals try omega
   go_ret;exact ⟨_,rfl,by rw [←HP.out,hfin.out];exact HST.out,hb⟩
  have hfin:Hid (P=A):=KZ9 (by rw [hpd2.out,if_pos ⟨by omega,by simpa using hx⟩]);have hx2:(mk x).toList.isEmpty=true:=by rw [zl,zj];exact hx
  have HC:=KZ9 (WU HST.out hA);clear hpd2 hx;go_wp2_with fail
  all_goals try omega
  go_ret;exact ⟨_,rfl,by rw [←HP.out,hfin.out];exact HC.out,hb⟩
 obtain rfl:n=0:=by omega
 have hfin:Hid (P=A++[x]):=KZ9 (by rw [hpd2.out,if_neg (by omega)]);clear hpd2;go_wp2_with fail
 all_goals try omega
 go_ret;exact ⟨_,rfl,by rw [←HP.out,hfin.out];exact HST.out,hb⟩
theorem TN (p:Bs) (h:∀ i,i<256→Lib.decDigits i≠p):sF p=none:=by
 cases hp:sF p with
 | none=>rfl
 | some n =>
  obtain ⟨h1,h2⟩:=TM hp;exact absurd h1.symm (h n (by omega))
set_option maxHeartbeats 2000000
theorem XD (s:ByteArray) (w:World):Calls Tryz.prog 250 #[.string s] w fun e w'=>e= .returned (.tuple #[.int .i64 (vh (sF (un s))).1,.bool (vh (sF (un s))).2])∧Below w.heap.size w w':=by
 go_enter Tryz.func250,Tryz.ntmps250
 go_wp2;go_loopw [4] (fun iv wr=>∃ k:Nat,iv= .int .i64 k∧k≤256∧Hid (∀ i,i<k→Lib.decDigits i≠un s)∧Below w.heap.size w wr) (fun iv _=>256 - (intOf iv).toNat)
 case atStart=>exact ⟨0,rfl,by omega,KZ9 (fun i hi=>by omega),Below.refl _ _⟩
 case round =>
  obtain ⟨k,rfl,hk,hno,hnx⟩:=hrel;by_cases hlt:k<256
  ·have g1:decide ((k:Int)<256)=true:=KZ7 (by omega);have FA:=KZ9 (fun W=>fromInt_nat' k W (by omega));cases hq:(Lib.decDigits k==un s)
   ·have q1:((mk (Lib.decDigits k)).toList==s.toList)=false:=by rw [zl,zl,zj];exact hq
    have hno2:Hid (∀ i,i<k+1→Lib.decDigits i≠un s):=KZ9 (fun i hi=>by
     rcases (by omega:i<k∨i=k) with h | h
     ·exact hno.out i h
     rw [h];exact beq_eq_false_iff_ne.1 hq)
    clear hno hq;go_wp2_with fail
    refine (FA.out _).mono ?_;rintro e w2 ⟨rfl,hb2⟩;go_wp2
    all_goals try omega
    go_roundw
    case rel=>exact ⟨k+1,by go_num,by omega,hno2,hnx.trans (hb2.mono hnx.size)⟩
    case measure=>simp [intOf];omega
   have q1:((mk (Lib.decDigits k)).toList==s.toList)=true:=by rw [zl,zl,zj];exact hq
   have hend:Hid (sF (un s)=some k):=KZ9 (by rw [←beq_iff_eq.1 hq];exact sL k (by omega));clear hno hq;go_wp2_with fail
   refine (FA.out _).mono ?_;rintro e w2 ⟨rfl,hb2⟩;go_wp2
   all_goals try omega
   go_ret2;rw [hend.out];exact ⟨rfl,hnx.trans (hb2.mono hnx.size)⟩
  obtain rfl:k=256:=by omega
  have hend:Hid (sF (un s)=none):=KZ9 (TN _ hno.out);clear hno;go_wp2;go_ret2;rw [hend.out];exact ⟨rfl,hnx⟩
theorem TX (s:ByteArray) (w:World) (hs:s.size≤100000000):Calls Tryz.prog 229 #[.string s] w fun e w'=>e= .returned (.tuple #[.int .u32 (yS (un s)).1,.bool (yS (un s)).2])∧Below w.heap.size w w':=by
 have HS:=KZ9 (ko s w hs);have hpv:Hid (yS (un s)=if (zi 46 (un s)).length=4 then vh (vw (zi 46 (un s)) 0) else (0,false)):=KZ9 rfl;obtain ⟨R,hR⟩:=KZ6 (yS (un s));rw [←hR] at hpv ⊢;clear hR;obtain ⟨L,hL⟩:=KZ6 (zi 46 (un s));rw [←hL] at hpv HS;clear hL;go_enter Tryz.func229,Tryz.ntmps229
 go_wp2_with fail
 refine HS.out.mono ?_;rintro e w1 ⟨v,rfl,hst,hb⟩;clear HS;obtain ⟨a,c,rfl,hn,hm,hc⟩:=hst.open;unfold maxLen at hm;have HC:=KZ9 hc;clear hc hst;by_cases h4:L.length=4
 ·have hfin:Hid (R=vh (vw L 0)):=KZ9 (by rw [hpv.out,if_pos h4]);clear hpv;rw [h4];rw [h4] at hn;have H4:=KZ9 h4;clear h4;go_wp2;go_loopw [5,6] (fun vv iv wr=>∃ (k v:Nat),iv= .int .i64 k∧k≤4∧vv= .int .u32 v∧v<256 ^ k∧Hid (vw L 0=vw (L.drop k) v)∧Below w1.heap.size w1 wr) (fun _ iv _=>4 - (intOf iv).toNat)
  case atStart=>exact ⟨0,0,rfl,by omega,rfl,by simp,KZ9 rfl,Below.refl _ _⟩
  case round =>
   obtain ⟨k,v,rfl,hk,rfl,hv,hst,hnx⟩:=hrel;by_cases hlt:k<4
   ·obtain ⟨b,off,rfl,hb1,hcell⟩:=HC.out (by rw [H4.out];omega);have hkl:k<L.length:=by rw [H4.out];exact hlt
    have c0:=((yA hnx).1 b (off+k) hb1).trans (hcell k hkl);have hst2:Hid (vw L 0=vw (L[k]::L.drop (k+1)) v):=KZ9 (by rw [hst.out,List.drop_eq_getElem_cons hkl]);obtain ⟨x,hx⟩:=KZ6 (L[k]);rw [←hx] at c0 hst2;clear hcell hst hx hkl;have hd:=fun W=>XD (mk x) W;simp only [zj] at hd;have hle:=fun n (h:sF x=some n)=>UR h;have hsx:Hid (vw (x::L.drop (k+1)) v=match sF x with | some n=>vw (L.drop (k+1)) (v*256+n) | none=>none):=KZ9 rfl;have hv3:v<16777216:=by
     have:(256:Nat) ^ k≤256 ^ 3:=Nat.pow_le_pow_right (by decide) (by omega);omega
    cases hsn:sF x with
    | none =>
     rw [hsn] at hd hsx;have HD:=KZ9 hd;have hend:Hid (R=(0,false)):=KZ9 (by rw [hfin.out,hst2.out,hsx.out];rfl);clear hst2 hsx hd hle hsn;go_wp2_with fail
     refine (HD.out _).mono ?_;rintro e w2 ⟨rfl,hb2⟩;unfold vh;go_wp2_with fail
     go_ret2;rw [hend.out];exact ⟨rfl,hb.trans ((hnx.trans (hb2.mono hnx.size)).mono hb.size)⟩
    | some n =>
     rw [hsn] at hd hsx;have HD:=KZ9 hd;have hn5:=hle n hsn;have hnext:Hid (vw L 0=vw (L.drop (k+1)) (v*256+n)):=KZ9 (by rw [hst2.out,hsx.out]);have H256:Hid (v*256+n<256 ^ (k+1)):=KZ9 (by rw [Nat.pow_succ];generalize (256:Nat) ^ k=q at hv;omega);have m1:((v:Int)*256) % 4294967296=(v:Int)*256:=by omega
     have m2:(n:Int) % 4294967296=(n:Int):=by omega
     have m3:((v:Int)*256+(n:Int)) % 4294967296=(v:Int)*256+(n:Int):=by omega
     clear hst2 hsx hd hle hsn hv;go_wp2_with fail
     refine (HD.out _).mono ?_;rintro e w2 ⟨rfl,hb2⟩;unfold vh;go_wp2_with fail
     go_roundw
     case rel=>exact ⟨k+1,v*256+n,by go_num,by omega,by go_num,H256.out,hnext,hnx.trans (hb2.mono hnx.size)⟩
     case measure=>simp [intOf];omega
   obtain rfl:k=4:=by omega
   have hend:Hid (R=(v,true)):=KZ9 (by rw [hfin.out,hst.out,List.drop_of_length_le (by rw [H4.out];omega)];rfl);clear hst;go_wp2;go_ret2;rw [hend.out];exact ⟨rfl,hb.trans (hnx.mono hb.size)⟩
 have hend:Hid (R=(0,false)):=KZ9 (by rw [hpv.out,if_neg h4]);have g1:((L.length:Int) != 4)=true:=by simp;omega
 clear hpv;go_wp2_with fail
 all_goals try omega
 go_ret2;rw [hend.out];exact ⟨rfl,hb⟩
def Uu (l:Bs):Int:=match xT l with | some p=>(p.1.length:Int) | none=> -1
theorem Uw (l:Bs) (h:l.length≤1):xT l=none:=by
 match l,h with
 | [],_=>rfl
 | [b],_=>rw [xT,if_neg (by simp)];rfl
theorem Un {a:Bs} {o:Option (Bs × Bs)} (h:o=none):te a o=none:=by rw [h];rfl
theorem VL (s:ByteArray) (w:World) (hs:s.size≤100000000):Calls Tryz.prog 198 #[.string s] w fun e w'=>e= .returned (.int .i64 (Uu (un s)))∧w=w':=by
 go_enter Tryz.func198,Tryz.ntmps198
 go_wp2;go_loop [3] (fun iv=>∃ k:Nat,iv= .int .i64 k∧k≤s.size∧Hid (xT (un s)=te ((un s).take k) (xT ((un s).drop k)))) (fun iv=>s.size - (intOf iv).toNat)
 case atStart=>exact ⟨0,rfl,by omega,KZ9 (by simp [ZV])⟩
 case round =>
  obtain ⟨k,rfl,hk,hst⟩:=hrel;by_cases hlt:k+1<s.size
  ·have hk0:k<s.size:=by omega
   have hu0:k<(un s).length:=by rw [zb];exact hk0
   have hu1:k+1<(un s).length:=by rw [zb];exact hlt
   have e0:(un s)[k]=s[k]'hk0:=rfl;have e1:(un s)[k+1]=s[k+1]'hlt:=rfl;have hd:Hid ((un s).drop k=s[k]'hk0::(un s).drop (k+1)):=KZ9 (by rw [List.drop_eq_getElem_cons hu0,e0]);have hh:Hid (((un s).drop (k+1)).head? =some (s[k+1]'hlt)):=KZ9 (by rw [List.drop_eq_getElem_cons hu1,e1];rfl);have ht:Hid ((un s).take (k+1)=(un s).take k++[s[k]'hk0]):=KZ9 (by rw [List.take_succ_eq_append_getElem hu0,e0]);clear e0 e1;have g1:decide ((k:Int)+1<(s.size:Int))=true:=KZ7 (by omega);by_cases hb:s[k]'hk0=58
   ·have b1:(((s[k]'hk0).toNat:Int)==58)=true:=by rw [hb];rfl
    by_cases hc:s[k+1]'hlt=58
    ·have b2:(((s[k+1]'hlt).toNat:Int)==58)=true:=by rw [hc];rfl
     have hend:Hid (Uu (un s)=(k:Int)):=KZ9 (by
      unfold Uu;rw [hst.out,hd.out,xT,if_pos ⟨hb,by rw [hh.out,hc]⟩];simp [te];omega)
     clear hst hd hh ht hb hc;go_wp2
     all_goals try omega
     go_ret;rw [hend.out];exact ⟨rfl,rfl⟩
    have b2:(((s[k+1]'hlt).toNat:Int)==58)=false:=by rw [beq_eq_false_iff_ne];intro e;exact hc (UInt8.toNat_inj.1 (by have:(58:UInt8).toNat=58:=rfl;omega))
    have hnx:Hid (xT (un s)=te ((un s).take (k+1)) (xT ((un s).drop (k+1)))):=KZ9 (by
     rw [hst.out,hd.out,tR _ _ (by rintro ⟨_,e⟩;rw [hh.out] at e;exact hc (Option.some.inj e)),rb,ht.out])
    clear hst hd hh ht hb hc;go_wp2
    all_goals try omega
    go_round
    case rel=>exact ⟨k+1,by go_num,by omega,hnx⟩
    case measure=>simp [intOf];omega
   have b1:(((s[k]'hk0).toNat:Int)==58)=false:=by rw [beq_eq_false_iff_ne];intro e;exact hb (UInt8.toNat_inj.1 (by have:(58:UInt8).toNat=58:=rfl;omega))
   have hnx:Hid (xT (un s)=te ((un s).take (k+1)) (xT ((un s).drop (k+1)))):=KZ9 (by
    rw [hst.out,hd.out,tR _ _ (fun e=>hb e.1),rb,ht.out])
   clear hst hd hh ht hb;go_wp2
   all_goals try omega
   go_round
   case rel=>exact ⟨k+1,by go_num,by omega,hnx⟩
   case measure=>simp [intOf];omega
  have g1:decide ((k:Int)+1<(s.size:Int))=false:=KZ8 (by omega);have hend:Hid (Uu (un s)= -1):=KZ9 (by
   unfold Uu;rw [hst.out,Un (Uw _ (by rw [List.length_drop,zb];omega))])
  clear hst;go_wp2
  all_goals try omega
  go_ret;rw [hend.out];exact ⟨rfl,rfl⟩
theorem XP {x:Bs} (h:(yS x).2=true):vt x=none:=by
 have h46:(46:UInt8)∈x:=by
  by_cases hm:(46:UInt8)∈x
  ·exact hm
  exfalso;unfold yS at h;rw [wo 46 x (fun y hy e=>hm (e▸hy)),if_neg (by simp)] at h;cases h
 unfold vt;rw [if_neg];rintro ⟨_,_,ha⟩;have:=List.all_eq_true.1 ha 46 h46;rw [Jp] at this;exact absurd this (by decide)
set_option maxHeartbeats 4000000
theorem qb (s:ByteArray) (last:Bool) (w:World) (hs:s.size≤100000):Calls Tryz.prog 199 #[.string s,.bool last] w fun e w'=>∃ v,e= .returned (.tuple #[v,.bool (yH (un s) last).isSome])∧w'.ownsRow w.heap.size 57 1 v ((yH (un s) last).getD []).length (zg ((yH (un s) last).getD []))∧Below w.heap.size w w':=by
 by_cases hz:s.size=0
 ·have hun:un s=[]:=List.eq_nil_of_length_eq_zero (by rw [zb];exact hz);have h1:s.toList.isEmpty=true:=by rw [zl,hun];rfl
  have hend:Hid (yH (un s) last=some []):=KZ9 (by rw [hun];rfl);clear hz hun;go_enter Tryz.func199,Tryz.ntmps199
  go_wp2;go_ret2;rw [hend.out];exact ⟨_,rfl,World.ownsRow_nil _ _ _ _,Below.refl _ _⟩
 have hne:un s≠[]:=fun e=>hz (by rw [←zb,e];rfl);have h1:s.toList.isEmpty=false:=by
  rw [zl];cases hu:un s with
  | nil=>exact absurd hu hne
  | cons a b=>rfl
 obtain ⟨iU0,iU⟩:=info_parts Te;have HS:=KZ9 (sQ s 58 w (by omega));have hlen:=yJ 58 (un s);have hcnt:=splitD_count 58 (un s);have hdef:Hid (yH (un s) last=xS last (zi 58 (un s)) []):=KZ9 (if_neg hne);obtain ⟨R,hR⟩:=KZ6 (yH (un s) last);rw [←hR] at hdef ⊢;obtain ⟨L,hL⟩:=KZ6 (zi 58 (un s));rw [←hL] at hdef HS hlen hcnt;rw [zb] at hlen hcnt;have HLEN:=KZ9 hlen;clear hR hL hne hz hlen;go_enter Tryz.func199,Tryz.ntmps199
 go_wp2_with fail
 refine HS.out.mono ?_;rintro e w1 ⟨v,rfl,hst0,hb⟩;have hst:Strs w1 v L:=Row.owned hst0;clear HS hst0;obtain ⟨a,c,rfl,hn,hm,hc⟩:=hst.open;unfold maxLen at hm;have HC:=KZ9 hc;clear hc hst;obtain ⟨n,hn0⟩:∃ n,L.length=n:=⟨_,rfl⟩;rw [hn0] at hn hcnt ⊢;have HN:=KZ9 hn0;clear hn0;go_wp2;go_loopw [6,8] (fun ov iv wr=>∃ (k:Nat) (acc:List Nat),iv= .int .i64 k∧k≤n∧acc.length≤k+1∧(k<n→acc.length≤k)∧wr.ownsRow w1.heap.size 57 1 ov acc.length (zg acc)∧Hid (R=xS last (L.drop k) acc)∧Below w1.heap.size w1 wr) (fun _ iv _=>n - (intOf iv).toNat)
 case atStart=>exact ⟨0,[],rfl,by omega,by simp,by simp,World.ownsRow_nil _ _ _ _,hdef,Below.refl _ _⟩
 case round =>
  obtain ⟨k,acc,rfl,hk,hacc,hacc2,hown,hst,hnx⟩:=hrel;have hsz:=hnx.size;by_cases hlt:k<n
  ·have hacc3:=hacc2 hlt;obtain ⟨b,off,rfl,hb1,hcell⟩:=HC.out (by rw [HN.out];omega);have hkl:k<L.length:=by rw [HN.out];exact hlt
   have c0':=hcell k hkl;have c0:=((yA hnx).1 b (off+k) hb1).trans c0';have hlen:=HLEN.out L[k] (List.getElem_mem hkl);have hst2:Hid (R=xS last (L[k]::L.drop (k+1)) acc):=KZ9 (by rw [hst.out,List.drop_eq_getElem_cons hkl]);obtain ⟨x,hx⟩:=KZ6 (L[k]);rw [←hx] at c0 c0' hlen hst2;clear hcell hst hx hkl hacc2;have hd:=fun W=>Pe (mk x) W;simp only [zj] at hd;have hpx:=fun W=>TX (mk x) W (by rw [zh];omega);simp only [zj] at hpx;have hpl:=pK x;have hpg:=@XP x;have hstep:Hid (R=match vt x with | some g=>xS last (L.drop (k+1)) (acc++[g]) | none=>if (yS x).2=true∧last=true∧L.drop (k+1)=[] then some (acc++[(yS x).1 / 65536,(yS x).1 % 65536]) else none):=KZ9 (by
    rw [hst2.out];cases hg:vt x with
    | some g=>rw [gl hg]
    | none=>rw [gm hg])
   obtain ⟨p,hp⟩:=KZ6 (yS x);simp only [←hp] at hpx hstep hpl hpg;clear hst2 hp;obtain ⟨G,hG⟩:=KZ6 (vt x);rw [←hG] at hstep hpg;simp only [←hG] at hd;clear hG;obtain ⟨p,ok⟩:=p;simp only at hpx hstep hpl hpg;have HP:=KZ9 hpx;have HD:=KZ9 hd;clear hpx hd;have hdr:Hid (L.drop (k+1)=[]↔k+1=n):=KZ9 (by rw [List.drop_eq_nil_iff,HN.out];omega);by_cases hgood:ok=true∧last=true∧k+1=n
   ·obtain ⟨rfl,rfl,hkn⟩:=hgood;have hG0:=hpg rfl;subst hG0;have hnext:Hid (R=xS true (L.drop (k+1)) (acc++[p / 65536,p % 65536])):=KZ9 (by rw [hstep.out,if_pos ⟨rfl,rfl,hdr.out.2 hkn⟩,hdr.out.2 hkn];rfl);have g1:((k:Int)==(n:Int) - 1)=true:=by simp;omega
    have hp1:(p:Int) / 65536<65536:=by omega
    clear hstep hdr hpg;go_wp2_with fail
    refine (HP.out _).mono ?_;rintro e w3 ⟨rfl,hb3⟩;have hown3:=uw hown hb3;have hs3:=hb3.size;go_wp2_with (first | (at_builtin;refine wpList_append_own _ rfl (.tmp 42) (.tmp 48) 171 rfl w1.heap.size 57 iU0 (.int .u16 0) 1 2 Tryz.underlying171 iU.1 iU.2.1 iU.2.2.1 iU.2.2.2 rfl (by decide) _ _ _ rfl (hown3.alloc _) ⟨w3.heap.size,0,none⟩ 2 2 [_,_] rfl rfl (cell_two_new _ _ _ _) (by intro u hu;simp at hu;rcases hu with rfl | rfl<;>rfl) (by unfold maxLen;omega) (by omega) (by simp;omega) ?_;intro v1 w4 hown1 hgrow1 hnil1))
    all_goals try omega
    go_roundw
    case rel =>
     refine ⟨k+1,acc++[p / 65536,p % 65536],by go_num,by omega,by simp;omega,fun h=>by omega,?_,hnext,(hnx.trans (hb3.mono hnx.size)).alloc (by omega) _ |>.grown hgrow1 (by simp;omega) (fun j hj=>(hown3.lt j hj).1)⟩;rw [wL,List.length_append];exact hown1
    case measure=>simp [intOf];omega
   have hcs:ok=false∨(ok=true∧last=false)∨(ok=true∧last=true∧k+1<n):=by
    cases ok
    ·exact .inl rfl
    cases last
    ·exact .inr (.inl ⟨rfl,rfl⟩)
    exact .inr (.inr ⟨rfl,rfl,by have:k+1≠n:=fun e=>hgood ⟨rfl,rfl,e⟩;omega⟩)
   have hno:Hid (¬ (ok=true∧last=true∧L.drop (k+1)=[])):=KZ9 (fun h=>hgood ⟨h.1,h.2.1,hdr.out.1 h.2.2⟩);have c1:=fun (w3:World) (hb3:Below wr.heap.size wr w3)=>(((yA (hnx.trans (hb3.mono hnx.size))).1 b (off+k) hb1).trans c0');have C1:=KZ9 c1;clear hdr hgood hpg c1 c0';cases G with
   | some g =>
    have hnext:Hid (R=xS last (L.drop (k+1)) (acc++[g])):=KZ9 (by rw [hstep.out]);clear hstep hno;rcases hcs with rfl | ⟨rfl,rfl⟩ | ⟨rfl,rfl,hkn⟩
    all_goals
     go_wp2_with fail
     refine (HP.out _).mono ?_;rintro e w3 ⟨rfl,hb3⟩
     (try have g1:((k:Int)==(n:Int) - 1)=false:=by simp;omega)
     have c2:=C1.out w3 hb3;have hown3:=uw hown hb3;have hs3:=hb3.size;go_wp2_with fail
     refine (HD.out _).mono ?_;rintro e w5 ⟨rfl,rfl⟩;unfold vh;go_wp2_with (first | (at_builtin;refine wpList_append_own _ rfl (.tmp 60) (.tmp 62) 171 rfl w1.heap.size 57 iU0 (.int .u16 0) 1 2 Tryz.underlying171 iU.1 iU.2.1 iU.2.2.1 iU.2.2.2 rfl (by decide) _ _ _ rfl (hown3.alloc _) ⟨w3.heap.size,0,none⟩ 1 1 [_] rfl rfl (cell_one_new _ _ _) (by intro u hu;simp at hu;subst hu;rfl) (by unfold maxLen;omega) (by omega) (by simp;omega) ?_;intro v1 w4 hown1 hgrow1 hnil1))
     go_roundw
     case rel =>
      refine ⟨k+1,acc++[g],by go_num,by omega,by simp;omega,fun _=>by simp;omega,?_,hnext,(hnx.trans (hb3.mono hnx.size)).alloc (by omega) _ |>.grown hgrow1 (by simp;omega) (fun j hj=>(hown3.lt j hj).1)⟩;rw [wL,List.length_append];exact hown1
     case measure=>simp [intOf];omega
   | none =>
    have hend:Hid (R=none):=KZ9 (by rw [hstep.out,if_neg hno.out]);clear hstep hno;rcases hcs with rfl | ⟨rfl,rfl⟩ | ⟨rfl,rfl,hkn⟩
    all_goals
     go_wp2_with fail
     refine (HP.out _).mono ?_;rintro e w3 ⟨rfl,hb3⟩
     (try have g1:((k:Int)==(n:Int) - 1)=false:=by simp;omega)
     have c2:=C1.out w3 hb3;go_wp2_with fail
     refine (HD.out _).mono ?_;rintro e w5 ⟨rfl,rfl⟩;unfold vh;go_wp2
     all_goals try omega
     go_ret2;rw [hend.out];exact ⟨_,rfl,World.ownsRow_nil _ _ _ _,hb.trans ((hnx.trans (hb3.mono hnx.size)).mono hb.size)⟩
  obtain rfl:k=n:=by omega
  have hend:Hid (R=some acc):=KZ9 (by rw [hst.out,List.drop_of_length_le (by rw [HN.out];omega)];rfl);clear hst;go_wp2;go_ret2;rw [hend.out];exact ⟨_,rfl,qM hown hb.size,hb.trans (hnx.mono hb.size)⟩
theorem Um (l:List Nat) (k v:Nat):(zg l).toArray.setIfInBounds k (.int .u16 (v:Int))=(zg (l.set k v)).toArray:=by
 unfold zg;rw [List.setIfInBounds_toArray,List.map_set]
theorem KeptBut.trans {g:Nat} {w w' w'':World} (h:KeptBut g w w') (h':KeptBut g w' w''):KeptBut g w w'':=⟨fun k hk=>(h'.1 k hk).trans (h.1 k hk),fun B hB=>(h.2 B hB).trans (h'.2 B hB)⟩
def FillSt (g:Nat) (w wr:World) (A:List Nat):Prop:=KeptBut g w wr∧BlkN wr g 58 (zg A).toArray
theorem FillSt.step {g:Nat} {w wr:World} {A:List Nat} (h:FillSt g w wr A) (k v:Nat):FillSt g w (wr.setCell ⟨g,k,none⟩ (.int .u16 (v:Int))) (A.set k v):=by
 have hk:KeptBut g wr (wr.setCell ⟨g,k,none⟩ (.int .u16 (v:Int))):=by
  rw [setCell_eq_setRow wr g k _ _ _ _ h.2];exact KeptBut.row _ _ _
 refine ⟨h.1.trans hk,?_⟩;have:=h.2.set k (.int .u16 (v:Int));rw [Um] at this;exact this
theorem FillSt.cell {g:Nat} {w wr:World} {A:List Nat} (h:FillSt g w wr A) (k:Nat) (hk:k<A.length):∃ u,wr.cell? ⟨g,k,none⟩=some u:=by
 refine ⟨.int .u16 (A[k]:Int),?_⟩;rw [cell_of_row wr g k _ _ _ h.2];simp [zg,List.getElem?_eq_getElem hk]
theorem FillSt.frozen {g:Nat} {w wr:World} {A:List Nat} (h:FillSt g w wr A) (k:Nat):wr.frozen? ⟨g,k,none⟩=false:=Lib.frozen_of_heap h.2 k
theorem FillSt.start {g:Nat} {w:World} {A:List Nat} (h:BlkN w g 58 (zg A).toArray):FillSt g w w A:=⟨KeptBut.refl _ _,h⟩
end Go.Proofs.YtjbciamhhfcdoaaGreatDoor
namespace Hs
open Go
theorem Jb (A B:List Nat) (x v:Nat):(A++x::B).set A.length v=A++v::B:=by
 rw [List.set_append_right _ _ (Nat.le_refl _),Nat.sub_self];rfl
def yZ (A:List Nat) (o:Nat) (y:List Nat) (k:Nat):List Nat:=A.take o++(y.take k++A.drop (o+k))
theorem re (A:List Nat) (o:Nat) (y:List Nat):yZ A o y 0=A:=by simp [yZ]
theorem rf (A:List Nat) (o:Nat) (y:List Nat) (k:Nat) (hk:k<y.length) (ho:o+k<A.length):(yZ A o y k).set (o+k) y[k]=yZ A o y (k+1):=by
 have hd:A.drop (o+k)=A[o+k]::A.drop (o+k+1):=List.drop_eq_getElem_cons ho;have hA:(A.take o++y.take k).length=o+k:=by rw [List.length_append,List.length_take,List.length_take];omega
 have e1:yZ A o y k=(A.take o++y.take k)++A[o+k]::A.drop (o+k+1):=by rw [yZ,←List.append_assoc,hd]
 have e2:=Jb (A.take o++y.take k) (A.drop (o+k+1)) A[o+k] y[k];rw [hA,←e1] at e2;rw [e2];unfold yZ;rw [List.take_succ_eq_append_getElem hk,List.append_assoc,List.append_assoc];rfl
theorem qo (A:List Nat) (o:Nat) (y:List Nat) (k:Nat) (hk:k≤y.length) (ho:o+k≤A.length):(yZ A o y k).length=A.length:=by
 unfold yZ;simp;omega
def zs8:List Nat:=[0,0,0,0,0,0,0,0]
theorem ST (k:Nat):zs8.drop k=List.replicate (8 - k) 0:=by
 show (List.replicate 8 0).drop k=_;rw [List.drop_replicate]
theorem gu (x:List Nat) (h:x.length≤8):yZ zs8 0 x x.length=x++List.replicate (8 - x.length) 0:=by
 unfold yZ;rw [List.take_zero,List.take_length,Nat.zero_add,ST];rfl
theorem Up (x:List Nat) (h:x.length=8):yZ zs8 0 x 8=x:=by
 have:=gu x (by omega);rw [h] at this;rw [this];simp
theorem WB (x y:List Nat) (h:x.length+y.length≤8):yZ (x++List.replicate (8 - x.length) 0) (8 - y.length) y y.length=x++(List.replicate (8 - x.length - y.length) 0++y):=by
 unfold yZ;rw [List.take_length,List.drop_of_length_le (by simp;omega),List.append_nil,List.take_append,List.take_of_length_le (by omega),List.take_replicate,List.append_assoc]
 congr 3
 omega
def vI (l:List Nat) (fr n k:Nat):Bs:=if k≤fr then yu (l.take k) else (yu (l.take fr)++[58,58])++yu ((l.drop (fr+n)).take (k - (fr+n)))
theorem JF (P:Bs) (m:List Nat) (g:Nat) (hP:P=[]∨P.getLast? =some 58):P++yu (m++[g])=(P++yu m)++((if P++yu m≠[]∧(P++yu m).getLast? ≠some 58 then [58] else [])++xJ g):=by
 cases m with
 | nil =>
  have e:yu []=[]:=rfl;have e1:yu ([]++[g])=xJ g:=rfl;rw [e,e1,List.append_nil,if_neg]
  ·rfl
  rintro ⟨h1,h2⟩;rcases hP with h | h
  ·exact h1 h
  exact h2 h
 | cons a m =>
  obtain ⟨c,hc,h58⟩:=k8 (a::m) (by simp);have hl:(P++yu (a::m)).getLast? =some c:=by rw [List.getLast?_append,hc];rfl
  have hne:P++yu (a::m)≠[]:=by
   intro e;rw [e] at hl;cases hl
  rw [if_pos ⟨hne,by rw [hl];intro e;exact h58 (Option.some.inj e)⟩,Ue _ _ (by simp)];simp
theorem Sf (l:List Nat) (fr n k:Nat) (hk:k<l.length) (hc:k<fr∨(fr+n≤k∧fr<k)):vI l fr n (k+1)=vI l fr n k++((if vI l fr n k≠[]∧(vI l fr n k).getLast? ≠some 58 then [58] else [])++xJ l[k]):=by
 rcases hc with hc | ⟨hc,hc2⟩
 ·have e1:vI l fr n (k+1)=[]++yu (l.take k++[l[k]]):=by
   unfold vI;rw [if_pos (by omega),List.take_succ_eq_append_getElem hk];rfl
  have e2:vI l fr n k=[]++yu (l.take k):=by
   unfold vI;rw [if_pos (by omega)];rfl
  rw [e1,e2];exact JF [] _ _ (.inl rfl)
 have hkd:k - (fr+n)<(l.drop (fr+n)).length:=by rw [List.length_drop];omega
 have e1:vI l fr n (k+1)=(yu (l.take fr)++[58,58])++yu ((l.drop (fr+n)).take (k - (fr+n))++[l[k]]):=by
  unfold vI;rw [if_neg (by omega),show k+1 - (fr+n)=k - (fr+n)+1 by omega,List.take_succ_eq_append_getElem hkd,List.getElem_drop];simp only [show fr+n+(k - (fr+n))=k by omega]
 have e2:vI l fr n k=(yu (l.take fr)++[58,58])++yu ((l.drop (fr+n)).take (k - (fr+n))):=by
  unfold vI;rw [if_neg (by omega)]
 rw [e1,e2];exact JF _ _ _ (.inr (by rw [List.getLast?_append];rfl))
theorem Ry (l:List Nat) (fr n:Nat) (hn:0<n):vI l fr n (fr+n)=vI l fr n fr++[58,58]:=by
 unfold vI;rw [if_neg (by omega),if_pos (Nat.le_refl _),Nat.sub_self,List.take_zero];show _++[]=_;rw [List.append_nil]
theorem Se (l:List Nat) (fr n:Nat):vI l fr n 0=[]:=by
 unfold vI;rw [if_pos (by omega)];rfl
theorem XR (l:List Nat) (fr n k:Nat) (hl:∀ x∈l,x<65536) (h8:l.length=8):(vI l fr n k).length≤82:=by
 unfold vI;split
 ·have:=wb (l.take k) (fun x hx=>hl x (List.mem_of_mem_take hx));rw [List.length_take] at this;omega
 have h1:=wb (l.take fr) (fun x hx=>hl x (List.mem_of_mem_take hx));have h2:=wb ((l.drop (fr+n)).take (k - (fr+n))) (fun x hx=>hl x (List.mem_of_mem_drop (List.mem_of_mem_take hx)));rw [List.length_take] at h1 h2;rw [List.length_drop] at h2;simp;omega
theorem Rz (l:List Nat) (h8:l.length=8):∃ fr n:Nat,∃ at':Int,vg l 0 (-1,1)=(at',n)∧1≤n∧n≤8∧fr≤8∧((fr=8∧at'= -1)∨(at'=(fr:Int)∧fr+n≤8))∧vI l fr n 8=vM l:=by
 have hs:=UA l;have hg:=rF l;unfold vM SC;generalize xz l 0 (0,0)=z at hs hg;have hg1:=hg.1;rcases hs with ⟨h1,h2⟩ | ⟨h1,h2⟩
 ·refine ⟨8,1,-1,h2,by omega,by omega,by omega,.inl ⟨rfl,rfl⟩,?_⟩;unfold vI;rw [if_pos (by omega),if_pos (by omega),List.take_of_length_le (by omega)]
 refine ⟨z.1,z.2,(z.1:Int),h2,by omega,by omega,by omega,.inr ⟨rfl,by omega⟩,?_⟩;unfold vI;have e:(l.drop (z.1+z.2)).take (8 - (z.1+z.2))=l.drop (z.1+z.2):=List.take_of_length_le (by rw [List.length_drop];omega);rw [if_neg (by omega),if_neg (by omega),e,List.append_assoc];rfl
end Hs
namespace Go.Proofs.YtjbciamhhfcdoaaGreatDoor
open Go.RowKit Hs
theorem kH {w:World} {base:Nat} {e:TypeId} {a:Option Addr} {c:Nat} {l:List Nat} (h:w.ownsRow base e 1 (.slice a l.length c) l.length (zg l)) (h0:0<l.length):∃ b off,a=some ⟨b,off,none⟩∧base≤b∧∀ j (hj:j<l.length),w.cell? ⟨b,off+j,none⟩=some (.int .u16 (l[j]:Int)):=by
 have h1:=h;rcases h.2 with ⟨_,h2⟩ | ⟨g,cap,cur,hv,hb,_⟩
 ·omega
 injection hv with e1 e2 e3
 subst e1;subst e3;refine ⟨g,0,rfl,hb,fun j hj=> ?_⟩;rw [Nat.zero_add,h1.cellAt j (by omega)];simp [zg,List.getElem?_eq_getElem hj]
theorem PS {l:Bs} {p:Bs × Bs} (h:xT l=some p):p.1.length+2+p.2.length=l.length:=by
 have:=congrArg List.length (tQ h);rw [this];simp;omega
set_option maxRecDepth 20000
set_option maxHeartbeats 4000000
theorem TW (s:ByteArray) (w:World) (hs:s.size≤100000):Calls Tryz.prog 154 #[.string s] w fun e w'=>e= .returned (.tuple #[.agg (zg (Xx (xG (un s))).1).toArray,.bool (Xx (xG (un s))).2])∧Below w.heap.size w w':=by
 have HD:=KZ9 (fun W=>VL s W (by omega));have hdef:Hid (xG (un s)=match xT (un s) with
  | none=>match yH (un s) true with
   | some x=>if x.length=8 then some x else none
   | none=>none
  | some p=>match yH p.1 false,yH p.2 true with
   | some x,some y=>if x.length+y.length≤7 then some (x++(List.replicate (8 - x.length - y.length) 0++y)) else none
   | _,_=>none):=KZ9 rfl
 obtain ⟨R,hR⟩:=KZ6 (xG (un s));rw [←hR] at hdef ⊢;clear hR;have hbA:Below w.heap.size w ((w.alloc (.cells (zg z8).toArray 58)).alloc (.cells (zg z8).toArray 58)):=((Below.refl _ w).alloc (Nat.le_refl _) _).alloc (by simp) _;have hr0:BlkN ((w.alloc (.cells (zg z8).toArray 58)).alloc (.cells (zg z8).toArray 58)) w.heap.size 58 (zg z8).toArray:=(BlkN.new w _ _).alloc _;have ho0:BlkN ((w.alloc (.cells (zg z8).toArray 58)).alloc (.cells (zg z8).toArray 58)) (w.heap.size+1) 58 (zg z8).toArray:=by
  have:=BlkN.new (w.alloc (.cells (zg z8).toArray 58)) 58 (zg z8).toArray
  simpa using this
 have hsz0:w.heap.size+2≤((w.alloc (.cells (zg z8).toArray 58)).alloc (.cells (zg z8).toArray 58)).heap.size:=by simp
 obtain ⟨W0,hW0⟩:=KZ6 (((w.alloc (.cells (zg z8).toArray 58)).alloc (.cells (zg z8).toArray 58)));rw [←hW0] at hbA hr0 ho0 hsz0;have HW0:Hid ((w.alloc (.cells #[.int .u16 0,.int .u16 0,.int .u16 0,.int .u16 0,.int .u16 0,.int .u16 0,.int .u16 0,.int .u16 0] 58)).alloc (.cells #[.int .u16 0,.int .u16 0,.int .u16 0,.int .u16 0,.int .u16 0,.int .u16 0,.int .u16 0,.int .u16 0] 58)=W0):=KZ9 hW0.symm;clear hW0;cases hc:xT (un s) with
 | none =>
  have hD:=fun W=>HD.out W;unfold Uu at hD;simp only [hc] at hD;have HD2:=KZ9 hD;have HG:=KZ9 (qb s true W0 hs);have hdef2:Hid (R=match yH (un s) true with | some x=>if x.length=8 then some x else none | none=>none):=KZ9 (by have:=hdef.out;rw [hc] at this;exact this);obtain ⟨X,hX⟩:=KZ6 (yH (un s) true);rw [←hX] at HG hdef2;clear hD HD hdef hX hc;go_enter Tryz.func154,Tryz.ntmps154
  go_wp2_with fail
  rw [HW0.out];clear HW0;refine (HD2.out _).mono ?_;rintro e w1 ⟨rfl,rfl⟩;go_wp2_with fail
  refine HG.out.mono ?_;rintro e w2 ⟨v1,rfl,hg1,hb2⟩;have hr2:=hr0.below hr0.lt hb2;have ho2:=ho0.below ho0.lt hb2;have hall:=hbA.trans (hb2.mono hbA.size);have hsh1:Grps w2 v1 (X.getD []):=Row.owned hg1;have HR:=KZ9 hr2;have HO:=KZ9 ho2;have HG1:=KZ9 hg1;have hgb:w.heap.size+1<W0.heap.size:=by omega
  obtain ⟨a1,c1,rfl,hn1,hm1,_⟩:=hsh1.open;unfold maxLen at hm1;clear hr0 hr2 ho0 ho2 hg1 hsh1 HG HD2;cases X with
  | none =>
   have hend:Hid (R=none):=KZ9 (hdef2.out);clear hdef2;simp only [Option.getD_none,Option.isSome_none,List.length_nil] at hn1 ⊢;go_wp2_with (first
    | refine wpList_load_row rfl 58 (.tmp 4) rfl (w.heap.size+1) rfl 58 _ _ _ HO.out Tryz.underlying58 rfl zC ?_
    | refine wpList_store_row rfl 58 (.tmp 2) (.tmp 31) rfl w.heap.size (zg z8).toArray rfl rfl 58 _ HR.out zC rfl (xN z8) ?_)
   all_goals try omega
   refine bodyPost_ret (zf rfl _ _ w.heap.size 58 _ _ rfl (setRow_heap w2 w.heap.size _ (zg z8).toArray _ _ HR.out) Tryz.underlying58 rfl zC) rfl ?_;rw [hend.out];exact ⟨rfl,below_setRow hall (Nat.le_refl _) (zg z8).toArray⟩
  | some x =>
   simp only [Option.getD_some,Option.isSome_some] at hn1 HG1 ⊢;by_cases h8:x.length=8
   ·have hend:Hid (R=some x):=KZ9 (by have:=hdef2.out;simp only at this;rw [this,if_pos h8]);have HS0:Hid (FillSt (w.heap.size+1) w2 w2 (yZ zs8 0 x 0)):=KZ9 (FillSt.start (by rw [re];exact HO.out));clear hdef2;have H8:=KZ9 h8;rw [h8] at hn1;simp only [h8];clear h8;go_wp2;go_loopw [8] (fun iv wr=>∃ k:Nat,iv= .int .i64 k∧k≤8∧Hid (FillSt (w.heap.size+1) w2 wr (yZ zs8 0 x k))) (fun iv _=>8 - (intOf iv).toNat)
    case atStart=>exact ⟨0,rfl,by omega,HS0⟩
    case round =>
     obtain ⟨k,rfl,hk,hst⟩:=hrel;by_cases hlt:k<8
     ·have hkx:k<x.length:=by rw [H8.out];exact hlt
      have hfl:(yZ zs8 0 x k).length=8:=qo zs8 0 x k (by omega) (by show 0+k≤8;omega);obtain ⟨u0,c0⟩:=hst.out.cell k (by rw [hfl];exact hlt);have f0:=hst.out.frozen k;obtain ⟨b,off,rfl,hbb,hcell⟩:=kH (qL HG1.out hst.out.1 hgb) (by omega);have c1:=hcell k hkx;have hst2:Hid (FillSt (w.heap.size+1) w2 (wr.setCell ⟨w.heap.size+1,k,none⟩ (.int .u16 (x[k]:Int))) (yZ zs8 0 x (k+1))):=KZ9 (by
       have:=hst.out.step k x[k];have e:=rf zs8 0 x k hkx (by show 0+k<8;omega);rw [Nat.zero_add] at e;rw [e] at this;exact this)
      obtain ⟨y,hy⟩:=KZ6 (x[k]);rw [←hy] at c1 hst2;clear hcell hy hst hfl hkx;go_wp2
      all_goals try omega
      go_roundw
      case rel=>exact ⟨k+1,by go_num,by omega,hst2⟩
      case measure=>simp [intOf];omega
     obtain rfl:k=8:=by omega
     have hO2:Hid (BlkN wr (w.heap.size+1) 58 (zg x).toArray):=KZ9 (by have:=hst.out.2;rw [Up x H8.out] at this;exact this);have hR2:Hid (BlkN wr w.heap.size 58 (zg z8).toArray):=KZ9 ((hst.out.1.1 _ (by omega)).trans HR.out);have hall2:=hall.trans (hst.out.1.2 _ (by omega));have hx8:(Tryz.prog.info? 58).map (·.size)=some (zg x).toArray.size:=by rw [zC];simp [H8.out]
     have HX8:=KZ9 hx8;clear hst hx8;go_wp2_with (first
      | refine wpList_load_row rfl 58 (.tmp 4) rfl (w.heap.size+1) rfl 58 _ _ _ hO2.out Tryz.underlying58 rfl HX8.out ?_
      | refine wpList_store_row rfl 58 (.tmp 2) (.tmp 42) rfl w.heap.size _ rfl rfl 58 _ hR2.out HX8.out (by simp [z8,H8.out]) (xN _) ?_)
     all_goals try omega
     refine bodyPost_ret (zf rfl _ _ w.heap.size 58 _ _ rfl (setRow_heap wr w.heap.size _ _ _ _ hR2.out) Tryz.underlying58 rfl HX8.out) rfl ?_;rw [hend.out];exact ⟨rfl,below_setRow hall2 (Nat.le_refl _) _⟩
   have hend:Hid (R=none):=KZ9 (by have:=hdef2.out;simp only at this;rw [this,if_neg h8]);clear hdef2;have g1:((x.length:Int) != 8)=true:=by simp;omega
   go_wp2_with (first
    | refine wpList_load_row rfl 58 (.tmp 4) rfl (w.heap.size+1) rfl 58 _ _ _ HO.out Tryz.underlying58 rfl zC ?_
    | refine wpList_store_row rfl 58 (.tmp 2) (.tmp 31) rfl w.heap.size (zg z8).toArray rfl rfl 58 _ HR.out zC rfl (xN z8) ?_)
   all_goals try omega
   refine bodyPost_ret (zf rfl _ _ w.heap.size 58 _ _ rfl (setRow_heap w2 w.heap.size _ (zg z8).toArray _ _ HR.out) Tryz.underlying58 rfl zC) rfl ?_;rw [hend.out];exact ⟨rfl,below_setRow hall (Nat.le_refl _) (zg z8).toArray⟩
 | some p =>
  obtain ⟨P1,P2⟩:=p;have hle:=PS hc;have hsm:=tQ hc;simp only at hle hsm;rw [zb] at hle;have hD:=fun W=>HD.out W;unfold Uu at hD;simp only [hc] at hD;have hdef2:Hid (R=match yH P1 false,yH P2 true with | some x,some y=>if x.length+y.length≤7 then some (x++(List.replicate (8 - x.length - y.length) 0++y)) else none | _,_=>none):=KZ9 (by have:=hdef.out;rw [hc] at this;exact this);obtain ⟨q,hq⟩:=KZ6 P1.length;have e1:un (s.extract 0 q)=P1:=by rw [xk,hsm,hq];simp
  have e2:un (s.extract (q+2) s.size)=P2:=by
   rw [xk,List.take_of_length_le (by rw [List.length_drop,zb];omega),hsm,hq,←List.drop_drop];simp
  rw [←hq] at hle;simp only [←hq] at hD;have HD2:=KZ9 hD;have g1:=fun W=>qb (s.extract 0 q) false W (by rw [ByteArray.size_extract];omega);have g2:=fun W=>qb (s.extract (q+2) s.size) true W (by rw [ByteArray.size_extract];omega);simp only [e1] at g1;simp only [e2] at g2;obtain ⟨X,hX⟩:=KZ6 (yH P1 false);obtain ⟨Y,hY⟩:=KZ6 (yH P2 true);rw [←hX,←hY] at hdef2;simp only [←hX] at g1;simp only [←hY] at g2;have hXl:(X.getD []).length≤100002:=by rw [hX];exact Nat.le_trans (rE _ _) (by omega)
  have hYl:(Y.getD []).length≤100002:=by rw [hY];exact Nat.le_trans (rE _ _) (by omega)
  have G1:=KZ9 g1;have G2:=KZ9 g2;have hk0:decide ((q:Int)<0)=false:=KZ8 (by omega);have hk1:(q:Int)≤(s.size:Int):=by omega
  have hk2:(q:Int)+2≤(s.size:Int):=by omega
  clear hD HD hdef hX hY hc e1 e2 g1 g2 hq hsm;go_enter Tryz.func154,Tryz.ntmps154
  go_wp2_with fail
  rw [HW0.out];clear HW0;refine (HD2.out _).mono ?_;rintro e w1 ⟨rfl,rfl⟩;go_wp2_with fail
  all_goals try omega
  refine (G1.out _).mono ?_;rintro e w1 ⟨v1,rfl,hg1,hb1⟩;have hr1:=hr0.below hr0.lt hb1;have ho1:=ho0.below ho0.lt hb1;have hs1:=hb1.size;go_wp2_with fail
  all_goals try omega
  refine (G2.out _).mono ?_;rintro e w2 ⟨v2,rfl,hg2,hb2⟩;have hr2:=hr1.below hr1.lt hb2;have ho2:=ho1.below ho1.lt hb2;have hg1':=uw hg1 hb2;have hall:=hbA.trans ((hb1.trans (hb2.mono hb1.size)).mono hbA.size);have hsh1:Grps w2 v1 (X.getD []):=Row.owned hg1';have hsh2:Grps w2 v2 (Y.getD []):=Row.owned hg2;have HR:=KZ9 hr2;have HO:=KZ9 ho2;have HG1:=KZ9 hg1';have HG2:=KZ9 (qM hg2 hs1);have hgb:w.heap.size+1<W0.heap.size:=by omega
  obtain ⟨a1,c1,rfl,hn1,hm1,_⟩:=hsh1.open;obtain ⟨a2,c2,rfl,hn2,hm2,_⟩:=hsh2.open;unfold maxLen at hm1 hm2;clear hr0 hr1 hr2 ho0 ho1 ho2 hg1 hg1' hg2 hsh1 hsh2 G1 G2 HD2;cases X with
  | none =>
   have hend:Hid (R=none):=KZ9 (hdef2.out);clear hdef2;simp only [Option.getD_none,Option.isSome_none,List.length_nil] at hn1 ⊢;go_wp2_with (first
    | refine wpList_load_row rfl 58 (.tmp 4) rfl (w.heap.size+1) rfl 58 _ _ _ HO.out Tryz.underlying58 rfl zC ?_
    | refine wpList_store_row rfl 58 (.tmp 2) (.tmp 72) rfl w.heap.size (zg z8).toArray rfl rfl 58 _ HR.out zC rfl (xN z8) ?_)
   all_goals try omega
   refine bodyPost_ret (zf rfl _ _ w.heap.size 58 _ _ rfl (setRow_heap w2 w.heap.size _ (zg z8).toArray _ _ HR.out) Tryz.underlying58 rfl zC) rfl ?_;rw [hend.out];exact ⟨rfl,below_setRow hall (Nat.le_refl _) (zg z8).toArray⟩
  | some x =>
   cases Y with
   | none =>
    have hend:Hid (R=none):=KZ9 (hdef2.out);clear hdef2;simp only [Option.getD_none,Option.getD_some,Option.isSome_none,Option.isSome_some,List.length_nil] at hn1 hn2 ⊢;go_wp2_with (first
     | refine wpList_load_row rfl 58 (.tmp 4) rfl (w.heap.size+1) rfl 58 _ _ _ HO.out Tryz.underlying58 rfl zC ?_
     | refine wpList_store_row rfl 58 (.tmp 2) (.tmp 72) rfl w.heap.size (zg z8).toArray rfl rfl 58 _ HR.out zC rfl (xN z8) ?_)
    all_goals try omega
    refine bodyPost_ret (zf rfl _ _ w.heap.size 58 _ _ rfl (setRow_heap w2 w.heap.size _ (zg z8).toArray _ _ HR.out) Tryz.underlying58 rfl zC) rfl ?_;rw [hend.out];exact ⟨rfl,below_setRow hall (Nat.le_refl _) (zg z8).toArray⟩
   | some y =>
    simp only [Option.getD_some,Option.isSome_some] at hn1 hn2 hXl hYl HG1 HG2 ⊢;by_cases h7:x.length+y.length≤7
    ·have hend:Hid (R=some (x++(List.replicate (8 - x.length - y.length) 0++y))):=KZ9 (by have:=hdef2.out;simp only at this;rw [this,if_pos h7]);have HS0:Hid (FillSt (w.heap.size+1) w2 w2 (yZ zs8 0 x 0)):=KZ9 (FillSt.start (by rw [re];exact HO.out));have g7:decide ((7:Int)<(x.length:Int)+(y.length:Int))=false:=KZ8 (by omega);have hx7:x.length≤7:=by omega
     have hy7:y.length≤7:=by omega
     clear hdef2 hXl hYl;go_wp2
     all_goals try omega
     go_loopw [13] (fun iv wr=>∃ k:Nat,iv= .int .i64 k∧k≤x.length∧Hid (FillSt (w.heap.size+1) w2 wr (yZ zs8 0 x k))) (fun iv _=>x.length - (intOf iv).toNat)
     case atStart=>exact ⟨0,rfl,by omega,HS0⟩
     case round =>
      obtain ⟨k,rfl,hk,hst⟩:=hrel;by_cases hlt:k<x.length
      ·have hfl:(yZ zs8 0 x k).length=8:=qo zs8 0 x k (by omega) (by show 0+k≤8;omega);obtain ⟨u0,c0⟩:=hst.out.cell k (by omega);have f0:=hst.out.frozen k;obtain ⟨b,off,rfl,hbb,hcell⟩:=kH (qL HG1.out hst.out.1 hgb) (by omega);have c1:=hcell k hlt;have hst2:Hid (FillSt (w.heap.size+1) w2 (wr.setCell ⟨w.heap.size+1,k,none⟩ (.int .u16 (x[k]:Int))) (yZ zs8 0 x (k+1))):=KZ9 (by
        have:=hst.out.step k x[k];have e:=rf zs8 0 x k hlt (by show 0+k<8;omega);rw [Nat.zero_add] at e;rw [e] at this;exact this)
       obtain ⟨z,hz⟩:=KZ6 (x[k]);rw [←hz] at c1 hst2;clear hcell hz hst hfl;go_wp2
       all_goals try omega
       go_roundw
       case rel=>exact ⟨k+1,by go_num,by omega,hst2⟩
       case measure=>simp [intOf];omega
      obtain rfl:k=x.length:=by omega
      have HS1:Hid (FillSt (w.heap.size+1) w2 wr (yZ (x++List.replicate (8 - x.length) 0) (8 - y.length) y 0)):=KZ9 (by have:=hst.out;rw [gu x (by omega)] at this;rw [re];exact this);have hAl:(x++List.replicate (8 - x.length) 0).length=8:=by simp;omega
      obtain ⟨A,hA⟩:=KZ6 (x++List.replicate (8 - x.length) 0);rw [←hA] at HS1 hAl;have HA:=KZ9 hA;have HAL:=KZ9 hAl;clear hst hA hAl;go_wp2
      all_goals try omega
      go_loopw [14] (fun iv wr=>∃ k:Nat,iv= .int .i64 k∧k≤y.length∧Hid (FillSt (w.heap.size+1) w2 wr (yZ A (8 - y.length) y k))) (fun iv _=>y.length - (intOf iv).toNat)
      case atStart=>exact ⟨0,rfl,by omega,HS1⟩
      case round =>
       obtain ⟨k,rfl,hk,hst⟩:=hrel;by_cases hlt:k<y.length
       ·have hfl:(yZ A (8 - y.length) y k).length=8:=by rw [qo A _ y k (by omega) (by rw [HAL.out];omega),HAL.out]
        obtain ⟨j,hj⟩:=KZ6 (8 - y.length+k);have hj8:j<8:=by omega
        have hji:(8:Int) - (y.length:Int)+(k:Int)=(j:Int):=by omega
        obtain ⟨u0,c0⟩:=hst.out.cell j (by omega);have f0:=hst.out.frozen j;obtain ⟨b,off,rfl,hbb,hcell⟩:=kH (qL HG2.out hst.out.1 hgb) (by omega);have c1:=hcell k hlt;have hst2:Hid (FillSt (w.heap.size+1) w2 (wr.setCell ⟨w.heap.size+1,j,none⟩ (.int .u16 (y[k]:Int))) (yZ A (8 - y.length) y (k+1))):=KZ9 (by
         have:=hst.out.step j y[k];have e:=rf A (8 - y.length) y k hlt (by rw [HAL.out];omega);rw [←hj] at e;rw [e] at this;exact this)
        obtain ⟨z,hz⟩:=KZ6 (y[k]);rw [←hz] at c1 hst2;have HJ:=KZ9 hj;clear hcell hz hst hfl hj;go_wp2
        all_goals try omega
        go_roundw
        case rel=>exact ⟨k+1,by go_num,by omega,hst2⟩
        case measure=>simp [intOf];omega
       obtain rfl:k=y.length:=by omega
       obtain ⟨Z,hZ⟩:=KZ6 (x++(List.replicate (8 - x.length - y.length) 0++y));have hZl:Z.length=8:=by rw [hZ];simp;omega
       have hO2:Hid (BlkN wr (w.heap.size+1) 58 (zg Z).toArray):=KZ9 (by have:=hst.out.2;rw [HA.out,WB x y (by omega),←hZ] at this;exact this);have hR2:Hid (BlkN wr w.heap.size 58 (zg z8).toArray):=KZ9 ((hst.out.1.1 _ (by omega)).trans HR.out);have hall2:=hall.trans (hst.out.1.2 _ (by omega));have HX8:Hid ((Tryz.prog.info? 58).map (·.size)=some (zg Z).toArray.size):=KZ9 (by rw [zC];simp [hZl]);have HZL:=KZ9 hZl;have hend2:Hid (R=some Z):=KZ9 (by rw [hend.out,hZ]);clear hst hZ hZl hend;go_wp2_with (first
        | refine wpList_load_row rfl 58 (.tmp 4) rfl (w.heap.size+1) rfl 58 _ _ _ hO2.out Tryz.underlying58 rfl HX8.out ?_
        | refine wpList_store_row rfl 58 (.tmp 2) (.tmp 101) rfl w.heap.size _ rfl rfl 58 _ hR2.out HX8.out (by simp [z8,HZL.out]) (xN _) ?_)
       all_goals try omega
       refine bodyPost_ret (zf rfl _ _ w.heap.size 58 _ _ rfl (setRow_heap wr w.heap.size _ _ _ _ hR2.out) Tryz.underlying58 rfl HX8.out) rfl ?_;rw [hend2.out];exact ⟨rfl,below_setRow hall2 (Nat.le_refl _) _⟩
    have hend:Hid (R=none):=KZ9 (by have:=hdef2.out;simp only at this;rw [this,if_neg h7]);clear hdef2;have g7:decide ((7:Int)<(x.length:Int)+(y.length:Int))=true:=KZ7 (by omega);have g8:(7:Int)<(x.length:Int)+(y.length:Int):=by omega
    go_wp2_with (first
     | refine wpList_load_row rfl 58 (.tmp 4) rfl (w.heap.size+1) rfl 58 _ _ _ HO.out Tryz.underlying58 rfl zC ?_
     | refine wpList_store_row rfl 58 (.tmp 2) (.tmp 72) rfl w.heap.size (zg z8).toArray rfl rfl 58 _ HR.out zC rfl (xN z8) ?_)
    all_goals try omega
    refine bodyPost_ret (zf rfl _ _ w.heap.size 58 _ _ rfl (setRow_heap w2 w.heap.size _ (zg z8).toArray _ _ HR.out) Tryz.underlying58 rfl zC) rfl ?_;rw [hend.out];exact ⟨rfl,below_setRow hall (Nat.le_refl _) (zg z8).toArray⟩
theorem tD (b:UInt8) (z:Int) (hz:z=(b.toNat:Int)) (w:World):Calls Tryz.prog 99 #[.int .u8 z] w fun e w'=>e= .returned (.int .i64 (yD b))∧w=w':=by
 subst hz;have hx:=b.toNat_lt;have hdc:=uz b;obtain ⟨q,hq⟩:=KZ6 (yD b);rw [←hq] at hdc ⊢;clear hq;rcases hdc with ⟨h1,h2,h3⟩ | ⟨h1,h2,h3⟩ | ⟨h1,h2,h3⟩ | ⟨h1,h2,h3,h4⟩
 all_goals
  go_enter Tryz.func99,Tryz.ntmps99
  go_wp2
  all_goals try omega
  all_goals
   go_ret;exact ⟨Yu (by omega),rfl⟩
end Go.Proofs.YtjbciamhhfcdoaaGreatDoor
