/- What the proof of TopClock uses, part Clk02. -/
import Derived.Test.YtbnnlkdhpifpeaaGreatDoorClk01
import Derived.Lib.LastIndexByte
import Derived.Deep.DeepCutAuto
import Derived.RangeFuncNested
import Derived.Deep.LoopGhost
import Derived.Shelf.Spec.SlicesInsertGrow
set_option linter.unusedSimpArgs false
set_option linter.unusedVariables false
namespace Hs
open Go
def zl (c:UInt8):Bs→Int
 | []=> -1
 | b::r=>if 0≤zl c r then zl c r+1 else if b=c then 0 else -1
theorem qS:∀ l:Bs,xL l=zl 45 l
 | []=>rfl
 | b::r=>by unfold xL zl;rw [qS r]
theorem zI (c:UInt8):∀ l:Bs,-1≤zl c l∧zl c l<l.length
 | []=>by simp [zl]
 | b::r=>by
  have:=zI c r;unfold zl;split
  ·simp;omega
  split<;>simp<;>omega
theorem qa (c b:UInt8):∀ l:Bs,zl c (l++[b])=if b=c then (l.length:Int) else zl c l
 | []=>by
  show (if (0:Int)≤ -1 then (-1:Int)+1 else if b=c then 0 else -1)=if b=c then 0 else -1
  rw [if_neg (show ¬ (0:Int)≤ -1 by omega)]
 | x::r=>by
  have ih:=qa c b r;have:=zI c r;rw [List.cons_append,zl,ih,zl];by_cases hb:b=c
  ·rw [if_pos hb,if_pos hb,if_pos (by omega)];simp
  rw [if_neg hb,if_neg hb]
theorem qJ (s:ByteArray) (c:UInt8):∀ k,k≤s.size→Lib.lastIdx s (c.toNat:Int) k=zl c ((un s).take k)
 | 0,_=>rfl
 | k+1,h=>by
  have hk:k<(un s).length:=by rw [za];omega
  have ih:=qJ s c k (by omega);have hd:s.data[k]! =(un s)[k]:=by
   have:k<s.data.size:=by rw [ByteArray.size_data];omega
   rw [getElem!_pos s.data k this];rfl
  rw [List.take_succ_eq_append_getElem hk,qa,Lib.lastIdx,hd,ih,List.length_take,Nat.min_eq_left (by omega)];by_cases hc:(un s)[k]=c
  ·rw [if_pos hc,if_pos (by rw [hc])]
  rw [if_neg hc,if_neg (fun e=>hc (UInt8.toNat_inj.1 (by omega)))]
theorem uX (s:ByteArray) (c:UInt8):Lib.lastIndexByte s (c.toNat:Int)=zl c (un s):=by
 unfold Lib.lastIndexByte;rw [qJ s c s.size (Nat.le_refl _),List.take_of_length_le (by rw [za];exact Nat.le_refl _)]
theorem pz (c:UInt8):∀ l:Bs,zl c l<0↔∀ x∈l,x≠c
 | []=>by simp [zl]
 | b::r=>by
  have ih:=pz c r;have hb:=zI c r;unfold zl;by_cases h:0≤zl c r
  ·rw [if_pos h];constructor
   ·intro h2;omega
   intro h2;have:=ih.2 (fun x hx=>h2 x (List.mem_cons_of_mem _ hx));omega
  rw [if_neg h];have hr:=ih.1 (by omega);by_cases hc:b=c
  ·rw [if_pos hc];constructor
   ·intro h2;omega
   intro h2;exact absurd hc (h2 b (List.mem_cons_self ..))
  rw [if_neg hc];constructor
  ·intro _ x hx;rcases List.mem_cons.1 hx with rfl | hx
   ·exact hc
   exact hr x hx
  intro _;decide
theorem pX (c:UInt8):∀ l:Bs,0≤zl c l→l=l.take (zl c l).toNat++c::l.drop ((zl c l).toNat+1)
 | [],h=>by simp [zl] at h
 | b::r,h=>by
  unfold zl at h ⊢;by_cases h1:0≤zl c r
  ·rw [if_pos h1];have ih:=pX c r h1;have e:(zl c r+1).toNat=(zl c r).toNat+1:=by omega
   rw [e,List.take_succ_cons,List.drop_succ_cons,List.cons_append,←ih]
  rw [if_neg h1] at h ⊢;by_cases hc:b=c
  ·rw [if_pos hc];simp [hc]
  rw [if_neg hc] at h;omega
def yh (l:Bs):Bs:=l.drop (zl 46 l+1).toNat
def xQ (l:Bs):Bs:=l.take (zl 46 l).toNat
theorem vS (l:Bs) (h:0≤zl 46 l):(xQ l).length<l.length:=by
 have:=zI 46 l;unfold xQ;rw [List.length_take];omega
theorem qD (l:Bs):(zl 46 l<0∧l=yh l)∨(0≤zl 46 l∧l=xQ l++46::yh l):=by
 have hb:=zI 46 l;by_cases h:0≤zl 46 l
 ·refine .inr ⟨h,?_⟩;have e:(zl 46 l+1).toNat=(zl 46 l).toNat+1:=by omega
  unfold xQ yh;rw [e];exact pX 46 l h
 refine .inl ⟨by omega,?_⟩;unfold yh;rw [show (zl 46 l+1).toNat=0 by omega,List.drop_zero]
def dm:Nat→Bs→Bs→Int
 | 0,_,_=>0
 | f+1,a,b=>if Lib.compareBytes (yh a) (yh b)≠0 then Lib.compareBytes (yh a) (yh b)
  else if zl 46 a<0∨zl 46 b<0 then (if min (zl 46 a) 0<min (zl 46 b) 0 then -1 else if min (zl 46 b) 0<min (zl 46 a) 0 then 1 else 0)
  else dm f (xQ a) (xQ b)
theorem kt:∀ (f g:Nat) (a b:Bs),a.length<f→a.length<g→dm f a b=dm g a b
 | 0,_,a,b,h,_=>by omega
 | _,0,a,b,_,h=>by omega
 | f+1,g+1,a,b,hf,hg=>by
  unfold dm;split
  ·rfl
  split
  ·rfl
  rename_i h;have:=vS a (by omega);exact kt f g _ _ (by omega) (by omega)
def yI (a b:Bs):Int:=dm (a.length+1) a b
theorem vR (a b:Bs):yI a b=if Lib.compareBytes (yh a) (yh b)≠0 then Lib.compareBytes (yh a) (yh b)
  else if zl 46 a<0∨zl 46 b<0 then (if min (zl 46 a) 0<min (zl 46 b) 0 then -1 else if min (zl 46 b) 0<min (zl 46 a) 0 then 1 else 0)
  else yI (xQ a) (xQ b):=by
 unfold yI;rw [dm];split
 ·rfl
 split
 ·rfl
 rename_i h;have:=vS a (by omega);exact kt _ _ _ _ (by omega) (by omega)
theorem yr:∀ a b:Bs,Lib.compareBytes a b=0↔a=b
 | [],[]=>by simp [Lib.compareBytes]
 | [],_::_=>by simp [Lib.compareBytes]
 | _::_,[]=>by simp [Lib.compareBytes]
 | a::r,b::s=>by
  have ih:=yr r s;unfold Lib.compareBytes;by_cases h1:a<b
  ·rw [if_pos h1];have:a≠b:=fun e=>by subst e;exact absurd h1 (UInt8.lt_irrefl _)
   simp [this]
  rw [if_neg h1];by_cases h2:b<a
  ·rw [if_pos h2];have:a≠b:=fun e=>by subst e;exact absurd h2 (UInt8.lt_irrefl _)
   simp [this]
  rw [if_neg h2];have:a=b:=by
   have h3:=UInt8.not_lt.1 h1;have h4:=UInt8.not_lt.1 h2;exact UInt8.le_antisymm h4 h3
  simp [this,ih]
theorem Ug:∀ (n:Nat) (a b:Bs),a.length≤n→(yI a b=0↔a=b):=by
 intro n
 induction n with
 | zero =>
  intro a b h;obtain rfl:a=[]:=List.eq_nil_of_length_eq_zero (by omega);rw [vR];rcases qD b with ⟨hb,eb⟩ | ⟨hb,eb⟩
  ·by_cases hc:Lib.compareBytes (yh []) (yh b)=0
   ·rw [if_neg (by simp [hc]),if_pos (.inr hb)];have hbb:=zI 46 b;have e:zl 46 ([]:Bs)= -1:=rfl;rw [e,show zl 46 b= -1 by omega];have:=(yr _ _).1 hc;rw [←eb] at this;simp [←this,yh]
   rw [if_pos hc];constructor
   ·intro h;exact absurd h hc
   intro h;subst h;exact absurd ((yr _ _).2 rfl) hc
  constructor
  ·intro h;exfalso;split at h
   ·contradiction
   rw [if_pos (.inl (by decide))] at h;have e:zl 46 ([]:Bs)= -1:=rfl;rw [e,if_pos (by omega)] at h;exact absurd h (by decide)
  intro h;subst h;simp [zl] at hb
 | succ n ih =>
  intro a b h;rw [vR];have ha:=qD a;have hb:=qD b;have ba:=zI 46 a;have bb:=zI 46 b;by_cases hc:Lib.compareBytes (yh a) (yh b)=0
  ·rw [if_neg (by simp [hc])];have ht:=(yr _ _).1 hc;rcases ha with ⟨ha,ea⟩ | ⟨ha,ea⟩<;>rcases hb with ⟨hb,eb⟩ | ⟨hb,eb⟩
   ·rw [if_pos (.inl ha),show zl 46 a= -1 by omega,show zl 46 b= -1 by omega];simp;rw [ea,eb,ht]
   ·rw [if_pos (.inl ha),if_pos (by omega)];constructor
    ·intro h;exact absurd h (by decide)
    intro h;subst h;omega
   ·rw [if_pos (.inr hb),if_neg (by omega),if_pos (by omega)];constructor
    ·intro h;exact absurd h (by decide)
    intro h;subst h;omega
   rw [if_neg (by omega)];have:=vS a ha;rw [ih (xQ a) (xQ b) (by omega)];constructor
   ·intro h;rw [ea,eb,h,ht]
   intro h;rw [h]
  rw [if_pos hc];constructor
  ·intro h;exact absurd h hc
  intro h;subst h;exact absurd ((yr _ _).2 rfl) hc
theorem js (a b:Bs):yI a b=0↔a=b:=Ug a.length a b (Nat.le_refl _)
def yc:Bs→List Bs
 | []=>[]
 | b::r=>if b=46 then r::yc r else yc r
theorem pM:∀ a:Bs,(∀ x∈a,x≠46)→yc a=[]
 | [],_=>rfl
 | b::r,h=>by rw [yc,if_neg (h b (List.mem_cons_self ..)),pM r (fun x hx=>h x (List.mem_cons_of_mem _ hx))]
theorem jN (r:Bs):∀ a:Bs,(∀ x∈a,x≠46)→yc (a++46::r)=r::yc r
 | [],_=>by simp [yc]
 | b::a,h=>by rw [List.cons_append,yc,if_neg (h b (List.mem_cons_self ..)),jN r a (fun x hx=>h x (List.mem_cons_of_mem _ hx))]
theorem kH (s:Bs):∀ l:Bs,s∈yc l↔(46::s) <:+ l
 | []=>by simp [yc]
 | b::r=>by
  have ih:=kH s r;unfold yc;rw [List.suffix_cons_iff,←ih];by_cases hb:b=46
  ·rw [if_pos hb,List.mem_cons];constructor
   ·rintro (h | h)
    ·exact .inl (by rw [hb,h])
    exact .inr h
   rintro (h | h)
   ·injection h with h1 h2;exact .inl h2
   exact .inr h
  rw [if_neg hb];constructor
  ·intro h;exact .inr h
  rintro (h | h)
  ·injection h with h1 h2;exact absurd h1.symm hb
  exact h
theorem rI:∀ l:Bs,∀ s∈yc l,s.length<l.length
 | [],s,h=>by simp [yc] at h
 | b::r,s,h=>by
  unfold yc at h;split at h
  ·rcases List.mem_cons.1 h with rfl | h
   ·simp
   have:=rI r s h;simp;omega
  have:=rI r s h;simp;omega
def jz (s n:Bs):Bool:=zG s&&zG n&&(decide (s=n)||decide (s∈yc n))
theorem kY (l:Bs) (f:UInt8→Bool) (k:Nat) (h:k<l.length):(l.drop k).any f=(f l[k]||(l.drop (k+1)).any f):=by
 rw [List.drop_eq_getElem_cons h,List.any_cons]
theorem Qp (l:Bs) (c:Nat) (hc:c=(xL l).toNat):vw l=(l.take c,l.drop (if 0<c then c+1 else c)):=by
 unfold vw;by_cases h:0<xL l
 ·rw [if_pos h,if_pos (by omega),hc]
 have h0:c=0:=by omega
 rw [if_neg h,h0];rfl
theorem k8 (l:Bs) (b:UInt8):xL (l++[b])=if b=45 then (l.length:Int) else xL l:=by
 rw [qS,qa,qS]
theorem YH (l:Bs):(xL (l++[45])).toNat=l.length:=by rw [k8,if_pos rfl];omega
theorem YG (l:Bs) {b:UInt8} (h:b≠45):(xL (l++[b])).toNat=(xL l).toNat:=by rw [k8,if_neg h]
theorem T6 (i w k bias:Nat):wE [] i w k bias=none:=rfl
theorem ZO {b:UInt8} {r:Bs} {i w k bias:Nat} (h:pv b=99):wE (b::r) i w k bias=none:=by rw [wE,if_pos h]
theorem ZM {b:UInt8} {r:Bs} {i w k bias:Nat} (h:pv b≠99) (h2:1099511627776<i+pv b*w):wE (b::r) i w k bias=none:=by rw [wE,if_neg h,if_pos h2]
theorem ZN {b:UInt8} {r:Bs} {i w k bias:Nat} (h:pv b≠99) (h2:¬ 1099511627776<i+pv b*w) (h3:pv b<thr k bias):wE (b::r) i w k bias=some (i+pv b*w,r):=by rw [wE,if_neg h,if_neg h2,if_pos h3]
theorem du {b:UInt8} {r:Bs} {i w k bias:Nat} (h:pv b≠99) (h2:¬ 1099511627776<i+pv b*w) (h3:¬ pv b<thr k bias) (h4:1099511627776<w*(36 - thr k bias)):wE (b::r) i w k bias=none:=by rw [wE,if_neg h,if_neg h2,if_neg h3,if_pos h4]
theorem dw {b:UInt8} {r:Bs} {i w k bias:Nat} (h:pv b≠99) (h2:¬ 1099511627776<i+pv b*w) (h3:¬ pv b<thr k bias) (h4:¬ 1099511627776<w*(36 - thr k bias)):wE (b::r) i w k bias=wE r (i+pv b*w) (w*(36 - thr k bias)) (k+1) bias:=by rw [wE,if_neg h,if_neg h2,if_neg h3,if_neg h4]
theorem TP {l:List Nat} {i n:Nat} (h:l.all xX=true) (hn:xX n=true):(yE l i n).all xX=true:=by
 rw [yE,List.all_append,List.all_cons,hn];have h':=List.all_eq_true.1 h;rw [List.all_eq_true.2 (fun x hx=>h' x (List.mem_of_mem_take hx)),List.all_eq_true.2 (fun x hx=>h' x (List.mem_of_mem_drop hx))];rfl
theorem Vq:∀ (f:Nat) (l:Bs) (n i bias:Nat) (first:Bool) (pts out:List Nat),pts.all xX=true→pts.length≤256→pE f l n i bias first pts=some out→out.all xX=true∧out.length≤256
 | _,[],_,_,_,_,pts,out,h,hl,e=>by
  simp only [pE] at e;cases e;exact ⟨h,hl⟩
 | 0,_::_,_,_,_,_,_,_,_,_,e=>by simp [pE] at e
 | f+1,b::r,n,i,bias,first,pts,out,h,hl,e=>by
  unfold pE at e;cases hN:wE (b::r) i 1 0 bias with
  | none=>rw [hN] at e;cases e
  | some p =>
   rw [hN] at e;simp only at e;split at e
   ·cases e
   rename_i hp;split at e
   ·cases e
   rename_i hq;exact Vq f _ _ _ _ _ _ out (TP h (by simpa using hp)) (by rw [xZ];omega) e
theorem Vp {l:Bs} {out:List Nat} (h:wR l=some out):out.all xX=true∧out.length≤256:=by
 unfold wR at h;split at h
 ·cases h
 split at h
 ·cases h
 rename_i ha;split at h
 ·cases h
 rename_i hc;refine Vq _ _ _ _ _ _ _ out ?_ (by rw [List.length_map];omega) h;rw [List.all_map];apply List.all_eq_true.2;intro x hx;have hx2:x∈l:=by
  unfold vw at hx;split at hx
  ·exact List.mem_of_mem_take hx
  cases hx
 have hlt:¬ 128≤x.toNat:=by
  intro h128;apply ha;exact List.any_eq_true.2 ⟨x,hx2,KZ7 h128⟩
 show xX x.toNat=true;unfold xX;apply KZ7;omega
end Hs
namespace Hs
open Go Go.RowKit
theorem rE (l:Bs) (f:UInt8→Bool) (k:Nat) (h:k<l.length) (hf:f l[k]=false):(l.drop k).any f=(l.drop (k+1)).any f:=by
 rw [kY l f k h,hf,Bool.false_or]
theorem dB (l:Bs) (k:Nat) (h:k<l.length):(l.take (k+1)).map UInt8.toNat=(l.take k).map UInt8.toNat++[(l[k]).toNat]:=by
 rw [List.take_succ_eq_append_getElem h,List.map_append];rfl
end Hs
namespace Go.Proofs.YtbnnlkdhpifpeaaGreatDoor
open Go.RowKit Hs
set_option maxRecDepth 20000
set_option maxHeartbeats 16000000
theorem Xo (s:ByteArray) (w:World) (hs:s.size≤100000000):Calls Tryz.prog 53 #[.string s] w fun e w'=>(∃ v c,e= .returned (.tuple #[v,.int .i64 c])∧((c=0∧∃ pts:List Nat,wR (un s)=some pts∧w'.ownsRow w.heap.size 3 1 v pts.length (zo pts))∨(c≠0∧v= .slice none 0 0∧wR (un s)=none)))∧Below w.heap.size w w':=by
 obtain ⟨iN0,iN⟩:=info_parts jw;have hlen:(un s).length=s.size:=za s;obtain ⟨l,hl⟩:=KZ6 (un s);have hdef:Hid (wR l=if 1024<l.length then none else if l.any (fun b=>decide (128≤b.toNat))=true then none else if 256<(vw l).1.length then none else ro (vw l).2 128 0 72 true ((vw l).1.map UInt8.toNat)):=KZ9 rfl;rw [←hl] at hlen ⊢;have HL:=KZ9 hl;have HLEN:=KZ9 hlen;have HDB:=KZ9 (vP l);clear hl;obtain ⟨n,hn⟩:=KZ6 s.size;rw [←hn] at hs hlen;have HN:=KZ9 hn;have hsn:(s.size:Int)=(n:Int):=by rw [hn]
 clear hn hlen;by_cases hlong:1024<n
 ·have g1:decide ((1024:Int)<(n:Int))=true:=KZ7 (by omega);have hend:Hid (wR l=none):=KZ9 (by rw [hdef.out,if_pos (by rw [HLEN.out,←HN.out];exact hlong)]);clear hdef;go_enter Tryz.func53,Tryz.ntmps53
  go_wp2
  all_goals try omega
  go_ret2;exact ⟨⟨_,_,rfl,.inr ⟨by decide,rfl,hend.out⟩⟩,Below.refl _ _⟩
 have g1:decide ((1024:Int)<(n:Int))=false:=KZ8 (by omega);have hdef2:=KZ9 (hdef.out.trans (if_neg (by rw [HLEN.out,←HN.out];exact hlong)));clear hdef;go_enter Tryz.func53,Tryz.ntmps53
 go_wp2
 all_goals try omega
 go_loop [4,5] (fun cv iv=>∃ k c:Nat,iv= .int .i64 k∧k≤n∧cv= .int .i64 c∧c≤k∧Hid (c=(xL (l.take k)).toNat)∧Hid (l.any (fun b=>decide (128≤b.toNat))=(l.drop k).any (fun b=>decide (128≤b.toNat)))) (fun _ iv=>n - (intOf iv).toNat)
 case atStart=>exact ⟨0,0,rfl,by omega,rfl,by omega,KZ9 (by simp [xL]),KZ9 (by rw [List.drop_zero])⟩
 case round =>
  obtain ⟨k,c,rfl,hk,rfl,hck,hda,han⟩:=hrel;by_cases hlt:k<n
  ·have hks:k<s.size:=by rw [←HN.out];exact hlt
   have hkl:k<l.length:=by rw [HLEN.out];exact hks
   have hx:l[k]=s[k]:=by
    have:=HL.out;subst this;exact zR s k hks
   obtain ⟨b,hb⟩:=KZ6 (s[k]);rw [←hb] at hx;have hb256:=b.toNat_lt;have cs:(s[k].toNat:Int)=(b.toNat:Int):=by rw [hb]
   have hst:=rE l (fun b=>decide (128≤b.toNat)) k hkl;have hdr:=kY l (fun b=>decide (128≤b.toNat)) k hkl;rw [hx] at hst hdr;have htk:Hid (l.take (k+1)=l.take k++[b]):=KZ9 (by rw [List.take_succ_eq_append_getElem hkl,hx]);have HS:=KZ9 hst;have HD:=KZ9 hdr;have HB:=KZ9 hb;have HLK:Hid ((l.take k).length=k):=KZ9 (by rw [List.length_take];omega);have hb45:Hid (b.toNat=45→b=45):=KZ9 (fun h=>UInt8.toNat_inj.1 h);clear hst hdr hx hb hkl;obtain ⟨x,hx⟩:=KZ6 b.toNat;rw [←hx] at cs hb256;by_cases h128:128≤x
   ·have g2:decide ((128:Int)≤(x:Int))=true:=KZ7 (by omega);have hend:Hid (wR l=none):=KZ9 (by rw [hdef2.out,han.out,HD.out,if_pos (by simp [←hx,h128])]);clear hdef2 HS HD hda han hx htk;go_wp2
    all_goals try omega
    go_ret2;exact ⟨⟨_,_,rfl,.inr ⟨by decide,rfl,hend.out⟩⟩,Below.refl _ _⟩
   have g2:decide ((128:Int)≤(x:Int))=false:=KZ8 (by omega);have han2:Hid (l.any (fun b=>decide (128≤b.toNat))=(l.drop (k+1)).any (fun b=>decide (128≤b.toNat))):=KZ9 (by rw [han.out];exact HS.out (by rw [←hx];simp;omega));by_cases h45:x=45
   ·have g3:((x:Int)==45)=true:=by simp;omega
    have hd2:Hid (k=(xL (l.take (k+1))).toNat):=KZ9 (by rw [htk.out,hb45.out (by omega),YH,HLK.out]);clear hdef2 HS HD hda han htk hb45 hx;go_wp2
    all_goals try omega
    go_round
    case rel=>exact ⟨k+1,k,by go_num,by omega,rfl,by omega,hd2,han2⟩
    case measure=>simp [intOf];omega
   have g3:((x:Int)==45)=false:=by simp;omega
   have hd2:Hid (c=(xL (l.take (k+1))).toNat):=KZ9 (by
    rw [htk.out,YG (l.take k) (b:=b) (by rintro rfl;exact h45 (by rw [hx];rfl))];exact hda.out)
   clear hdef2 HS HD hda han htk hb45 hx;go_wp2
   all_goals try omega
   go_round
   case rel=>exact ⟨k+1,c,by go_num,by omega,rfl,by omega,hd2,han2⟩
   case measure=>simp [intOf];omega
  have hln:l.length≤k:=by rw [HLEN.out,←HN.out];omega
  have hdef3:=KZ9 (hdef2.out.trans (if_neg (by rw [han.out,List.drop_of_length_le hln];simp)));have hcd:Hid (c=(xL l).toNat):=KZ9 (by rw [hda.out,List.take_of_length_le hln]);have hcn:c=0∨c<n:=by
   have:=HDB.out;have:=hcd.out;have:=HLEN.out;have:=HN.out;omega
  have hct:=Qp l c hcd.out;have hc1:(vw l).1.length=c:=by rw [hct,List.length_take,HLEN.out,←HN.out];omega
  have hc2:Hid ((vw l).1.map UInt8.toNat=(l.take c).map UInt8.toNat):=KZ9 (by rw [hct]);have hc3:Hid ((vw l).2=l.drop (if 0<c then c+1 else c)):=KZ9 (by rw [hct]);have HC1:=KZ9 hc1;clear hdef2 hda han hct hc1 hcd;go_wp2
  all_goals try omega
  go_loopw [6,7] (fun ov iv wr=>∃ k:Nat,iv= .int .i64 k∧k≤c∧wr.ownsRow w.heap.size 3 1 ov k (zo ((l.take k).map UInt8.toNat))∧Below w.heap.size w wr) (fun _ iv _=>c - (intOf iv).toNat)
  case atStart=>exact ⟨0,rfl,by omega,World.ownsRow_nil _ _ _ _,Below.refl _ _⟩
  case round =>
   obtain ⟨k,rfl,hk,hown,hnx⟩:=hrel;have hsz:=hnx.size;by_cases hlt:k<c
   ·have hks:k<s.size:=by rw [←HN.out];omega
    have hkl:k<l.length:=by rw [HLEN.out];exact hks
    have hx:l[k]=s[k]:=by
     have:=HL.out;subst this;exact zR s k hks
    have hms:=dB l k hkl;rw [hx] at hms;have HMS:=KZ9 hms;have hb256:=(s[k]).toNat_lt;obtain ⟨x,hx2⟩:=KZ6 ((s[k]).toNat);have cs:(s[k].toNat:Int)=(x:Int):=by rw [hx2]
    have HX:=KZ9 hx2;rw [←hx2] at hb256;clear hms hx hx2 hkl;go_wp2_with (first | (at_builtin;refine wpList_append_own _ rfl (.tmp 41) (.tmp 46) 22 rfl (w.heap.size) 3 iN0 (.int .i64 0) 1 8 Tryz.underlying22 iN.1 iN.2.1 iN.2.2.1 iN.2.2.2 rfl (by decide) _ _ _ rfl (hown.alloc _) ⟨wr.heap.size,0,none⟩ 1 1 [_] rfl rfl (cell_one_new _ _ _) (by intro u hu;simp at hu;subst hu;rfl) (by unfold maxLen;omega) (by omega) (by simp;omega) ?_;intro v1 w3 hown1 hgrow1 hnil1))
    all_goals try omega
    go_roundw
    case rel =>
     refine ⟨k+1,by go_num,by omega,?_,(hnx.alloc (by omega) _).grown hgrow1 (by simp;omega) (fun j hj=>(hown.lt j hj).1)⟩;rw [HMS.out,uL,←HX.out];exact hown1
    case measure=>simp [intOf];omega
   obtain rfl:k=c:=by omega
   by_cases hc256:256<k
   ·have hend:Hid (wR l=none):=KZ9 (by rw [hdef3.out,if_pos (by rw [HC1.out];exact hc256)]);have g2:decide ((256:Int)<(k:Int))=true:=KZ7 (by omega);obtain ⟨a,c2,rfl⟩:=yk hown;clear hdef3 hc2 hc3;go_wp2
    all_goals try omega
    go_ret2;exact ⟨⟨_,_,rfl,.inr ⟨by decide,rfl,hend.out⟩⟩,hnx⟩
   have hdef4:=hdef3.out.trans (if_neg (by rw [HC1.out];exact hc256));rw [hc2.out,hc3.out] at hdef4;have g2:decide ((256:Int)<(k:Int))=false:=KZ8 (by omega);obtain ⟨A,hA⟩:=KZ6 (if 0<k then k+1 else k);rw [←hA] at hdef4;have HDEF:=KZ9 hdef4;obtain ⟨P,hP⟩:=KZ6 ((l.take k).map UInt8.toNat);rw [←hP] at hown HDEF;have hPl:P.length=k:=by have:=hown.1;simpa using this
   have HA:(0<k∧A=k+1)∨(k=0∧A=k):=by
    rw [hA];split<;>omega
   obtain ⟨a,c2,rfl⟩:=yk hown;have HOWN:=KZ9 (show wr.ownsRow w.heap.size 3 1 (.slice a k c2) P.length (zo P) by rw [hPl];exact hown);have HPL:=KZ9 hPl;have HNX:=KZ9 hnx;have hA1:A≤n:=by omega
   clear hdef3 hdef4 hc2 hc3 hA hP hown hnx hcn hPl;go_upto_if 53 with fail
   all_goals try omega
   go_cut [8] (fun av wx=>av= .int .i64 (A:Int)∧wx=wr)
   case first =>
    rcases HA with ⟨h0,hAk⟩ | ⟨h0,hAk⟩
    ·have g3:decide ((0:Int)<(k:Int))=true:=KZ7 (by omega);go_wp2
     all_goals try omega
     go_meet
     case rel=>exact ⟨by rw [hAk];go_num,rfl⟩
    have g3:decide ((0:Int)<(k:Int))=false:=KZ8 (by omega);go_wp2
    all_goals try omega
    go_meet
    case rel=>exact ⟨by rw [hAk],rfl⟩
   case rest =>
   obtain ⟨rfl,rfl⟩:=hcut;have hP256:P.length≤256:=by rw [HPL.out];omega
   clear HA hc256 hlt hk g2 HC1 HDB;go_wp2
   all_goals try omega
   go_loopw [6,8,9,10,11,12] (fun ov av nv iv bv fv wr=>∃ (pts:List Nat) (at_ nn ii bi:Nat) (fi:Bool),av= .int .i64 at_∧nv= .int .i64 nn∧iv= .int .i64 ii∧bv= .int .i64 bi∧fv= .bool fi∧at_≤n∧nn≤1114111∧ii≤257∧bi≤324∧pts.length≤256∧wr.ownsRow w.heap.size 3 1 ov pts.length (zo pts)∧Hid (wR l=ro (l.drop at_) nn ii bi fi pts)∧Below w.heap.size w wr) (fun _ av _ _ _ _ _=>n - (intOf av).toNat)
   case atStart=>exact ⟨P,A,128,0,72,true,rfl,rfl,rfl,rfl,rfl,hA1,by omega,by omega,by omega,hP256,HOWN.out,HDEF,HNX.out⟩
   case round =>
    clear HOWN HNX HPL HDEF hP256 P hA1 A;obtain ⟨pts,at_,nn,ii,bi,fi,rfl,rfl,rfl,rfl,rfl,hat,hnn,hii,hbi,hpl,hown,hst,hnx⟩:=hrel;by_cases hlt:at_<n
    ·obtain ⟨m,hm⟩:=KZ6 pts.length;rw [←hm] at hown hpl;have HM2:=KZ9 hm;clear hm;have HOWN:=KZ9 hown;have HNX:=KZ9 hnx;obtain ⟨ao,co,rfl⟩:=yk hown;clear hown hnx;go_wp2
     all_goals try omega
     go_loop [8,10,14,15] (fun av iv wv kv=>∃ a2 i2 w2 k2:Nat,av= .int .i64 a2∧iv= .int .i64 i2∧wv= .int .i64 w2∧kv= .int .i64 k2∧at_≤a2∧a2≤n∧at_+k2≤a2∧ii≤i2∧i2≤1099511627776∧w2≤1099511627776∧Hid (wE (l.drop at_) ii 1 0 bi=wE (l.drop a2) i2 w2 k2 bi)) (fun av _ _ _=>n - (intOf av).toNat)
     case atStart=>exact ⟨at_,ii,1,0,rfl,rfl,rfl,rfl,by omega,by omega,by omega,by omega,by omega,by omega,KZ9 rfl⟩
     case round =>
      obtain ⟨a2,i2,w2,k2,rfl,rfl,rfl,rfl,ha1,ha2,hak,hi1,hi2,hw2,hnum⟩:=hrel;by_cases han:a2<n
      ·have hks:a2<s.size:=by rw [←HN.out];exact han
       have hkl:a2<l.length:=by rw [HLEN.out];exact hks
       have hx:l[a2]=s[a2]:=by
        have:=HL.out;subst this;exact zR s a2 hks
       have hdr:l.drop a2=s[a2]::l.drop (a2+1):=by rw [List.drop_eq_getElem_cons hkl,hx]
       obtain ⟨b,hb⟩:=KZ6 (s[a2]);rw [←hb] at hdr;have hnum2:wE (l.drop at_) ii 1 0 bi=wE (b::l.drop (a2+1)) i2 w2 k2 bi:=by rw [hnum.out,hdr]
       have HNUM:=KZ9 hnum2;have hval:=fun W=>V9 b W;have cs:(s[a2].toNat:Int)=(b.toNat:Int):=by rw [hb]
       have hpI:pvI b=if pv b=99 then -1 else (pv b:Int):=rfl
       have hplt:=@QG b;obtain ⟨pI,hp⟩:=KZ6 (pvI b);rw [←hp] at hpI;simp only [←hp] at hval;have HVAL:=KZ9 hval;clear hb hx hdr hnum2 hnum hp hval hkl;by_cases h99:pv b=99
       ·rw [if_pos h99] at hpI;subst hpI;have hnone:=HNUM.out.trans (ZO h99);have hend:Hid (wR l=none):=KZ9 (by rw [hst.out,tf (by rw [Ne,List.drop_eq_nil_iff,HLEN.out,←HN.out];omega) hnone]);clear HNUM hst hplt h99 hnone;go_wp2_with fail
        all_goals try omega
        refine (HVAL.out _).mono ?_;rintro e w9 ⟨rfl,rfl⟩;go_wp2
        all_goals try omega
        go_ret2;exact ⟨⟨_,_,rfl,.inr ⟨by decide,rfl,hend.out⟩⟩,HNX.out⟩
       rw [if_neg h99] at hpI;have hp36:=hplt h99;have h99b:pv b≠99:=h99;obtain ⟨x,hx⟩:=KZ6 (pv b);rw [←hx] at hpI hp36;subst hpI;obtain ⟨M,hM⟩:=KZ6 (x*w2);have hMb:M≤38482906972160:=by
        rw [hM];exact Nat.le_trans (Nat.mul_le_mul (show x≤35 by omega) hw2) (by decide)
       have hmul:(x:Int)*(w2:Int)=(M:Int):=by rw [hM];rfl
       have hMx:pv b*w2=M:=by rw [←hx,hM]
       have HX:=KZ9 hx;have HM:=KZ9 hMx;have H99:=KZ9 h99b;clear hx hM hMx h99b hplt h99;by_cases hfar:1099511627776<i2+M
       ·have g5:decide ((1099511627776:Int)<(i2:Int)+(M:Int))=true:=KZ7 (by omega);have hnone:=HNUM.out.trans (ZM H99.out (by rw [HM.out];exact hfar));have hend:Hid (wR l=none):=KZ9 (by rw [hst.out,tf (by rw [Ne,List.drop_eq_nil_iff,HLEN.out,←HN.out];omega) hnone]);clear HNUM hst hnone;go_wp2_with fail
        all_goals try omega
        refine (HVAL.out _).mono ?_;rintro e w9 ⟨rfl,rfl⟩;go_wp2
        all_goals try omega
        go_ret2;exact ⟨⟨_,_,rfl,.inr ⟨by decide,rfl,hend.out⟩⟩,HNX.out⟩
       have g5:decide ((1099511627776:Int)<(i2:Int)+(M:Int))=false:=KZ8 (by omega);have hfar2:¬ 1099511627776<i2+pv b*w2:=by rw [HM.out];exact hfar
       have htb:=xT k2 bi;have hthr:=fun W=>uK k2 bi W (by omega) (by omega);obtain ⟨t,ht⟩:=KZ6 (thr k2 bi);rw [←ht] at htb;simp only [←ht] at hthr;have HTHR:=KZ9 hthr;clear hthr;by_cases hxt:x<t
       ·have g6:decide ((x:Int)<(t:Int))=true:=KZ7 (by omega);have hsome:=HNUM.out.trans (ZN H99.out hfar2 (by rw [←ht,←HX.out];exact hxt));rw [HM.out] at hsome;have hdl:=dR (n:=nn) (first:=fi) (pts:=pts) hsome;rw [←hst.out] at hdl;have HDL:=KZ9 hdl;clear HNUM hst hsome hdl ht hfar2 H99 HX HM;have hDL:=HDL.out;rw [←HM2.out] at hDL;obtain ⟨D,hD⟩:=KZ6 (i2+M - ii);rw [←hD] at hDL;have hDi:(i2:Int)+(M:Int) - (ii:Int)=(D:Int):=by omega
        have hDb:D≤1099511627776:=by omega
        have had:=fun W=>pr D (m+1) fi W hDb (by omega) (by omega);have hadb:=vT D (m+1) fi hDb;obtain ⟨bi2,hbi2⟩:∃ b2,b2=xw D (m+1) fi:=⟨_,rfl⟩;rw [←hbi2] at hadb hDL;simp only [←hbi2] at had
        push_cast at had
        have HAD:=KZ9 had;obtain ⟨I,hI⟩:=KZ6 (i2+M);rw [←hI] at hDL;obtain ⟨q,hq⟩:=KZ6 (I / (m+1));obtain ⟨r,hr⟩:=KZ6 (I % (m+1));rw [←hq,←hr] at hDL;have hrm:r≤m:=by have:=Nat.mod_lt I (show 0<m+1 by omega);omega
        have hqb:q≤1099511627776:=by have:=Nat.div_le_self I (m+1);omega
        have e1:(i2:Int)+(M:Int)=(I:Int):=by omega
        have e2:(m:Int)+1=((m+1:Nat):Int):=by omega
        have hqi:((i2:Int)+(M:Int)) / ((m:Int)+1)=(q:Int):=by rw [e1,e2,hq];rfl
        have hqt:((i2:Int)+(M:Int)).tdiv ((m:Int)+1)=(q:Int):=by rw [Int.tdiv_eq_ediv_of_nonneg (by omega)];exact hqi
        have hri:((i2:Int)+(M:Int)) % ((m:Int)+1)=(r:Int):=by rw [e1,e2,hr];rfl
        have hrt:((i2:Int)+(M:Int)).tmod ((m:Int)+1)=(r:Int):=by rw [Int.tmod_eq_emod_of_nonneg (by omega)];exact hri
        have hmz:(m:Int)+1≠0:=by omega
        have hpt:=fun W=>g9 (nn+q) W (by omega);obtain ⟨ok,hok⟩:=KZ6 (xX (nn+q));have hokb:ok=true→nn+q≤1114111:=fun h=>by rw [hok] at h;exact (of_decide_eq_true h).1
        rw [←hok] at hDL;simp only [←hok] at hpt
        push_cast at hpt
        have HPT:=KZ9 hpt;have HDL2:=KZ9 hDL;clear HDL hDL hD had hbi2 hI hq hr e1 e2 hpt hok;go_wp2_with fail
        all_goals try omega
        refine (HVAL.out _).mono ?_;rintro e w9 ⟨rfl,rfl⟩;go_wp2_with fail
        all_goals try omega
        refine (HTHR.out _).mono ?_;rintro e w8 ⟨rfl,rfl⟩;go_wp2_with fail
        all_goals try omega
        refine (HAD.out _).mono ?_;rintro e w7 ⟨rfl,rfl⟩;go_wp2_with fail
        all_goals try omega
        refine (HPT.out _).mono ?_;rintro e w6 ⟨rfl,rfl⟩;cases ok
        ·have hend:Hid (wR l=none):=KZ9 (by rw [HDL2.out,if_pos rfl]);clear HDL2;go_wp2
         all_goals try omega
         go_ret2;exact ⟨⟨_,_,rfl,.inr ⟨by decide,rfl,hend.out⟩⟩,HNX.out⟩
        have hDL3:=HDL2.out;rw [if_neg (by simp)] at hDL3;have HDL3:=KZ9 hDL3;clear HDL2 hDL3;go_wp2_with fail
        all_goals try omega
        have hNb:=hokb trivial;go_cut [6] (fun ov wx=>wx.ownsRow w.heap.size 3 1 ov (m+1) (zo (yE pts r (nn+q)))∧Below w.heap.size w wx)
        case first =>
         rcases HOWN.out.2 with ⟨hao,hm0⟩ | ⟨g,cap,cur,hao,hgb,hgc,hmc,hcm,hcs,hct⟩
         ·obtain ⟨rfl,rfl⟩:ao=none∧co=0:=by injection hao with h1 _ h2;exact ⟨h1,h2⟩
          have hml:pts.length=m:=HM2.out.symm;obtain rfl:m=0:=hm0;obtain rfl:r=0:=by omega
          have hNil:∀ W,Nums W (.slice none 0 0) (pts.take 0):=fun W=>by rw [List.take_zero];exact Nums.nil W
          have hNil3:∀ W,Nums W (.slice none 0 0) (pts.drop 0):=fun W=>by rw [List.eq_nil_of_length_eq_zero hml];exact Nums.nil W
          have S1:=KZ9 (hNil wr);have S3:=KZ9 (hNil3 wr);clear hao hNil hNil3 hqi hqt hri hrt hmz g1 g5 g6 hmul
          go_region_law (first | (refine yA (by rfl) _ _ (by rfl) wr.heap.size vB _ _ (by rfl) hB _ (by rfl) (pts.drop 0) (by (try go_simp);exact S3.out.below bB) (by simp [List.length_take,List.length_drop];try omega) (by first | exact Nat.le_refl _ | exact bB.size | exact bA.size | (rw [World.size_alloc];exact Nat.le_succ_of_le bA.size) | (simp;done) | (simp;omega)) ?_;intro vC wC hC gC;have bC:Below wr.heap.size wr wC:=Vh bB (Nat.le_refl _) hB gC) | (refine yA (by rfl) _ _ (by rfl) wr.heap.size vA _ _ (by rfl) (by first | exact hA | exact hA.alloc _) _ (by rfl) [nn+q] (by first | exact qF wA nn q _ | exact Pv gA | exact Pu gA) (by simp [List.length_take];try omega) (by first | exact Nat.le_refl _ | exact bB.size | exact bA.size | (rw [World.size_alloc];exact Nat.le_succ_of_le bA.size) | (simp;done) | (simp;omega)) ?_;intro vB wB hB gB;have bB:Below wr.heap.size wr wB:=(by first | (with_reducible exact Vh bA (Nat.le_refl _) hA gB) | (with_reducible exact QI bA (Nat.le_refl _) hA gB))) | (refine yA (by rfl) _ _ (by rfl) wr.heap.size (.slice (some ⟨_,0,none⟩) 0 0) 0 [] (by rfl) (by first | exact kA _ _ | exact kz _ _ _ | exact ky _ _ _) _ (by rfl) (pts.take 0) (by first | exact S1.out.below ((Below.refl _ _).alloc (Nat.le_refl _) _).drew | exact S1.out.below (((Below.refl _ _).alloc (Nat.le_refl _) _).alloc (by simp) _).drew) (by simp [List.length_take];try omega) (by first | exact Nat.le_refl _ | exact bB.size | exact bA.size | (rw [World.size_alloc];exact Nat.le_succ_of_le bA.size) | (simp;done) | (simp;omega)) ?_;intro vA wA hA gA;have bA:Below wr.heap.size wr wA:=(by first | (with_reducible exact QJ gA (Nat.le_refl _)) | (with_reducible exact Vi gA (Nat.le_refl _)) | (with_reducible exact Vi gA (Nat.le_succ _)))))
          ·have hF:wC.ownsRow w.heap.size 3 1 vC (0+1) (zo (yE pts 0 (nn+q))):=by
            have h9:=Go.Joins.ownsRow_le hC HNX.out.size;have e9:([]++List.take 0 pts++[nn+q]++List.drop 0 pts:List Nat)=yE pts 0 (nn+q):=by simp [yE]
            have e8:0+(List.take 0 pts).length+[nn+q].length+(List.drop 0 pts).length=0+1:=by rw [List.length_take,List.length_drop,hml,Nat.min_eq_left (by omega)];simp;try omega
            rw [e9,e8] at h9;exact h9
           have hX:Below w.heap.size w wC:=HNX.out.trans (bC.mono HNX.out.size);clear hA gA bA hB gB bB hC gC bC;go_wp2
           all_goals (go_meet;exact ⟨hF,hX⟩)
          ·have hF:wC.ownsRow w.heap.size 3 1 vC (0+1) (zo (yE pts 0 (nn+q))):=by
            have h9:=Go.Joins.ownsRow_le hC HNX.out.size;have e9:([]++List.take 0 pts++[nn+q]++List.drop 0 pts:List Nat)=yE pts 0 (nn+q):=by simp [yE]
            have e8:0+(List.take 0 pts).length+[nn+q].length+(List.drop 0 pts).length=0+1:=by rw [List.length_take,List.length_drop,hml,Nat.min_eq_left (by omega)];simp;try omega
            rw [e9,e8] at h9;exact h9
           have hX:Below w.heap.size w wC:=HNX.out.trans (bC.mono HNX.out.size);clear hA gA bA hB gB bB hC gC bC;go_wp2
           all_goals (go_meet;exact ⟨hF,hX⟩)
          have hF:wC.ownsRow w.heap.size 3 1 vC (0+1) (zo (yE pts 0 (nn+q))):=by
           have h9:=Go.Joins.ownsRow_le hC HNX.out.size;have e9:([]++List.take 0 pts++[nn+q]++List.drop 0 pts:List Nat)=yE pts 0 (nn+q):=by simp [yE]
           have e8:0+(List.take 0 pts).length+[nn+q].length+(List.drop 0 pts).length=0+1:=by rw [List.length_take,List.length_drop,hml,Nat.min_eq_left (by omega)];simp;try omega
           rw [e9,e8] at h9;exact h9
          have hX:Below w.heap.size w wC:=HNX.out.trans (bC.mono HNX.out.size);clear hA gA bA hB gB bB hC gC bC;go_wp2
          all_goals (go_meet;exact ⟨hF,hX⟩)
         obtain ⟨rfl,rfl⟩:ao=some ⟨g,0,none⟩∧co=cap:=by injection hao with h1 _ h2;exact ⟨h1,h2⟩
         have hNums:Nums wr (.slice (some ⟨g,0,none⟩) m co) pts:=by rw [HM2.out];exact Nums.owned (by rw [←HM2.out];exact HOWN.out)
         have hml:pts.length=m:=HM2.out.symm;have hmI:(m:Int)≤(co:Int):=by omega
         have hrI:(r:Int)≤(m:Int):=by omega
         have hrI2:(r:Int)≤(co:Int):=by omega
         have hr0:(0:Int)≤(r:Int):=by omega
         have hcI:(co:Int)≤9223372036854775807:=by unfold maxLen at hcm;omega
         have S1:=KZ9 (hNums.head r (by omega) hmc hcm);have S3:=KZ9 (hNums.tail2 hml r (by omega) hmc hcm);clear hao hct hgc hcs hNums hqi hqt hri hrt hmz g1 g5 g6 hmul
         go_region_law (first | (refine yA (by rfl) _ _ (by rfl) wr.heap.size vB _ _ (by rfl) hB _ (by rfl) (pts.drop r) (by (try go_simp);exact S3.out.below bB) (by simp [List.length_take,List.length_drop];try omega) (by first | exact Nat.le_refl _ | exact bB.size | exact bA.size | (rw [World.size_alloc];exact Nat.le_succ_of_le bA.size) | (simp;done) | (simp;omega)) ?_;intro vC wC hC gC;have bC:Below wr.heap.size wr wC:=Vh bB (Nat.le_refl _) hB gC) | (refine yA (by rfl) _ _ (by rfl) wr.heap.size vA _ _ (by rfl) (by first | exact hA | exact hA.alloc _) _ (by rfl) [nn+q] (by first | exact qF wA nn q _ | exact Pv gA | exact Pu gA) (by simp [List.length_take];try omega) (by first | exact Nat.le_refl _ | exact bB.size | exact bA.size | (rw [World.size_alloc];exact Nat.le_succ_of_le bA.size) | (simp;done) | (simp;omega)) ?_;intro vB wB hB gB;have bB:Below wr.heap.size wr wB:=(by first | (with_reducible exact Vh bA (Nat.le_refl _) hA gB) | (with_reducible exact QI bA (Nat.le_refl _) hA gB))) | (refine yA (by rfl) _ _ (by rfl) wr.heap.size (.slice (some ⟨_,0,none⟩) 0 0) 0 [] (by rfl) (by first | exact kA _ _ | exact kz _ _ _ | exact ky _ _ _) _ (by rfl) (pts.take r) (by first | exact S1.out.below ((Below.refl _ _).alloc (Nat.le_refl _) _).drew | exact S1.out.below (((Below.refl _ _).alloc (Nat.le_refl _) _).alloc (by simp) _).drew) (by simp [List.length_take];try omega) (by first | exact Nat.le_refl _ | exact bB.size | exact bA.size | (rw [World.size_alloc];exact Nat.le_succ_of_le bA.size) | (simp;done) | (simp;omega)) ?_;intro vA wA hA gA;have bA:Below wr.heap.size wr wA:=(by first | (with_reducible exact QJ gA (Nat.le_refl _)) | (with_reducible exact Vi gA (Nat.le_refl _)) | (with_reducible exact Vi gA (Nat.le_succ _)))))
         ·have hF:wC.ownsRow w.heap.size 3 1 vC (m+1) (zo (yE pts r (nn+q))):=by
           have h9:=Go.Joins.ownsRow_le hC HNX.out.size;have e9:([]++List.take r pts++[nn+q]++List.drop r pts:List Nat)=yE pts r (nn+q):=by simp [yE]
           have e8:0+(List.take r pts).length+[nn+q].length+(List.drop r pts).length=m+1:=by rw [List.length_take,List.length_drop,hml,Nat.min_eq_left (by omega)];simp;try omega
           rw [e9,e8] at h9;exact h9
          have hX:Below w.heap.size w wC:=HNX.out.trans (bC.mono HNX.out.size);clear hA gA bA hB gB bB hC gC bC;go_wp2
          all_goals (go_meet;exact ⟨hF,hX⟩)
         ·have hF:wC.ownsRow w.heap.size 3 1 vC (m+1) (zo (yE pts r (nn+q))):=by
           have h9:=Go.Joins.ownsRow_le hC HNX.out.size;have e9:([]++List.take r pts++[nn+q]++List.drop r pts:List Nat)=yE pts r (nn+q):=by simp [yE]
           have e8:0+(List.take r pts).length+[nn+q].length+(List.drop r pts).length=m+1:=by rw [List.length_take,List.length_drop,hml,Nat.min_eq_left (by omega)];simp;try omega
           rw [e9,e8] at h9;exact h9
          have hX:Below w.heap.size w wC:=HNX.out.trans (bC.mono HNX.out.size);clear hA gA bA hB gB bB hC gC bC;go_wp2
          all_goals (go_meet;exact ⟨hF,hX⟩)
         have hF:wC.ownsRow w.heap.size 3 1 vC (m+1) (zo (yE pts r (nn+q))):=by
          have h9:=Go.Joins.ownsRow_le hC HNX.out.size;have e9:([]++List.take r pts++[nn+q]++List.drop r pts:List Nat)=yE pts r (nn+q):=by simp [yE]
          have e8:0+(List.take r pts).length+[nn+q].length+(List.drop r pts).length=m+1:=by rw [List.length_take,List.length_drop,hml,Nat.min_eq_left (by omega)];simp;try omega
          rw [e9,e8] at h9;exact h9
         have hX:Below w.heap.size w wC:=HNX.out.trans (bC.mono HNX.out.size);clear hA gA bA hB gB bB hC gC bC;go_wp2
         all_goals (go_meet;exact ⟨hF,hX⟩)
        case rest =>
        obtain ⟨hF,hX⟩:=hcut;have HF:=KZ9 hF;have HX:=KZ9 hX;obtain ⟨aC,cC,rfl⟩:=yk hF;clear hF hX HNX HOWN hqi hqt hri hrt hmz g1 g5 g6 hmul;by_cases h256:256<m+1
        ·have hend:Hid (wR l=none):=KZ9 (by rw [HDL3.out,if_pos h256]);have g8:decide ((256:Int)<(m:Int)+1)=true:=KZ7 (by omega);clear HDL3;go_wp2
         all_goals try omega
         go_ret2;exact ⟨⟨_,_,rfl,.inr ⟨by decide,rfl,hend.out⟩⟩,HX.out⟩
        have hDL4:=HDL3.out;rw [if_neg h256] at hDL4;have HDL4:=KZ9 hDL4;have g8:decide ((256:Int)<(m:Int)+1)=false:=KZ8 (by omega);clear HDL3 hDL4;go_wp2
        all_goals try omega
        go_roundw
        case rel =>
         exact ⟨yE pts r (nn+q),a2+1,nn+q,r+1,bi2,false,by go_num,by go_num,by go_num,rfl,rfl,by omega,by omega,by omega,by omega,by rw [xZ,←HM2.out];omega,by rw [xZ,←HM2.out];exact HF.out,HDL4,HX.out⟩
        case measure=>simp [intOf];omega
       have g6:decide ((x:Int)<(t:Int))=false:=KZ8 (by omega);obtain ⟨Z,hZ⟩:=KZ6 (w2*(36 - t));have hZb:Z≤39582418599936:=by
        rw [hZ];exact Nat.le_trans (Nat.mul_le_mul hw2 (show 36 - t≤36 by omega)) (by decide)
       have hzm:(w2:Int)*(36 - (t:Int))=(Z:Int):=by rw [hZ,show (36:Int) - (t:Int)=((36 - t:Nat):Int) by omega];rfl
       by_cases hzw:1099511627776<Z
       ·have g7:decide ((1099511627776:Int)<(Z:Int))=true:=KZ7 (by omega);have hnone:=HNUM.out.trans (du H99.out hfar2 (by rw [←ht,←HX.out];exact hxt) (by rw [←ht,←hZ];exact hzw));have hend:Hid (wR l=none):=KZ9 (by rw [hst.out,tf (by rw [Ne,List.drop_eq_nil_iff,HLEN.out,←HN.out];omega) hnone]);clear HNUM hst hnone ht hfar2 H99 HX HM hZ;go_wp2_with fail
        all_goals try omega
        refine (HVAL.out _).mono ?_;rintro e w9 ⟨rfl,rfl⟩;go_wp2_with fail
        all_goals try omega
        refine (HTHR.out _).mono ?_;rintro e w8 ⟨rfl,rfl⟩;go_wp2
        all_goals try omega
        go_ret2;exact ⟨⟨_,_,rfl,.inr ⟨by decide,rfl,hend.out⟩⟩,HNX.out⟩
       have g7:decide ((1099511627776:Int)<(Z:Int))=false:=KZ8 (by omega);have hmore:=HNUM.out.trans (dw H99.out hfar2 (by rw [←ht,←HX.out];exact hxt) (by rw [←ht,←hZ];exact hzw));rw [HM.out,←ht,←hZ] at hmore;have HMORE:=KZ9 hmore;clear HNUM hmore ht hfar2 H99 HX HM hZ;go_wp2_with fail
       all_goals try omega
       refine (HVAL.out _).mono ?_;rintro e w9 ⟨rfl,rfl⟩;go_wp2_with fail
       all_goals try omega
       refine (HTHR.out _).mono ?_;rintro e w8 ⟨rfl,rfl⟩;go_wp2
       all_goals try omega
       go_round
       case rel=>exact ⟨a2+1,i2+M,Z,k2+1,by go_num,by go_num,by go_num,by go_num,by omega,by omega,by omega,by omega,by omega,by omega,HMORE⟩
       case measure=>simp [intOf];omega
      have hnone:wE (l.drop at_) ii 1 0 bi=none:=by rw [hnum.out,List.drop_of_length_le (by rw [HLEN.out,←HN.out];omega),T6]
      have hend:Hid (wR l=none):=KZ9 (by rw [hst.out,tf (by rw [Ne,List.drop_eq_nil_iff,HLEN.out,←HN.out];omega) hnone]);clear hst hnone hnum;go_wp2
      all_goals try omega
      go_ret2;exact ⟨⟨_,_,rfl,.inr ⟨by decide,rfl,hend.out⟩⟩,HNX.out⟩
    have hend:Hid (wR l=some pts):=KZ9 (by rw [hst.out,List.drop_of_length_le (by rw [HLEN.out,←HN.out];omega),YD]);obtain ⟨ao,co,rfl⟩:=yk hown;clear hst;go_wp2
    all_goals try omega
    go_ret2;exact ⟨⟨_,_,rfl,.inl ⟨rfl,pts,hend.out,hown⟩⟩,hnx⟩
end Go.Proofs.YtbnnlkdhpifpeaaGreatDoor
namespace Hs
open Go Go.RowKit
theorem vm (l:List Nat) (f:Nat→Bool) (k:Nat) (h:k<l.length):(l.take (k+1)).any f=((l.take k).any f||f l[k]):=by
 rw [List.take_succ_eq_append_getElem h,List.any_append];simp
theorem rD (l:List Nat) (f:Nat→Bool) (k:Nat) (h:k<l.length) (hf:f l[k]=true):l.any f=true :=
 List.any_eq_true.2 ⟨l[k],List.getElem_mem h,hf⟩
theorem qw {l:Bs} (h:wR l=none):ut l=false:=by unfold ut;rw [h]
theorem qu {l:Bs} {p:List Nat} (h:wR l=some p):ut l=(!(p.any (fun n=>decide (65≤n∧n≤90)))&&p.any (fun n=>decide (128≤n))&&decide (se p=some l)):=by unfold ut;rw [h]
end Hs
namespace Go.Proofs.YtbnnlkdhpifpeaaGreatDoor
open Go.RowKit Hs
set_option maxRecDepth 20000
set_option maxHeartbeats 4000000
theorem Xm (s:ByteArray) (w:World) (hs:s.size≤100000000):Calls Tryz.prog 29 #[.string s] w fun e w'=>e= .returned (.bool (ut (un s)))∧Below w.heap.size w w':=by
 have hdec:=Xo s w hs;have HDEC:=KZ9 hdec;clear hdec;go_enter Tryz.func29,Tryz.ntmps29
 go_wp2_with fail
 refine HDEC.out.mono ?_;rintro e w2 ⟨⟨v,c,rfl,hres⟩,hb2⟩;have HB2:=KZ9 hb2;clear hb2 HDEC;rcases hres with ⟨rfl,pts,hdv,hown⟩ | ⟨hc,rfl,hnone⟩
 ·have hok:=Vp hdv;have hP:=qu hdv;have hbig:∀ p∈pts,p≤1152921504606846976:=fun p hp=>by have:=uF pts hok.1 p hp;omega
  have hN:=Nums.owned hown;have henc:=Xn v pts w2 hN (by omega) hbig;have HP:=KZ9 hP;obtain ⟨a,cp,rfl,hn1,hn2,hcell⟩:=hN.open;have hlen:pts.length≤256:=hok.2;have HCELL:=KZ9 hcell;obtain ⟨m,hm⟩:=KZ6 pts.length;rw [←hm] at hlen hn1 henc ⊢;have HM:=KZ9 hm;have HENC:=KZ9 henc;clear hdv hP hbig hok hown hN henc hcell hm;go_wp2
  all_goals try omega
  go_loop [5,6] (fun ov iv=>∃ (k:Nat) (b:Bool),iv= .int .i64 k∧ov= .bool b∧k≤m∧Hid (b=(pts.take k).any (fun n=>decide (128≤n)))∧Hid ((pts.take k).any (fun n=>decide (65≤n∧n≤90))=false)) (fun _ iv=>m - (intOf iv).toNat)
  case atStart=>exact ⟨0,false,rfl,rfl,by omega,KZ9 rfl,KZ9 rfl⟩
  case round =>
   obtain ⟨k,b,rfl,rfl,hk,hb,hu⟩:=hrel;by_cases hlt:k<m
   ·have hkl:k<pts.length:=by rw [←HM.out];exact hlt
    obtain ⟨B,off,rfl,hB,hcell⟩:=HCELL.out (by omega);have c0:=hcell k hkl;have hb2:=vm pts (fun n=>decide (128≤n)) k hkl;have hu2:=vm pts (fun n=>decide (65≤n∧n≤90)) k hkl;have ht2:=rD pts (fun n=>decide (65≤n∧n≤90)) k hkl;rw [←hb.out] at hb2;rw [hu.out,Bool.false_or] at hu2;obtain ⟨x,hx⟩:=KZ6 (pts[k]);rw [←hx] at c0 hb2 hu2 ht2;have HB:=KZ9 hb2;have HU:=KZ9 hu2;have HT:=KZ9 ht2;clear hcell hx hb2 hu2 ht2 hb hu hkl;by_cases hup:65≤x∧x≤90
    ·have hfin:=KZ9 (HP.out.trans (by rw [HT.out (KZ7 hup)]));have g1:decide ((65:Int)≤(x:Int))=true:=KZ7 (by omega);have g2:decide ((x:Int)≤90)=true:=KZ7 (by omega);have g3:decide ((128:Int)≤(x:Int))=false:=KZ8 (by omega);clear HP HU HT HENC;cases b
     all_goals
      go_wp2
      all_goals try omega
      go_ret;rw [hfin.out];exact ⟨rfl,HB2.out⟩
    have hu3:Hid ((pts.take (k+1)).any (fun n=>decide (65≤n∧n≤90))=false):=KZ9 (HU.out.trans (KZ8 hup));clear HU HT;have hsplit:x<65∨(90<x∧x<128)∨128≤x:=by omega
    rcases hsplit with h1 | ⟨h1,h2⟩ | h1
    ·have g1:decide ((65:Int)≤(x:Int))=false:=KZ8 (by omega);have g3:decide ((128:Int)≤(x:Int))=false:=KZ8 (by omega);have hB3:=HB.out;rw [show decide (128≤x)=false from KZ8 (by omega),Bool.or_false] at hB3;have HB3:=KZ9 hB3;clear hB3 HB;cases b
     all_goals
      go_wp2
      all_goals try omega
      go_round
      case rel=>exact ⟨k+1,_,by go_num,rfl,by omega,KZ9 HB3.out.symm,hu3⟩
      case measure=>simp [intOf];omega
    ·have g1:decide ((65:Int)≤(x:Int))=true:=KZ7 (by omega);have g2:decide ((x:Int)≤90)=false:=KZ8 (by omega);have g3:decide ((128:Int)≤(x:Int))=false:=KZ8 (by omega);have hB3:=HB.out;rw [show decide (128≤x)=false from KZ8 (by omega),Bool.or_false] at hB3;have HB3:=KZ9 hB3;clear hB3 HB;cases b
     all_goals
      go_wp2
      all_goals try omega
      go_round
      case rel=>exact ⟨k+1,_,by go_num,rfl,by omega,KZ9 HB3.out.symm,hu3⟩
      case measure=>simp [intOf];omega
    have g1:decide ((65:Int)≤(x:Int))=true:=KZ7 (by omega);have g2:decide ((x:Int)≤90)=false:=KZ8 (by omega);have g3:decide ((128:Int)≤(x:Int))=true:=KZ7 (by omega);have hB3:=HB.out;rw [show decide (128≤x)=true from KZ7 (by omega),Bool.or_true] at hB3;have HB3:=KZ9 hB3;clear hB3 HB;cases b
    all_goals
     go_wp2
     all_goals try omega
     go_round
     case rel=>exact ⟨k+1,true,by go_num,rfl,by omega,KZ9 HB3.out.symm,hu3⟩
     case measure=>simp [intOf];omega
   have hkm:pts.take k=pts:=List.take_of_length_le (by rw [←HM.out];omega);have hb2:=hb.out;have hu2:=hu.out;rw [hkm] at hb2 hu2;have hP2:=HP.out;rw [hu2,←hb2,Bool.not_false,Bool.true_and] at hP2;have HP2:=KZ9 hP2;clear HP hb hu hb2 hu2 hP2 hkm;go_wp2_with fail
   all_goals try omega
   refine HENC.out.mono ?_;rintro e w3 ⟨⟨s3,c3,rfl,hres⟩,hb3⟩;have HB3:=KZ9 (HB2.out.trans (hb3.mono HB2.out.size));clear hb3 HENC;rcases hres with ⟨rfl,henc⟩ | ⟨hc3,rfl,henc⟩
   ·have hP3:=HP2.out;rw [henc] at hP3;have HP3:=KZ9 hP3;clear HP2 hP3 henc;by_cases he:un s3=un s
    ·have hq:(s3.toList==s.toList)=true:=by rw [zy,zy,he];simp
     have hF:=HP3.out;rw [he,KZ7 rfl,Bool.and_true] at hF;have HF:=KZ9 hF;clear HP3 hF he;cases b
     all_goals
      go_wp2
      all_goals try omega
      go_ret;rw [HF.out];exact ⟨rfl,HB3.out⟩
    have hq:(s3.toList==s.toList)=false:=by rw [zy,zy];simpa using he
    have hF:=HP3.out;rw [KZ8 (by intro h;exact he (Option.some.inj h)),Bool.and_false] at hF;have HF:=KZ9 hF;clear HP3 hF he;cases b
    all_goals
     go_wp2
     all_goals try omega
     go_ret;rw [HF.out];exact ⟨rfl,HB3.out⟩
   have hP3:=HP2.out;rw [henc] at hP3;have g4:(c3==0)=false:=by simpa using hc3
   have HP3:=KZ9 hP3;clear HP2 hP3 henc hc3;go_wp2
   all_goals try omega
   go_ret;rw [HP3.out];exact ⟨by simp,HB3.out⟩
 have hcb:(c != 0)=true:=by simpa using hc
 have hP:=KZ9 (qw hnone);clear hc hnone;go_wp2
 all_goals try omega
 go_ret;rw [hP.out];exact ⟨rfl,HB2.out⟩
end Go.Proofs.YtbnnlkdhpifpeaaGreatDoor
namespace Hs
open Go Go.RowKit
theorem qK {l:Bs} (h:¬ (1≤l.length∧l.length≤63∧l.head? ≠some 45∧l.getLast? ≠some 45)):zY l=false:=by unfold zY;rw [KZ8 h];rfl
theorem pY {l:Bs} (h:1≤l.length∧l.length≤63∧l.head? ≠some 45∧l.getLast? ≠some 45):zY l=(l.all t8&&(!(decide (l.take 4=[120,110,45,45]))||ut (l.drop 4))):=by unfold zY;rw [KZ7 h,Bool.true_and]
theorem rF (l:Bs) (f:UInt8→Bool) (k:Nat) (h:k<l.length):(l.drop k).all f=(f l[k]&&(l.drop (k+1)).all f):=by
 rw [List.drop_eq_getElem_cons h,List.all_cons]
theorem Vf (s:ByteArray) (h:0<s.size):(un s).head? =some s[0]:=by
 rw [List.head?_eq_getElem?,List.getElem?_eq_getElem (by simpa using h),zR s 0 h]
theorem WZ (s:ByteArray) (h:0<s.size):(un s).getLast? =some (s[s.size - 1]'(by omega)):=by
 rw [List.getLast?_eq_getElem?,za,List.getElem?_eq_getElem (by rw [za];omega),zR s (s.size - 1) (by omega)]
theorem RR {b:UInt8} (h:b.toNat≠45):b≠45:=fun e=>h (by rw [e];rfl)
theorem Qk {b:UInt8} (h:b.toNat=45):b=45:=UInt8.toNat_inj.1 h
end Hs
namespace Go.Proofs.YtbnnlkdhpifpeaaGreatDoor
open Go.RowKit Hs
set_option maxRecDepth 20000
set_option maxHeartbeats 4000000
theorem V8 (s:ByteArray) (w:World) (hs:s.size≤100000000):Calls Tryz.prog 15 #[.string s] w fun e w'=>e= .returned (.bool (zY (un s)))∧Below w.heap.size w w':=by
 have hlen:(un s).length=s.size:=za s;have hF:=@qK (un s);have hG:=@pY (un s);rcases Nat.eq_zero_or_pos s.size with h0 | hpos
 ·have hfin:=KZ9 (hF (by rw [hlen];omega));have hsE:s=⟨#[]⟩:=by
   apply pi;exact List.eq_nil_of_length_eq_zero (by omega)
  subst hsE;clear hF hG hlen h0 hs;go_enter Tryz.func15,Tryz.ntmps15
  go_wp2
  all_goals try omega
  go_ret;rw [hfin.out];exact ⟨rfl,Below.refl _ _⟩
 have hh:=Vf s hpos;have hl:=WZ s hpos;rw [hh,hl,hlen] at hF hG;obtain ⟨n,hn⟩:=KZ6 s.size;have hem:s.toList.isEmpty=false:=by
  rw [List.isEmpty_eq_false_iff,zy];intro h;rw [h] at hlen;simp at hlen;omega
 have hp1:s.size - 1<s.size:=by omega
 have hF63:=KZ9 (fun h:63<s.size=>hF (by omega));have hF0:=KZ9 (fun h:s[0].toNat=45=>hF (by rw [Qk h];simp));have hFz:=KZ9 (fun h:(s[s.size - 1]'hp1).toNat=45=>hF (by rw [Qk h];simp));have hGG:=KZ9 (fun (h1:¬ 63<s.size) (h2:s[0].toNat≠45) (h3:(s[s.size - 1]'hp1).toNat≠45)=>hG ⟨by omega,by omega,by simpa using RR h2,by simpa using RR h3⟩);clear hF hG hh hl;go_enter Tryz.func15,Tryz.ntmps15
 by_cases h63:63<s.size
 ·have hfin:=KZ9 (hF63.out h63);clear hF63 hF0 hFz hGG;go_wp2
  all_goals try omega
  go_ret;rw [hfin.out];exact ⟨rfl,Below.refl _ _⟩
 have g0:decide ((63:Int)<(s.size:Int))=false:=KZ8 (by omega);by_cases hA:s[0].toNat=45
 ·have hfin:=KZ9 (hF0.out hA);have c0:(s[0].toNat:Int)=45:=by omega
  clear hF63 hF0 hFz hGG hA;go_wp2
  all_goals try omega
  go_ret;rw [hfin.out];exact ⟨rfl,Below.refl _ _⟩
 by_cases hZ:(s[s.size - 1]'hp1).toNat=45
 ·have hfin:=KZ9 (hFz.out hZ);have g1:((s[0].toNat:Int)==45)=false:=by simp;omega
  have c1:((s[s.size - 1]'hp1).toNat:Int)=45:=by omega
  clear hF63 hF0 hFz hGG hA hZ;go_wp2
  all_goals try omega
  go_ret;rw [hfin.out];exact ⟨rfl,Below.refl _ _⟩
 have hdef:=hGG.out h63 hA hZ;have g1:((s[0].toNat:Int)==45)=false:=by simp;omega
 have g2:(((s[s.size - 1]'hp1).toNat:Int)==45)=false:=by simp;omega
 obtain ⟨l,hl⟩:=KZ6 (un s);rw [←hl] at hdef hlen ⊢;have HL:=KZ9 hl;have HDEF:=KZ9 hdef;have HLEN:=KZ9 hlen;clear hF63 hF0 hFz hGG hA hZ hdef hl hlen;go_wp2
 all_goals try omega
 clear g1 g2 g0;go_loop [3] (fun iv=>∃ k:Nat,iv= .int .i64 k∧k≤s.size∧Hid (l.all t8=(l.drop k).all t8)) (fun iv=>s.size - (intOf iv).toNat)
 case atStart=>exact ⟨0,rfl,by omega,KZ9 (by rw [List.drop_zero])⟩
 case round =>
  obtain ⟨k,rfl,hk,hall⟩:=hrel;by_cases hlt:k<s.size
  ·have hkl:k<l.length:=by rw [HLEN.out];exact hlt
   have hx:l[k]=s[k]:=by
    have:=HL.out;subst this;exact zR s k hlt
   have hstep:=rF l t8 k hkl;rw [hx] at hstep;have hb256:=(s[k]).toNat_lt;have hlab:t8 s[k]=decide ((97≤(s[k]).toNat∧(s[k]).toNat≤122)∨(48≤(s[k]).toNat∧(s[k]).toNat≤57)∨(s[k]).toNat=45∨(s[k]).toNat=95):=rfl;obtain ⟨x,hx2⟩:=KZ6 ((s[k]).toNat);have cs:(s[k].toNat:Int)=(x:Int):=by rw [hx2]
   rw [←hx2] at hb256 hlab;rw [hlab] at hstep;have HST:=KZ9 hstep;clear hstep hlab hx hx2 hkl;by_cases hok:(97≤x∧x≤122)∨(48≤x∧x≤57)∨x=45∨x=95
   ·have hall2:Hid (l.all t8=(l.drop (k+1)).all t8):=KZ9 (by rw [hall.out,HST.out,KZ7 hok,Bool.true_and]);clear hall HST;rcases hok with hok | hok | rfl | rfl
    all_goals
     go_wp2
     all_goals try omega
     go_round
     case rel=>exact ⟨k+1,by go_num,by omega,hall2⟩
     case measure=>simp [intOf];omega
   have hfin:Hid (zY l=false):=KZ9 (by rw [HDEF.out,hall.out,HST.out,KZ8 hok];rfl);have g45:((x:Int)==45)=false:=by simp;omega
   have g95:((x:Int)==95)=false:=by simp;omega
   clear hall HST HDEF;go_wp2
   all_goals try omega
   all_goals
    go_ret;rw [hfin.out];exact ⟨rfl,Below.refl _ _⟩
  have hall2:l.all t8=true:=by rw [hall.out,List.drop_of_length_le (by rw [HLEN.out];omega)];rfl
  have hdef2:=HDEF.out;rw [hall2,Bool.true_and] at hdef2;have HDEF2:=KZ9 hdef2;clear hdef2 hall2 hall HDEF;by_cases h4:s.size<4
  ·have hne:¬ l.take 4=[120,110,45,45]:=by
    intro h;have:=congrArg List.length h;rw [List.length_take,HLEN.out] at this;simp at this;omega
   have hfin:=HDEF2.out;rw [KZ8 hne,Bool.not_false,Bool.true_or] at hfin;have HFIN:=KZ9 hfin;clear HDEF2 hfin hne;have g4:decide ((s.size:Int)<4)=true:=KZ7 (by omega);go_wp2
   all_goals try omega
   go_ret;rw [HFIN.out];exact ⟨rfl,Below.refl _ _⟩
  have g4:decide ((s.size:Int)<4)=false:=KZ8 (by omega);have h4I:(4:Int)≤(s.size:Int):=by omega
  have hx4:un (s.extract 0 4)=l.take 4:=by rw [xj,HL.out];simp
  have hxr:un (s.extract 4 s.size)=l.drop 4:=by
   rw [xj,HL.out];apply List.take_of_length_le;rw [List.length_drop,za];exact Nat.le_refl _
  have hpr:=Xm (s.extract 4 s.size) w (by have:=congrArg List.length hxr;rw [za,List.length_drop,HLEN.out] at this;omega);rw [hxr] at hpr;have HPR:=KZ9 hpr;obtain ⟨x4,hx⟩:=KZ6 (s.extract 0 4);rw [←hx] at hx4;have hx':s.extract 0 4=x4:=hx.symm;clear hpr hx;by_cases hp:l.take 4=[120,110,45,45]
  ·have hq:(x4.toList==[120,110,45,45])=true:=by rw [zy,hx4,hp];rfl
   have hq2:(x4.toList != [120,110,45,45])=false:=by rw [bne,hq];rfl
   have hfin:=HDEF2.out;rw [KZ7 hp,Bool.not_true,Bool.false_or] at hfin;have HFIN:=KZ9 hfin;clear HDEF2 hfin hp hx4 hxr;go_wp2_with fail
   all_goals try omega
   refine HPR.out.mono ?_;rintro e w9 ⟨rfl,hb9⟩;go_wp2
   all_goals try omega
   go_ret;rw [HFIN.out];exact ⟨rfl,hb9⟩
  have hq:(x4.toList==[120,110,45,45])=false:=by
   rw [zy,hx4]
   simpa using hp
  have hq2:(x4.toList != [120,110,45,45])=true:=by rw [bne,hq];rfl
  have hfin:=HDEF2.out;rw [KZ8 hp,Bool.not_false,Bool.true_or] at hfin;have HFIN:=KZ9 hfin;clear HDEF2 hfin hp hx4 hxr;go_wp2
  all_goals try omega
  go_ret;rw [HFIN.out];exact ⟨rfl,Below.refl _ _⟩
end Go.Proofs.YtbnnlkdhpifpeaaGreatDoor
namespace Hs
open Go Go.RowKit
def BlkL (w:World) (g:Nat) (T:TypeId) (l:List Value):Prop:=w.heap[g]? =some (.cells l.toArray T (0,0))
variable {w w' : World} {g : Nat} {T : TypeId} {l : List Value}
theorem BlkL.lt (h:BlkL w g T l):g<w.heap.size:=(Array.getElem?_eq_some_iff.1 h).1
theorem BlkL.c (h:BlkL w g T l) (k:Nat) (v:Value) (hk:l[k]? =some v):w.cell? ⟨g,k,none⟩=some v:=by
 unfold BlkL at h;simp [World.cell?,h,hk]
theorem BlkL.cs3 {w:World} {g:Nat} {T:TypeId} {v0 v1 v2:Value} {r:List Value} (h:BlkL w g T (v0::v1::v2::r)):w.cell? ⟨g,0,none⟩=some v0∧w.cell? ⟨g,1,none⟩=some v1∧w.cell? ⟨g,2,none⟩=some v2:=⟨h.c 0 _ rfl,h.c 1 _ rfl,h.c 2 _ rfl⟩
theorem BlkL.fs3 {α:Type} {f:α→World} {g:Nat} {T:TypeId} {v0 v1 v2:Value} {r:List Value} (h:∀ x,BlkL (f x) g T (v0::v1::v2::r)):(∀ x,(f x).cell? ⟨g,0,none⟩=some v0)∧(∀ x,(f x).cell? ⟨g,1,none⟩=some v1)∧(∀ x,(f x).cell? ⟨g,2,none⟩=some v2):=⟨fun x=>(h x).c 0 _ rfl,fun x=>(h x).c 1 _ rfl,fun x=>(h x).c 2 _ rfl⟩
theorem BlkL.cs4 {w:World} {g:Nat} {T:TypeId} {v0 v1 v2 v3:Value} {r:List Value} (h:BlkL w g T (v0::v1::v2::v3::r)):w.cell? ⟨g,0,none⟩=some v0∧w.cell? ⟨g,1,none⟩=some v1∧w.cell? ⟨g,2,none⟩=some v2∧w.cell? ⟨g,3,none⟩=some v3:=⟨h.c 0 _ rfl,h.c 1 _ rfl,h.c 2 _ rfl,h.c 3 _ rfl⟩
theorem BlkL.cs5 {w:World} {g:Nat} {T:TypeId} {v0 v1 v2 v3 v4:Value} {r:List Value} (h:BlkL w g T (v0::v1::v2::v3::v4::r)):w.cell? ⟨g,0,none⟩=some v0∧w.cell? ⟨g,1,none⟩=some v1∧w.cell? ⟨g,2,none⟩=some v2∧w.cell? ⟨g,3,none⟩=some v3∧w.cell? ⟨g,4,none⟩=some v4:=⟨h.c 0 _ rfl,h.c 1 _ rfl,h.c 2 _ rfl,h.c 3 _ rfl,h.c 4 _ rfl⟩
theorem BlkL.fs5 {α:Type} {f:α→World} {g:Nat} {T:TypeId} {v0 v1 v2 v3 v4:Value} {r:List Value} (h:∀ x,BlkL (f x) g T (v0::v1::v2::v3::v4::r)):(∀ x,(f x).cell? ⟨g,0,none⟩=some v0)∧(∀ x,(f x).cell? ⟨g,1,none⟩=some v1)∧(∀ x,(f x).cell? ⟨g,2,none⟩=some v2)∧(∀ x,(f x).cell? ⟨g,3,none⟩=some v3)∧(∀ x,(f x).cell? ⟨g,4,none⟩=some v4):=⟨fun x=>(h x).c 0 _ rfl,fun x=>(h x).c 1 _ rfl,fun x=>(h x).c 2 _ rfl,fun x=>(h x).c 3 _ rfl,fun x=>(h x).c 4 _ rfl⟩
theorem BlkL.cs6 {w:World} {g:Nat} {T:TypeId} {v0 v1 v2 v3 v4 v5:Value} {r:List Value} (h:BlkL w g T (v0::v1::v2::v3::v4::v5::r)):w.cell? ⟨g,0,none⟩=some v0∧w.cell? ⟨g,1,none⟩=some v1∧w.cell? ⟨g,2,none⟩=some v2∧w.cell? ⟨g,3,none⟩=some v3∧w.cell? ⟨g,4,none⟩=some v4∧w.cell? ⟨g,5,none⟩=some v5:=⟨h.c 0 _ rfl,h.c 1 _ rfl,h.c 2 _ rfl,h.c 3 _ rfl,h.c 4 _ rfl,h.c 5 _ rfl⟩
theorem BlkL.cs8 {w:World} {g:Nat} {T:TypeId} {v0 v1 v2 v3 v4 v5 v6 v7:Value} {r:List Value} (h:BlkL w g T (v0::v1::v2::v3::v4::v5::v6::v7::r)):w.cell? ⟨g,0,none⟩=some v0∧w.cell? ⟨g,1,none⟩=some v1∧w.cell? ⟨g,2,none⟩=some v2∧w.cell? ⟨g,3,none⟩=some v3∧w.cell? ⟨g,4,none⟩=some v4∧w.cell? ⟨g,5,none⟩=some v5∧w.cell? ⟨g,6,none⟩=some v6∧w.cell? ⟨g,7,none⟩=some v7:=⟨h.c 0 _ rfl,h.c 1 _ rfl,h.c 2 _ rfl,h.c 3 _ rfl,h.c 4 _ rfl,h.c 5 _ rfl,h.c 6 _ rfl,h.c 7 _ rfl⟩
theorem BlkL.cs9 {w:World} {g:Nat} {T:TypeId} {v0 v1 v2 v3 v4 v5 v6 v7 v8:Value} {r:List Value} (h:BlkL w g T (v0::v1::v2::v3::v4::v5::v6::v7::v8::r)):w.cell? ⟨g,0,none⟩=some v0∧w.cell? ⟨g,1,none⟩=some v1∧w.cell? ⟨g,2,none⟩=some v2∧w.cell? ⟨g,3,none⟩=some v3∧w.cell? ⟨g,4,none⟩=some v4∧w.cell? ⟨g,5,none⟩=some v5∧w.cell? ⟨g,6,none⟩=some v6∧w.cell? ⟨g,7,none⟩=some v7∧w.cell? ⟨g,8,none⟩=some v8:=⟨h.c 0 _ rfl,h.c 1 _ rfl,h.c 2 _ rfl,h.c 3 _ rfl,h.c 4 _ rfl,h.c 5 _ rfl,h.c 6 _ rfl,h.c 7 _ rfl,h.c 8 _ rfl⟩
theorem BlkL.cs11 {w:World} {g:Nat} {T:TypeId} {v0 v1 v2 v3 v4 v5 v6 v7 v8 v9 v10:Value} {r:List Value} (h:BlkL w g T (v0::v1::v2::v3::v4::v5::v6::v7::v8::v9::v10::r)):w.cell? ⟨g,0,none⟩=some v0∧w.cell? ⟨g,1,none⟩=some v1∧w.cell? ⟨g,2,none⟩=some v2∧w.cell? ⟨g,3,none⟩=some v3∧w.cell? ⟨g,4,none⟩=some v4∧w.cell? ⟨g,5,none⟩=some v5∧w.cell? ⟨g,6,none⟩=some v6∧w.cell? ⟨g,7,none⟩=some v7∧w.cell? ⟨g,8,none⟩=some v8∧w.cell? ⟨g,9,none⟩=some v9∧w.cell? ⟨g,10,none⟩=some v10:=⟨h.c 0 _ rfl,h.c 1 _ rfl,h.c 2 _ rfl,h.c 3 _ rfl,h.c 4 _ rfl,h.c 5 _ rfl,h.c 6 _ rfl,h.c 7 _ rfl,h.c 8 _ rfl,h.c 9 _ rfl,h.c 10 _ rfl⟩
theorem BlkL.fs11 {α:Type} {f:α→World} {g:Nat} {T:TypeId} {v0 v1 v2 v3 v4 v5 v6 v7 v8 v9 v10:Value} {r:List Value} (h:∀ x,BlkL (f x) g T (v0::v1::v2::v3::v4::v5::v6::v7::v8::v9::v10::r)):(∀ x,(f x).cell? ⟨g,0,none⟩=some v0)∧(∀ x,(f x).cell? ⟨g,1,none⟩=some v1)∧(∀ x,(f x).cell? ⟨g,2,none⟩=some v2)∧(∀ x,(f x).cell? ⟨g,3,none⟩=some v3)∧(∀ x,(f x).cell? ⟨g,4,none⟩=some v4)∧(∀ x,(f x).cell? ⟨g,5,none⟩=some v5)∧(∀ x,(f x).cell? ⟨g,6,none⟩=some v6)∧(∀ x,(f x).cell? ⟨g,7,none⟩=some v7)∧(∀ x,(f x).cell? ⟨g,8,none⟩=some v8)∧(∀ x,(f x).cell? ⟨g,9,none⟩=some v9)∧(∀ x,(f x).cell? ⟨g,10,none⟩=some v10):=⟨fun x=>(h x).c 0 _ rfl,fun x=>(h x).c 1 _ rfl,fun x=>(h x).c 2 _ rfl,fun x=>(h x).c 3 _ rfl,fun x=>(h x).c 4 _ rfl,fun x=>(h x).c 5 _ rfl,fun x=>(h x).c 6 _ rfl,fun x=>(h x).c 7 _ rfl,fun x=>(h x).c 8 _ rfl,fun x=>(h x).c 9 _ rfl,fun x=>(h x).c 10 _ rfl⟩
theorem BlkL.cs15 {w:World} {g:Nat} {T:TypeId} {v0 v1 v2 v3 v4 v5 v6 v7 v8 v9 v10 v11 v12 v13 v14:Value} {r:List Value} (h:BlkL w g T (v0::v1::v2::v3::v4::v5::v6::v7::v8::v9::v10::v11::v12::v13::v14::r)):w.cell? ⟨g,0,none⟩=some v0∧w.cell? ⟨g,1,none⟩=some v1∧w.cell? ⟨g,2,none⟩=some v2∧w.cell? ⟨g,3,none⟩=some v3∧w.cell? ⟨g,4,none⟩=some v4∧w.cell? ⟨g,5,none⟩=some v5∧w.cell? ⟨g,6,none⟩=some v6∧w.cell? ⟨g,7,none⟩=some v7∧w.cell? ⟨g,8,none⟩=some v8∧w.cell? ⟨g,9,none⟩=some v9∧w.cell? ⟨g,10,none⟩=some v10∧w.cell? ⟨g,11,none⟩=some v11∧w.cell? ⟨g,12,none⟩=some v12∧w.cell? ⟨g,13,none⟩=some v13∧w.cell? ⟨g,14,none⟩=some v14:=⟨h.c 0 _ rfl,h.c 1 _ rfl,h.c 2 _ rfl,h.c 3 _ rfl,h.c 4 _ rfl,h.c 5 _ rfl,h.c 6 _ rfl,h.c 7 _ rfl,h.c 8 _ rfl,h.c 9 _ rfl,h.c 10 _ rfl,h.c 11 _ rfl,h.c 12 _ rfl,h.c 13 _ rfl,h.c 14 _ rfl⟩
theorem BlkL.fs15 {α:Type} {f:α→World} {g:Nat} {T:TypeId} {v0 v1 v2 v3 v4 v5 v6 v7 v8 v9 v10 v11 v12 v13 v14:Value} {r:List Value} (h:∀ x,BlkL (f x) g T (v0::v1::v2::v3::v4::v5::v6::v7::v8::v9::v10::v11::v12::v13::v14::r)):(∀ x,(f x).cell? ⟨g,0,none⟩=some v0)∧(∀ x,(f x).cell? ⟨g,1,none⟩=some v1)∧(∀ x,(f x).cell? ⟨g,2,none⟩=some v2)∧(∀ x,(f x).cell? ⟨g,3,none⟩=some v3)∧(∀ x,(f x).cell? ⟨g,4,none⟩=some v4)∧(∀ x,(f x).cell? ⟨g,5,none⟩=some v5)∧(∀ x,(f x).cell? ⟨g,6,none⟩=some v6)∧(∀ x,(f x).cell? ⟨g,7,none⟩=some v7)∧(∀ x,(f x).cell? ⟨g,8,none⟩=some v8)∧(∀ x,(f x).cell? ⟨g,9,none⟩=some v9)∧(∀ x,(f x).cell? ⟨g,10,none⟩=some v10)∧(∀ x,(f x).cell? ⟨g,11,none⟩=some v11)∧(∀ x,(f x).cell? ⟨g,12,none⟩=some v12)∧(∀ x,(f x).cell? ⟨g,13,none⟩=some v13)∧(∀ x,(f x).cell? ⟨g,14,none⟩=some v14):=⟨fun x=>(h x).c 0 _ rfl,fun x=>(h x).c 1 _ rfl,fun x=>(h x).c 2 _ rfl,fun x=>(h x).c 3 _ rfl,fun x=>(h x).c 4 _ rfl,fun x=>(h x).c 5 _ rfl,fun x=>(h x).c 6 _ rfl,fun x=>(h x).c 7 _ rfl,fun x=>(h x).c 8 _ rfl,fun x=>(h x).c 9 _ rfl,fun x=>(h x).c 10 _ rfl,fun x=>(h x).c 11 _ rfl,fun x=>(h x).c 12 _ rfl,fun x=>(h x).c 13 _ rfl,fun x=>(h x).c 14 _ rfl⟩
theorem BlkL.f (h:BlkL w g T l) (k:Nat):w.frozen? ⟨g,k,none⟩=false:=by
 unfold BlkL at h;simp [World.frozen?,h]
theorem BlkL.below (h:BlkL w g T l) {b:Nat} (hg:g<b) (hb:Below b w w'):BlkL w' g T l:=(hb.block g hg).trans h
theorem BlkL.alloc (h:BlkL w g T l) (o:Obj):BlkL (w.alloc o) g T l:=(Below.heap_alloc w o g h.lt).trans h
theorem BlkL.new (w:World) (T:TypeId) (l:List Value):BlkL (w.alloc (.cells l.toArray T)) w.heap.size T l:=heap_alloc_new w _
theorem BlkL.other (h:BlkL w g T l) {p:Nat} (hp:g≠p) (j:Nat) (v:Value):BlkL (w.setCell ⟨p,j,none⟩ v) g T l:=(Below.heap_setCell w ⟨p,j,none⟩ v g hp).trans h
theorem BlkL.grown {row:Option Nat} (h:BlkL w g T l) (hg:w.grownBy w' row) (hn:some g≠row):BlkL w' g T l:=(hg.block g h.lt hn).trans h
theorem BlkL.drewN (h:BlkL w g T l) (n:Nat):BlkL (w.drewN n) g T l:=h
theorem BlkL.drew (h:BlkL w g T l):BlkL w.drew g T l:=h
theorem BlkL.set (h:BlkL w g T l) (k:Nat) (hk:k<l.length) (v:Value):BlkL (w.setCell ⟨g,k,none⟩ v) g T (l.set k v):=by
 have hlt:=h.lt;have h':w.heap[g]= .cells l.toArray T (0,0):=(Array.getElem?_eq_some_iff.1 h).2;show (w.heap.modify g _)[g]? =_;rw [Array.getElem?_eq_getElem (by simpa using hlt),Array.getElem_modify_self,h'];simp
theorem wi {a w w':World} {row:Option Nat} (h:a.grownBy w row) (k:w.grownBy w' row):a.grownBy w' row :=
 ⟨k.os.trans h.os,k.tape.trans h.tape,k.output.trans h.output,Nat.le_trans h.size k.size,fun j hj hne=>(k.block j (Nat.lt_of_lt_of_le hj h.size) hne).trans (h.block j hj hne)⟩
theorem xF (w:World) (g j:Nat) (v:Value):w.grownBy (w.setCell ⟨g,j,none⟩ v) (some g) :=
 ⟨rfl,rfl,rfl,by simp,fun k _ hk=>Below.heap_setCell w ⟨g,j,none⟩ v k (fun e=>hk (by simp [e]))⟩
theorem tQ (w:World) (row:Option Nat):w.grownBy w row:=⟨rfl,rfl,rfl,Nat.le_refl _,fun _ _ _=>rfl⟩
theorem sF {a w:World} {row:Option Nat} (h:a.grownBy w row) (o:Obj):a.grownBy (w.alloc o) row :=
 ⟨h.os,h.tape,h.output,by have:=h.size;simp;omega,fun k hk hn=>(Below.heap_alloc w o k (by have:=h.size;omega)).trans (h.block k hk hn)⟩
theorem Sv {a w:World} {row:Option Nat} (h:a.grownBy w row) {b:Nat} (hb:a.heap.size≤b) (j:Nat) (v:Value):a.grownBy (w.setCell ⟨b,j,none⟩ v) row :=
 ⟨h.os,h.tape,h.output,by have:=h.size;simpa using this,fun k hk hn=>(Below.heap_setCell w ⟨b,j,none⟩ v k (fun e=>by have:k=b:=e;omega)).trans (h.block k hk hn)⟩
theorem tR {a w:World} {row:Option Nat} (h:a.grownBy w row):a.grownBy w.drew row:=⟨h.os,h.tape,h.output,h.size,h.block⟩
theorem YP {w w':World} {g base:Nat} (h:w.grownBy w' (some g)) (hb:base≤g) (hs:base≤w.heap.size):Below base w w' :=
 ⟨h.os,h.tape,h.output,h.size,fun k hk=>h.block k (by omega) (fun e=>by injection e;omega)⟩
theorem ux {w:World} {base g size n:Nat} {e:TypeId} {v:Value} {xs:List Value} (h:w.ownsRow base e size v n xs) (hg:g<base):v.ownBlock=none∨v.ownBlock≠some g :=
 .inr (fun e=>by have:=(h.lt g e).1;omega)
end Hs
namespace Go.Proofs.YtbnnlkdhpifpeaaGreatDoor
open Go.RowKit Hs
theorem TO (b:UInt8) (w:World):Calls Tryz.prog 327 #[.int .u8 (b.toNat:Int)] w fun e w'=>e= .returned (.int .i64 (pvI b))∧w=w':=by
 have hc:=kk b;have hb:=b.toNat_lt;have hv:Hid (pvI b=if pv b=99 then -1 else (pv b:Int)):=KZ9 rfl;obtain ⟨x,hx⟩:=KZ6 b.toNat;rw [←hx] at hc hb ⊢;obtain ⟨v,hvv⟩:=KZ6 (pv b);rw [←hvv] at hc hv;clear hx hvv;rcases hc with ⟨h1,h2,h3⟩ | ⟨h1,h2,h3⟩ | ⟨h1,h2,h3⟩ | ⟨h1,h2,h3,h4⟩
 ·have hr:=KZ9 (show pvI b=(x:Int) - 97 by rw [hv.out,if_neg (by omega)];omega);clear hv h3;go_enter Tryz.func327,Tryz.ntmps327
  go_wp2
  all_goals try omega
  go_ret;rw [hr.out];exact ⟨rfl,rfl⟩
 ·have hr:=KZ9 (show pvI b=(x:Int) - 65 by rw [hv.out,if_neg (by omega)];omega);clear hv h3;go_enter Tryz.func327,Tryz.ntmps327
  go_wp2
  all_goals try omega
  go_ret;rw [hr.out];exact ⟨rfl,rfl⟩
 ·have hr:=KZ9 (show pvI b=(x:Int) - 48+26 by rw [hv.out,if_neg (by omega)];omega);clear hv h3;go_enter Tryz.func327,Tryz.ntmps327
  go_wp2
  all_goals try omega
  go_ret;rw [hr.out];exact ⟨rfl,rfl⟩
 have hr:=KZ9 (show pvI b= -1 by rw [hv.out,if_pos (by omega)]);clear hv h4;go_enter Tryz.func327,Tryz.ntmps327
 go_wp2
 all_goals try omega
 all_goals
  go_ret;rw [hr.out];exact ⟨rfl,rfl⟩
theorem Zz (d:Nat) (w:World) (hd:d<36):Calls Tryz.prog 316 #[.int .i64 (d:Int)] w fun e w'=>e= .returned (.int .u8 ((pd d).toNat:Int))∧w=w':=by
 have hv:=KZ9 (TV d hd);by_cases h:d<26
 ·have g1:decide ((d:Int)<26)=true:=KZ7 (by omega);go_enter Tryz.func316,Tryz.ntmps316
  go_wp2
  all_goals try omega
  go_ret;rw [hv.out,if_pos h];exact ⟨by go_num,rfl⟩
 have g1:decide ((d:Int)<26)=false:=KZ8 (by omega);go_enter Tryz.func316,Tryz.ntmps316
 go_wp2
 all_goals try omega
 go_ret;rw [hv.out,if_neg h];exact ⟨by go_num,rfl⟩
theorem Zy (n:Nat) (w:World) (hn:n≤1152921504606846976):Calls Tryz.prog 291 #[.int .i64 (n:Int)] w fun e w'=>e= .returned (.bool (xX n))∧w=w':=by
 have hv:Hid (xX n=decide (n≤1114111∧(n<55296∨57343<n))):=KZ9 rfl;have hc:(n≤1114111∧n<55296)∨(n≤1114111∧55296≤n∧n≤57343)∨(n≤1114111∧57343<n)∨1114111<n:=by omega
 have g0:decide ((0:Int)≤(n:Int))=true:=KZ7 (by omega);rcases hc with ⟨h1,h2⟩ | ⟨h1,h2,h3⟩ | ⟨h1,h2⟩ | h1
 ·have g1:decide ((n:Int)≤1114111)=true:=KZ7 (by omega);have g2:decide ((n:Int)<55296)=true:=KZ7 (by omega);go_enter Tryz.func291,Tryz.ntmps291
  go_wp2
  all_goals try omega
  go_ret;rw [hv.out,KZ7 (by omega)];exact ⟨rfl,rfl⟩
 ·have g1:decide ((n:Int)≤1114111)=true:=KZ7 (by omega);have g2:decide ((n:Int)<55296)=false:=KZ8 (by omega);have g3:decide ((57343:Int)<(n:Int))=false:=KZ8 (by omega);go_enter Tryz.func291,Tryz.ntmps291
  go_wp2
  all_goals try omega
  go_ret;rw [hv.out,KZ8 (by omega)];exact ⟨rfl,rfl⟩
 ·have g1:decide ((n:Int)≤1114111)=true:=KZ7 (by omega);have g2:decide ((n:Int)<55296)=false:=KZ8 (by omega);have g3:decide ((57343:Int)<(n:Int))=true:=KZ7 (by omega);go_enter Tryz.func291,Tryz.ntmps291
  go_wp2
  all_goals try omega
  go_ret;rw [hv.out,KZ7 (by omega)];exact ⟨rfl,rfl⟩
 have g1:decide ((n:Int)≤1114111)=false:=KZ8 (by omega);go_enter Tryz.func291,Tryz.ntmps291
 go_wp2
 all_goals try omega
 go_ret;rw [hv.out,KZ8 (by omega)];exact ⟨rfl,rfl⟩
set_option maxHeartbeats 1600000
theorem kj (delta count:Nat) (first:Bool) (w:World) (hd:delta≤1099511627776) (hc0:0<count) (hc:count≤1048576):Calls Tryz.prog 293 #[.int .i64 (delta:Int),.int .i64 (count:Int),.bool first] w fun e w'=>e= .returned (.int .i64 (xw delta count first))∧w=w':=by
 have hv:Hid (xw delta count first=xO ((if first=true then delta / 700 else delta / 2)+(if first=true then delta / 700 else delta / 2) / count) 0):=KZ9 rfl;have h1:(if first=true then delta / 700 else delta / 2)≤549755813888:=by split<;>omega
 obtain ⟨d0,hd0⟩:=KZ6 ((if first=true then delta / 700 else delta / 2));rw [←hd0] at hv h1;have h2:d0 / count≤d0:=Nat.div_le_self _ _;obtain ⟨q,hq⟩:=KZ6 (d0 / count);rw [←hq] at hv h2;have hqi:(d0:Int) / (count:Int)=(q:Int):=by rw [hq];exact (Int.natCast_ediv d0 count).symm
 have hqt:(d0:Int).tdiv (count:Int)=(q:Int):=by rw [Int.tdiv_eq_ediv_of_nonneg (by omega)];exact hqi
 have hcz:((count:Int)==0)=false:=by simp;omega
 have hcn:(count:Int)≠0:=by omega
 have h35:d0+q<456*35 ^ 8:=by
  have:(35:Nat) ^ 8=2251875390625:=by decide
  omega
 have H35:=KZ9 h35;clear hq h35;cases first
 all_goals
  simp only [if_true,Bool.false_eq_true,if_false] at hd0
  (first | have hdi:(delta:Int) / 700=(d0:Int):=by omega | have hdi:(delta:Int) / 2=(d0:Int):=by omega)
  (first | have hdt:(delta:Int).tdiv 700=(d0:Int):=by rw [Int.tdiv_eq_ediv_of_nonneg (by omega)];exact hdi | have hdt:(delta:Int).tdiv 2=(d0:Int):=by rw [Int.tdiv_eq_ediv_of_nonneg (by omega)];exact hdi)
  clear hd0;go_enter Tryz.func293,Tryz.ntmps293
  go_wp2
  all_goals try omega
  go_loop [0,7] (fun dv kv=>∃ e k:Nat,dv= .int .i64 e∧kv= .int .i64 k∧e≤1099511627776∧k≤288∧Hid (xO (d0+q) 0=xO e k)∧Hid (∃ j,e<456*35 ^ j∧k+36*j≤288)) (fun dv _=>(intOf dv).toNat)
  case atStart=>exact ⟨d0+q,0,by go_num,rfl,by omega,by omega,KZ9 rfl,KZ9 ⟨8,H35.out,by omega⟩⟩
  case round =>
   obtain ⟨e,k,rfl,rfl,he,hk,hst,hj⟩:=hrel;by_cases hlt:455<e
   ·have g1:decide ((455:Int)<(e:Int))=true:=KZ7 (by omega);have hst2:Hid (xO (d0+q) 0=xO (e / 35) (k+36)):=KZ9 (by rw [hst.out,qp hlt]);have hj2:Hid (∃ j,e / 35<456*35 ^ j∧k+36+36*j≤288):=KZ9 (by
     obtain ⟨j,h1,h2⟩:=hj.out;cases j with
     | zero=>simp at h1;omega
     | succ j=>exact ⟨j,by rw [Nat.pow_succ,←Nat.mul_assoc] at h1;exact Nat.div_lt_of_lt_mul (by rw [Nat.mul_comm];exact h1),by omega⟩)
    have hk2:k+36≤288:=by obtain ⟨j,_,h⟩:=hj2.out;omega
    clear hst hj;go_wp2
    all_goals try omega
    go_round
    case rel=>exact ⟨e / 35,k+36,by go_num,by go_num,by omega,hk2,hst2,hj2⟩
    case measure=>simp [intOf];omega
   have g1:decide ((455:Int)<(e:Int))=false:=KZ8 (by omega);obtain ⟨r,hr⟩:=KZ6 (36*e / (e+38));have hfin:Hid (xw delta count _=k+r):=KZ9 (by rw [hv.out,hst.out,vQ hlt,hr]);have hri:36*(e:Int) / ((e:Int)+38)=(r:Int):=by rw [hr];push_cast;rfl
   have hrt:(36*(e:Int)).tdiv ((e:Int)+38)=(r:Int):=by rw [Int.tdiv_eq_ediv_of_nonneg (by omega)];exact hri
   have hr36:r≤36:=by
    rw [hr];apply Nat.le_of_lt_succ;rw [Nat.div_lt_iff_lt_mul (by omega)];omega
   have hez:(e:Int)+38≠0:=by omega
   clear hst hj hr;go_wp2
   all_goals try omega
   go_ret;rw [hfin.out];exact ⟨by go_num,rfl⟩
theorem WJ (K B j bias:Nat) (w:World) (hj:j≤1000000000000) (hbi:bias≤1000000000000) (hK:Boxed w K 3 (.int .i64 ((36*j:Nat):Int))) (hB:Boxed w B 3 (.int .i64 (bias:Int))) (hne:K≠B) :
  Calls Tryz.prog 330 #[.pointer (some ⟨K,0,none⟩),.pointer (some ⟨B,0,none⟩)] w fun e w'=>e= .returned (.int .i64 (thr j bias))∧w'=w.setCell ⟨K,0,none⟩ (.int .i64 ((36*(j+1):Nat):Int)):=by
 have h1:=KZ9 (show (thr j bias:Int)=max 1 (min 26 (36*((j:Int)+1) - (bias:Int))) by unfold thr;omega);have cK:=hK.cell;have fK:=hK.frozen;have cB:=hB.cell;have cK2:=(hK.set (.int .i64 ((36*(j+1):Nat):Int))).cell;have cB2:=(hB.other hne.symm (.int .i64 ((36*(j+1):Nat):Int))).cell;obtain ⟨c,hc⟩:=KZ6 (36*j);have hc2:36*(j+1)=c+36:=by omega
 rw [hc2] at cK2 cB2 ⊢;rw [←hc] at cK;rw [Int.natCast_add] at cK2 cB2 ⊢;have hcb:c≤36000000000000:=by omega
 have HC:=KZ9 hc;clear hc hc2;go_enter Tryz.func330,Tryz.ntmps330
 go_wp2
 all_goals try omega
 all_goals
  go_ret;rw [h1.out];refine ⟨congrArg Ending.returned ?_,by first | rfl | (congr 1;go_num)⟩;show Value.int .i64 _=Value.int .i64 _;have:=HC.out
  congr 1
  omega
theorem ru (bias:Nat) (w:World):Calls Tryz.prog 315 #[.int .i64 (bias:Int)] w fun e w' =>
  e= .returned (.func (.func 330) #[] #[.pointer (some ⟨w.heap.size+1,0,none⟩),.pointer (some ⟨w.heap.size,0,none⟩)])∧w'=(w.alloc (.cells #[.int .i64 (bias:Int)] 3)).alloc (.cells #[.int .i64 0] 3):=by
 go_enter Tryz.func315,Tryz.ntmps315
 go_wp2;go_ret;exact ⟨rfl,rfl⟩
set_option maxRecDepth 20000
set_option maxHeartbeats 4000000
theorem de (v:Value) (n:Nat) (xs:List Value) (q bias base:Nat) (w:World) (hown:w.ownsRow base 5 1 v n xs) (hbase:base≤w.heap.size) (hn:n≤1000000) (hq:q≤900000000) (hbi:bias≤1048576) :
  Calls Tryz.prog 292 #[v,.int .i64 (q:Int),.int .i64 (bias:Int)] w fun e w'=>(∃ v',e= .returned v'∧w'.ownsRow base 5 1 v' (n+(wQ q 0 bias).length) (xs++zc (wQ q 0 bias)))∧Below base w w':=by
 obtain ⟨iB0,iB⟩:=info_parts yD;have hlen:=uj 9 q 0 bias (by omega);obtain ⟨T,hT⟩:=KZ6 (wQ q 0 bias);have HT:=KZ9 hT;rw [←hT] at hlen ⊢;clear hT;have hth:=fun W=>ru bias W;have HTH:=KZ9 hth;clear hth;obtain ⟨z,hz⟩:=KZ6 w.heap.size;obtain ⟨wB,hwB⟩:=KZ6 (w.alloc (.cells #[.int .i64 (bias:Int)] 3));obtain ⟨wK,hwK⟩:=KZ6 (wB.alloc (.cells #[.int .i64 0] 3));have hsB:wB.heap.size=z+1:=by rw [hwB,hz];simp
 have hsK:wK.heap.size=z+2:=by rw [hwK];simp;omega
 have hBB:Boxed wK z 3 (.int .i64 (bias:Int)):=by rw [hwK,hwB,hz];exact (Boxed.new w _ _).alloc _
 have hBK:Boxed wK (z+1) 3 (.int .i64 ((36*0:Nat):Int)):=by rw [hwK,←hsB];exact Boxed.new wB _ _
 have hownK:wK.ownsRow base 5 1 v n xs:=by rw [hwK,hwB];exact (hown.alloc _).alloc _
 have hbelK:Below base w wK:=by rw [hwK,hwB];exact ((Below.refl base w).alloc hbase _).alloc (by simp;omega) _
 have hth2:Hid (∀ (e:Ending) (w':World),e= .returned (.func (.func 330) #[] #[.pointer (some ⟨w.heap.size+1,0,none⟩),.pointer (some ⟨w.heap.size,0,none⟩)])∧w'=(w.alloc (.cells #[.int .i64 (bias:Int)] 3)).alloc (.cells #[.int .i64 0] 3) →
   e= .returned (.func (.func 330) #[] #[.pointer (some ⟨z+1,0,none⟩),.pointer (some ⟨z,0,none⟩)])∧w'=wK):=KZ9 (by rintro e w' ⟨rfl,rfl⟩;rw [hwK,hwB,hz];exact ⟨rfl,rfl⟩)
 have hz1:base≤z:=by omega
 obtain ⟨a,c,rfl⟩:=yk hown;clear hz hwB hwK hown hbase hsB;go_enter Tryz.func292,Tryz.ntmps292
 go_wp2_with fail
 refine (HTH.out _).mono ?_;rintro e w2 hew;obtain ⟨rfl,rfl⟩:=hth2.out _ _ hew;clear hew hth2;go_wp2
 all_goals try omega
 go_loopw [0,1] (fun bv qv wr=>∃ (o5:Bs) (q5 k5:Nat),qv= .int .i64 q5∧q5+k5≤900000000∧wr.ownsRow base 5 1 bv (n+o5.length) (xs++zc o5)∧Hid (T=o5++wQ q5 k5 bias)∧Boxed wr (z+1) 3 (.int .i64 ((36*k5:Nat):Int))∧Boxed wr z 3 (.int .i64 (bias:Int))∧z+2≤wr.heap.size∧Below base w wr) (fun _ qv _=>(intOf qv).toNat)
 case atStart=>exact ⟨[],q,0,rfl,by omega,by simpa [zc] using hownK,by simpa using HT,hBK,hBB,by omega,hbelK⟩
 case round =>
  obtain ⟨o5,q5,k5,rfl,hqk,hown,hst5,hbK,hbB,hzs,hnx⟩:=hrel;have hol:o5.length≤10:=by have:=congrArg List.length hst5.out;rw [List.length_append] at this;omega
  have htb:=xT k5 bias;have hnext:=WJ (z+1) z k5 bias wr (by omega) (by omega) hbK hbB (by omega);have hES:=@ui q5 k5 bias;have hEB:=@qR q5 k5 bias;have hrow:=hbK.not_row (e:=5) (by decide) hown;have hown2:=hown.kept (grownBy_setCell' wr (z+1) (.int .i64 ((36*(k5+1):Nat):Int))) (.inr (fun e=>hrow e.symm));have hbK2:=hbK.set (.int .i64 ((36*(k5+1):Nat):Int));have hbB2:=hbB.other (B':=z+1) (by omega) (.int .i64 ((36*(k5+1):Nat):Int));have hnx2:=hnx.setCell (p:=⟨z+1,0,none⟩) (by show base≤z+1;omega) (.int .i64 ((36*(k5+1):Nat):Int));have hsz2:(wr.setCell ⟨z+1,0,none⟩ (.int .i64 ((36*(k5+1):Nat):Int))).heap.size=wr.heap.size:=by simp [World.setCell];try split<;>simp
  have HRK:=KZ9 (hbK2.not_row (e:=5) (by decide) hown2);have HRB:=KZ9 (hbB2.not_row (e:=5) (by decide) hown2);obtain ⟨wn,hwn⟩:=KZ6 (wr.setCell ⟨z+1,0,none⟩ (.int .i64 ((36*(k5+1):Nat):Int)));rw [←hwn] at hown2 hbK2 hbB2 hnx2 hnext hsz2;obtain ⟨t,htt⟩:=KZ6 (thr k5 bias);rw [←htt] at htb hES hEB;simp only [←htt] at hnext;have HNEXT:=KZ9 hnext;have hzs2:z+2≤wn.heap.size:=by omega
  obtain ⟨a,c,rfl⟩:=yk hown;clear htt hnext hwn hbK hbB hown hnx hrow hsz2;by_cases hqt:q5<t
  ·have g8:decide ((q5:Int)<(t:Int))=true:=KZ7 (by omega);have hfin:=hES hqt;have hdg:=fun W=>Zz q5 W (by omega);have hT5e:Hid (T=o5++[pd q5]):=KZ9 (by rw [hst5.out,hfin]);have HD:=KZ9 hdg;clear hdg hfin hES hEB hst5;go_wp2_with fail
   refine HNEXT.out.mono ?_;rintro e w9 ⟨rfl,rfl⟩;go_wp2_with fail
   all_goals try omega
   refine (HD.out _).mono ?_;rintro e w8 ⟨rfl,rfl⟩;go_wp2_with (first | (at_builtin;refine wpList_append_own _ rfl (.tmp 16) (.tmp 19) 34 rfl (base) 5 iB0 (.int .u8 0) 1 1 Tryz.underlying34 iB.1 iB.2.1 iB.2.2.1 iB.2.2.2 rfl (by decide) _ _ _ rfl (hown2.alloc _) ⟨w9.heap.size,0,none⟩ 1 1 [_] rfl rfl (cell_one_new _ _ _) (by intro u hu;simp at hu;subst hu;rfl) (by unfold maxLen;omega) (by omega) (by simp;omega) ?_;intro v1 w3 hown1 hgrow1 hnil1))
   all_goals try omega
   go_ret;refine ⟨⟨_,rfl,?_⟩,(hnx2.alloc (by omega) _).grown hgrow1 (by simp;omega) (fun j hj=>(hown2.lt j hj).1)⟩;rw [hT5e.out,zz,List.length_append,←Nat.add_assoc,←List.append_assoc];exact hown1
  have g8:decide ((q5:Int)<(t:Int))=false:=KZ8 (by omega);have hbig:=hEB hqt;obtain ⟨r,hr⟩:=KZ6 ((q5 - t) % (36 - t));obtain ⟨q6,hq6⟩:=KZ6 ((q5 - t) / (36 - t));rw [←hr,←hq6] at hbig;have hr36:r<36 - t:=by rw [hr];exact Nat.mod_lt _ (by omega)
  have hq6l:q6≤q5 - t:=by rw [hq6];exact Nat.div_le_self _ _
  have e1:((q5:Int) - (t:Int))=((q5 - t:Nat):Int):=by omega
  have e2:(36:Int) - (t:Int)=((36 - t:Nat):Int):=by omega
  have hri:((q5:Int) - (t:Int)) % (36 - (t:Int))=(r:Int):=by rw [e1,e2,hr];rfl
  have hrt:((q5:Int) - (t:Int)).tmod (36 - (t:Int))=(r:Int):=by rw [Int.tmod_eq_emod_of_nonneg (by omega)];exact hri
  have hdi:((q5:Int) - (t:Int)) / (36 - (t:Int))=(q6:Int):=by rw [e1,e2,hq6];rfl
  have hdt:((q5:Int) - (t:Int)).tdiv (36 - (t:Int))=(q6:Int):=by rw [Int.tdiv_eq_ediv_of_nonneg (by omega)];exact hdi
  have hz36:(36:Int) - (t:Int)≠0:=by omega
  have hdg:=fun W=>Zz (t+r) W (by omega);simp only [Int.natCast_add] at hdg;have HD:=KZ9 hdg;have hst6:Hid (T=(o5++[pd (t+r)])++wQ q6 (k5+1) bias):=KZ9 (by rw [hst5.out,hbig,List.append_assoc];rfl);clear hdg hr hq6 e1 e2 hst5 hbig hES hEB;go_wp2_with fail
  refine HNEXT.out.mono ?_;rintro e w9 ⟨rfl,rfl⟩;go_wp2_with fail
  all_goals try omega
  refine (HD.out _).mono ?_;rintro e w8 ⟨rfl,rfl⟩;go_wp2_with (first | (at_builtin;refine wpList_append_own _ rfl (.tmp 21) (.tmp 31) 34 rfl (base) 5 iB0 (.int .u8 0) 1 1 Tryz.underlying34 iB.1 iB.2.1 iB.2.2.1 iB.2.2.2 rfl (by decide) _ _ _ rfl (hown2.alloc _) ⟨w9.heap.size,0,none⟩ 1 1 [_] rfl rfl (cell_one_new _ _ _) (by intro u hu;simp at hu;subst hu;rfl) (by unfold maxLen;omega) (by omega) (by simp;omega) ?_;intro v1 w3 hown1 hgrow1 hnil1))
  all_goals try omega
  go_roundw
  case rel =>
   refine ⟨o5++[pd (t+r)],q6,k5+1,rfl,by omega,?_,hst6,?_,?_,?_,(hnx2.alloc (by omega) _).grown hgrow1 (by simp;omega) (fun j hj=>(hown2.lt j hj).1)⟩
   ·rw [zz,List.length_append,←Nat.add_assoc,←List.append_assoc];exact hown1
   ·exact (hbK2.alloc _).kept hgrow1 HRK.out
   ·exact (hbB2.alloc _).kept hgrow1 HRB.out
   have:=hgrow1.size;simp at this;omega
  case measure=>simp [intOf];omega
set_option maxHeartbeats 16000000
theorem SI (g:Nat) (l:Bs) (v:Value) (nn ii bi:Nat) (st:Bool) (w:World) (hd:BlkL w g 357 [.string (mk l),v,.int .i64 (nn:Int),.int .i64 (ii:Int),.int .i64 (bi:Int),.bool st]) (hl:l.length≤100000) (hii:ii≤257) (hbi:bi≤324) :
  Calls Tryz.prog 313 #[.pointer (some ⟨g,0,none⟩)] w fun e w'=>(∃ c,e= .returned (.int .i64 c)∧((c=0∧∃ p:Nat × Bs,wE l ii 1 0 bi=some p∧BlkL w' g 357 [.string (mk p.2),v,.int .i64 (nn:Int),.int .i64 (p.1:Int),.int .i64 (bi:Int),.bool st])∨(c≠0∧wE l ii 1 0 bi=none)))∧w.grownBy w' (some g):=by
 have hth:=fun W=>ru bi W;have HTH:=KZ9 hth;obtain ⟨N,hN⟩:=KZ6 (wE l ii 1 0 bi);have HN:=KZ9 hN;rw [←hN];obtain ⟨z,hz⟩:=KZ6 w.heap.size;obtain ⟨wB,hwB⟩:=KZ6 (w.alloc (.cells #[.int .i64 (bi:Int)] 3));obtain ⟨wK,hwK⟩:=KZ6 (wB.alloc (.cells #[.int .i64 0] 3));have hsB:wB.heap.size=z+1:=by rw [hwB,hz];simp
 have hsK:wK.heap.size=z+2:=by rw [hwK];simp;omega
 have hBB:Boxed wK z 3 (.int .i64 (bi:Int)):=by rw [hwK,hwB,hz];exact (Boxed.new w _ _).alloc _
 have hBK:Boxed wK (z+1) 3 (.int .i64 ((36*0:Nat):Int)):=by rw [hwK,←hsB];exact Boxed.new wB _ _
 have hdK:BlkL wK g 357 [.string (mk l),v,.int .i64 (nn:Int),.int .i64 (ii:Int),.int .i64 (bi:Int),.bool st]:=by rw [hwK,hwB];exact (hd.alloc _).alloc _
 have hgK:w.grownBy wK (some g):=by rw [hwK,hwB];exact sF (sF (tQ _ _) _) _
 have hth2:Hid (∀ (e:Ending) (w':World),e= .returned (.func (.func 330) #[] #[.pointer (some ⟨w.heap.size+1,0,none⟩),.pointer (some ⟨w.heap.size,0,none⟩)])∧w'=(w.alloc (.cells #[.int .i64 (bi:Int)] 3)).alloc (.cells #[.int .i64 0] 3) →
   e= .returned (.func (.func 330) #[] #[.pointer (some ⟨z+1,0,none⟩),.pointer (some ⟨z,0,none⟩)])∧w'=wK):=KZ9 (by rintro e w' ⟨rfl,rfl⟩;rw [hwK,hwB,hz];exact ⟨rfl,rfl⟩)
 have hgz:g<z:=by rw [hz];exact hd.lt
 have c4:=hd.c 4 _ rfl;have HZ:=KZ9 hz;have HGK:=KZ9 hgK;have HDK:=KZ9 hdK;have HBB:=KZ9 hBB;have HBK:=KZ9 hBK;clear hN hz hwB hwK hd hsB hth hgK hdK hBB hBK;go_enter Tryz.func313,Tryz.ntmps313
 go_wp2_with fail
 refine (HTH.out _).mono ?_;rintro e w2 hew;obtain ⟨rfl,rfl⟩:=hth2.out _ _ hew;clear hew hth2 c4;go_wp2
 all_goals try omega
 go_loopg [4] l.length (fun m wv wr=>∃ (r:Bs) (w2 k2 i2:Nat),m=r.length∧wv= .int .i64 w2∧w2≤1099511627776∧k2+r.length≤l.length∧ii≤i2∧i2≤1099511627776∧BlkL wr g 357 [.string (mk r),v,.int .i64 (nn:Int),.int .i64 (i2:Int),.int .i64 (bi:Int),.bool st]∧Boxed wr (z+1) 3 (.int .i64 ((36*k2:Nat):Int))∧Boxed wr z 3 (.int .i64 (bi:Int))∧Hid (N=wE r i2 w2 k2 bi)∧w.grownBy wr (some g))
 case atStart=>exact ⟨l,1,0,ii,rfl,rfl,by omega,by omega,by omega,by omega,HDK.out,HBK.out,HBB.out,HN,HGK.out⟩
 case round =>
  obtain ⟨r,w2,k2,i2,rfl,rfl,hw2,hk2,hi1,hi2,hd,hbK,hbB,hnum,hgr⟩:=hrel;have c0:=hd.c 0 _ rfl;have c3:=hd.c 3 _ rfl;have f0:=hd.f 0;have f3:=hd.f 3;have HD:=KZ9 hd;have HGR:=KZ9 hgr;have HBK2:=KZ9 hbK;have HBB2:=KZ9 hbB;clear hd hgr hbK hbB HGK HDK HBB HBK;cases r with
  | nil =>
   have hend:Hid (N=none):=KZ9 hnum.out;have e0:mk ([]:Bs)=⟨#[]⟩:=rfl;rw [e0] at c0;clear hnum e0;go_wp2
   all_goals try omega
   go_ret;exact ⟨⟨_,rfl,.inr ⟨by decide,hend.out⟩⟩,HGR.out⟩
  | cons b r =>
   have hk3:k2+(r.length+1)≤l.length:=hk2;have hval:=fun W=>TO b W;have hpI:pvI b=if pv b=99 then -1 else (pv b:Int):=rfl
   have hplt:=@QG b;have hszn:(mk (b::r)).size=r.length+1:=by rw [zi];rfl
   have h0:0<(mk (b::r)).size:=by omega
   have hb0:(mk (b::r))[0]=b:=by
    rw [←zR (mk (b::r)) 0 h0];simp
   have hex:(mk (b::r)).extract 1 (r.length+1)=mk r:=by
    apply pi;rw [xj,zk,zk];simp
   have hem:(mk (b::r)).toList.isEmpty=false:=by
    rw [List.isEmpty_eq_false_iff];intro h;rw [toList_mk'] at h;cases h
   obtain ⟨s,hs⟩:=KZ6 (mk (b::r));rw [←hs] at c0 hszn hem hex;have cs:(s[0].toNat:Int)=(b.toNat:Int):=by subst hs;rw [hb0]
   have hszI:(s.size:Int)=(r.length:Int)+1:=by rw [hszn];rfl
   have HD2:=HD.out;rw [←hs] at HD2;have HD3:=KZ9 HD2;have hs1:1≤s.size:=by omega
   clear HD HD2 hs hb0 h0;obtain ⟨pI,hp⟩:=KZ6 (pvI b);rw [←hp] at hpI;simp only [←hp] at hval;have HVAL:=KZ9 hval;clear hval hp;by_cases h99:pv b=99
   ·rw [if_pos h99] at hpI;subst hpI;have hend:Hid (N=none):=KZ9 (hnum.out.trans (ZO h99));clear hnum hplt h99;go_wp2_with fail
    all_goals try omega
    refine (HVAL.out _).mono ?_;rintro e w9 ⟨rfl,rfl⟩;go_wp2
    all_goals try omega
    go_ret;exact ⟨⟨_,rfl,.inr ⟨by decide,hend.out⟩⟩,HGR.out⟩
   rw [if_neg h99] at hpI;have hp36:=hplt h99;have h99b:pv b≠99:=h99;obtain ⟨x,hx⟩:=KZ6 (pv b);rw [←hx] at hpI hp36;subst hpI;obtain ⟨M,hM⟩:=KZ6 (x*w2);have hMb:M≤38482906972160:=by
    rw [hM];exact Nat.le_trans (Nat.mul_le_mul (show x≤35 by omega) hw2) (by decide)
   have hmul:(x:Int)*(w2:Int)=(M:Int):=by rw [hM];rfl
   have hMx:pv b*w2=M:=by rw [←hx,hM]
   have HX:=KZ9 hx;have HM:=KZ9 hMx;have H99:=KZ9 h99b;have b1:BlkL (wr.setCell ⟨g,0,none⟩ (.string (mk r))) g 357 [.string (mk r),v,.int .i64 (nn:Int),.int .i64 (i2:Int),.int .i64 (bi:Int),.bool st]:=HD3.out.set 0 (by simp) (.string (mk r));have b2:BlkL ((wr.setCell ⟨g,0,none⟩ (.string (mk r))).setCell ⟨g,3,none⟩ (.int .i64 ((i2:Int)+(M:Int)))) g 357 [.string (mk r),v,.int .i64 (nn:Int),.int .i64 ((i2:Int)+(M:Int)),.int .i64 (bi:Int),.bool st]:=b1.set 3 (by simp) (.int .i64 ((i2:Int)+(M:Int)));have c3b:=b1.c 3 _ rfl;have f3b:=b1.f 3;have c3c:=b2.c 3 _ rfl;have HDa:=KZ9 b2;have HGRa:=KZ9 (wi (wi HGR.out (xF _ g 0 (.string (mk r)))) (xF _ g 3 (.int .i64 ((i2:Int)+(M:Int)))));have hbKa:=(HBK2.out.kept (xF _ g 0 (.string (mk r))) (by intro e;cases e;omega)).kept (xF _ g 3 (.int .i64 ((i2:Int)+(M:Int)))) (by intro e;cases e;omega)
   have hbBa:=(HBB2.out.kept (xF _ g 0 (.string (mk r))) (by intro e;cases e;omega)).kept (xF _ g 3 (.int .i64 ((i2:Int)+(M:Int)))) (by intro e;cases e;omega);clear b1 b2 HD3 HGR HBK2 HBB2 hx hM hMx h99b hplt h99;have hcast:((i2+M:Nat):Int)=(i2:Int)+(M:Int):=by omega
   by_cases hfar:1099511627776<i2+M
   ·have g5:decide ((1099511627776:Int)<(i2:Int)+(M:Int))=true:=KZ7 (by omega);have hend:Hid (N=none):=KZ9 (hnum.out.trans (ZM H99.out (by rw [HM.out];exact hfar)));clear hnum hbKa hbBa hcast;go_wp2_with fail
    all_goals try omega
    refine (HVAL.out _).mono ?_;rintro e w9 ⟨rfl,rfl⟩;go_wp2
    all_goals try omega
    go_ret;exact ⟨⟨_,rfl,.inr ⟨by decide,hend.out⟩⟩,HGRa.out⟩
   have g5:decide ((1099511627776:Int)<(i2:Int)+(M:Int))=false:=KZ8 (by omega);have hfar2:¬ 1099511627776<i2+pv b*w2:=by rw [HM.out];exact hfar
   have htb:=xT k2 bi;have hk2b:k2≤100000:=by omega
   have hnext:=WJ (z+1) z k2 bi _ (by omega) (by omega) hbKa hbBa (by omega);obtain ⟨t,ht⟩:=KZ6 (thr k2 bi);rw [←ht] at htb hnext;have HNEXT:=KZ9 hnext;have HBKb:=KZ9 (hbKa.set (.int .i64 ((36*(k2+1):Nat):Int)));have HBBb:=KZ9 (hbBa.other (B':=z+1) (by omega) (.int .i64 ((36*(k2+1):Nat):Int)));have HDb:=KZ9 (HDa.out.other (p:=z+1) (by omega) 0 (.int .i64 ((36*(k2+1):Nat):Int)));have HGRb:=KZ9 (Sv HGRa.out (b:=z+1) (by rw [←HZ.out];omega) 0 (.int .i64 ((36*(k2+1):Nat):Int)));clear hnext hbKa hbBa HDa HGRa;by_cases hxt:x<t
   ·have g6:decide ((x:Int)<(t:Int))=true:=KZ7 (by omega);have hsome:=hnum.out.trans (ZN H99.out hfar2 (by rw [←ht,←HX.out];exact hxt));rw [HM.out] at hsome;have HSOME:=KZ9 hsome;clear hnum hsome ht hfar2 H99 HX HM HBKb HBBb;go_wp2_with fail
    all_goals try omega
    refine (HVAL.out _).mono ?_;rintro e w9 ⟨rfl,rfl⟩;go_wp2_with fail
    all_goals try omega
    refine (HNEXT.out).mono ?_;rintro e w8 ⟨rfl,rfl⟩;go_wp2
    all_goals try omega
    go_ret;exact ⟨⟨_,rfl,.inl ⟨rfl,_,HSOME.out,by rw [hcast];exact HDb.out⟩⟩,HGRb.out⟩
   have g6:decide ((x:Int)<(t:Int))=false:=KZ8 (by omega);obtain ⟨Z,hZ⟩:=KZ6 (w2*(36 - t));have hZb:Z≤39582418599936:=by
    rw [hZ];exact Nat.le_trans (Nat.mul_le_mul hw2 (show 36 - t≤36 by omega)) (by decide)
   have hzm:(w2:Int)*(36 - (t:Int))=(Z:Int):=by rw [hZ,show (36:Int) - (t:Int)=((36 - t:Nat):Int) by omega];rfl
   by_cases hzw:1099511627776<Z
   ·have g7:decide ((1099511627776:Int)<(Z:Int))=true:=KZ7 (by omega);have hend:Hid (N=none):=KZ9 (hnum.out.trans (du H99.out hfar2 (by rw [←ht,←HX.out];exact hxt) (by rw [←ht,←hZ];exact hzw)));clear hnum ht hfar2 H99 HX HM hZ HBKb HBBb HDb hcast;go_wp2_with fail
    all_goals try omega
    refine (HVAL.out _).mono ?_;rintro e w9 ⟨rfl,rfl⟩;go_wp2_with fail
    all_goals try omega
    refine (HNEXT.out).mono ?_;rintro e w8 ⟨rfl,rfl⟩;go_wp2
    all_goals try omega
    go_ret;exact ⟨⟨_,rfl,.inr ⟨by decide,hend.out⟩⟩,HGRb.out⟩
   have g7:decide ((1099511627776:Int)<(Z:Int))=false:=KZ8 (by omega);have hmore:=hnum.out.trans (dw H99.out hfar2 (by rw [←ht,←HX.out];exact hxt) (by rw [←ht,←hZ];exact hzw));rw [HM.out,←ht,←hZ] at hmore;have HMORE:=KZ9 hmore;have HCAST:=KZ9 hcast;clear hnum hmore ht hfar2 H99 HX HM hZ hcast;go_wp2_with fail
   all_goals try omega
   refine (HVAL.out _).mono ?_;rintro e w9 ⟨rfl,rfl⟩;go_wp2_with fail
   all_goals try omega
   refine (HNEXT.out).mono ?_;rintro e w8 ⟨rfl,rfl⟩;go_wp2
   all_goals try omega
   go_roundg r.length
   case measure=>simp
   case rel=>exact ⟨r,Z,k2+1,i2+M,rfl,by go_num,by omega,by omega,by omega,by omega,by rw [HCAST.out];exact HDb.out,HBKb.out,HBBb.out,HMORE,HGRb.out⟩
end Go.Proofs.YtbnnlkdhpifpeaaGreatDoor
namespace Hs
open Go Go.RowKit
theorem BlkL.setCells {g:Nat} {T:TypeId}:∀ (vs:List Value) (o:Nat) (w:World) (l:List Value),BlkL w g T l→o+vs.length≤l.length→BlkL (w.setCells g o vs) g T (l.take o++vs++l.drop (o+vs.length))
 | [],o,w,l,h,hl=>by
  simp only [World.setCells,List.length_nil,Nat.add_zero,List.append_nil,List.take_append_drop];exact h
 | v::r,o,w,l,h,hl=>by
  simp only [List.length_cons] at hl;have h1:=BlkL.setCells r (o+1) _ _ (h.set o (by omega) v) (by rw [List.length_set];omega);have e1:(l.set o v).take (o+1)=l.take o++[v]:=by
   rw [List.take_succ_eq_append_getElem (by rw [List.length_set];omega),List.take_set_of_le (Nat.le_refl o)];simp
  have e2:(l.set o v).drop (o+1+r.length)=l.drop (o+(r.length+1)):=by
   rw [List.drop_set_of_lt (by omega)]
   congr 1
   omega
  rw [e1,e2] at h1;simp only [World.setCells,List.length_cons];have e3:l.take o++v::r=l.take o++[v]++r:=by simp
  rw [e3];exact h1
theorem uC (g:Nat):∀ (vs:List Value) (o:Nat) (w:World),w.grownBy (w.setCells g o vs) (some g)
 | [],o,w=>tQ _ _
 | v::r,o,w=>wi (xF w g o v) (uC g r (o+1) _)
theorem tS {a:World} {row:Option Nat} {b:Nat} (hb:a.heap.size≤b):∀ (vs:List Value) (o:Nat) (w:World),a.grownBy w row→a.grownBy (w.setCells b o vs) row
 | [],o,w,h=>h
 | v::r,o,w,h=>tS hb r (o+1) _ (Sv h hb o v)
theorem wu (x:Int) (n:Nat):Builtin.zeroCells (Value.int .i64 x).cells n=Array.replicate n (Value.int .i64 x):=by
 apply Array.ext
 ·rw [size_zeroCells,Array.size_replicate];show n*1=n;omega
 intro j h1 h2;simp [Builtin.zeroCells,Value.cells,Nat.mod_one]
theorem b6 (a b:List Value) (n:Nat) (v:Value):(a++b).toArray++Array.replicate n v=(a++b++List.replicate n v).toArray:=by simp
theorem UE (L D:List Value) (x:Value) (i n:Nat) (hL:n+1≤L.length) (hi:i≤n) (hD:D.length=n - i) :
  ((L.take (i+1)++D++L.drop (i+1+D.length)).take i++[x]++(L.take (i+1)++D++L.drop (i+1+D.length)).drop (i+1)).take (n+1)=L.take i++[x]++D:=by
 have h1:(L.take (i+1)).length=i+1:=by rw [List.length_take];omega
 have e1:(L.take (i+1)++D++L.drop (i+1+D.length)).take i=L.take i:=by
  rw [List.append_assoc,List.take_append_of_le_length (by omega),List.take_take,Nat.min_eq_left (by omega)]
 have e2:(L.take (i+1)++D++L.drop (i+1+D.length)).drop (i+1)=D++L.drop (i+1+D.length):=by
  rw [List.append_assoc,List.drop_append_of_le_length (by omega),List.drop_of_length_le (by omega),List.nil_append]
 rw [e1,e2,←List.append_assoc,List.take_append_of_le_length (by simp;omega),List.take_of_length_le (by simp;omega)]
theorem UD (L D:List Value) (x:Value) (i n:Nat) (hL:n+1≤L.length) (hi:i≤n) (hD:D.length=n - i) :
  ((L.take i++[x]++L.drop (i+1)).take (i+1)++D++(L.take i++[x]++L.drop (i+1)).drop (i+1+D.length)).take (n+1)=L.take i++[x]++D:=by
 have h1:(L.take i++[x]).length=i+1:=by simp;omega
 have e1:(L.take i++[x]++L.drop (i+1)).take (i+1)=L.take i++[x]:=by
  rw [List.take_append_of_le_length (by omega),List.take_of_length_le (by omega)]
 rw [e1,List.take_append_of_le_length (by simp;omega),List.take_of_length_le (by simp;omega)]
theorem tH (l:List Nat) (i x:Nat):zo (yE l i x)=(zo l).take i++[.int .i64 (x:Int)]++(zo l).drop i:=by
 unfold zo yE;rw [List.map_append,List.map_cons,List.map_take,List.map_drop];simp
end Hs
namespace Go.Proofs.YtbnnlkdhpifpeaaGreatDoor
open Go.RowKit Hs Go.Shelf
def ins_ren:Go.Shelf.Ren:=⟨fun | 21=>314 | 27=>328 | 28=>329 | 35=>340 | 39=>343 | n=>n,fun | 0=>0 | 3=>3 | 4=>4 | 22=>22 | n=>n,fun | n=>n⟩
theorem sC:Go.Proofs.Lays2.n21 Tryz.prog ins_ren:={
 mixed:=by kernel_rfl
 f21:=Tryz.func314.trans (congrArg some (by kernel_rfl))
 f27:=Tryz.func328.trans (congrArg some (by kernel_rfl))
 f28:=Tryz.func329.trans (congrArg some (by kernel_rfl))
 f35:=Tryz.func340.trans (congrArg some (by kernel_rfl))
 f39:=Tryz.func343.trans (congrArg some (by kernel_rfl))
 t0:=Tryz.underlying0
 a0:=Tryz.isAgg0
 z0:=Tryz.sizeOf0
 v0:=Tryz.zeroValue0
 t3:=Tryz.underlying3
 a3:=Tryz.isAgg3
 z3:=Tryz.sizeOf3
 v3:=Tryz.zeroValue3
 t4:=Tryz.underlying4
 a4:=Tryz.isAgg4
 z4:=Tryz.sizeOf4
 v4:=Tryz.zeroValue4
 t22:=Tryz.underlying22
 a22:=Tryz.isAgg22
 z22:=Tryz.sizeOf22
 v22:=Tryz.zeroValue22
 i3:=by kernel_rfl }
theorem Sl (v:Value) (l:List Nat) (i x base vb:Nat) (w:World) (hown:w.ownsRow base 3 1 v l.length (zo l)) (hb:base≤w.heap.size) (hi:i≤l.length) (hl:l.length≤100000)
  (hx:BlkL w vb 3 [.int .i64 (x:Int)]) (hne:v.ownBlock≠some vb) :
  Calls Tryz.prog 314 #[v,.int .i64 (i:Int),.slice (some ⟨vb,0,none⟩) 1 1] w fun e w'=>(∃ v',e= .returned v'∧w'.ownsRow base 3 1 v' (l.length+1) (zo (yE l i x)))∧w.grownBy w' v.ownBlock:=by
 have hvs:∀ j u,[Value.int .i64 (x:Int)][j]? =some u→w.cell? ⟨vb,0+j,none⟩=some u:=fun j u hj=>by rw [Nat.zero_add];exact hx.c j u hj
 have h1v:∀ u∈[Value.int .i64 (x:Int)],u.oneCell'=true:=by intro u hu;simp at hu;subst hu;rfl
 have hcl:(zo l).length=l.length:=uO l;have hpl:(zo (yE l i x)).length=l.length+1:=by rw [uO,xZ]
 rcases hown.2 with ⟨rfl,h0⟩ | ⟨g,cap,cur,rfl,hbg,hg,hnc,hcm,hcs,ht⟩
 ·have hl0:l=[]:=List.eq_nil_of_length_eq_zero h0;subst hl0;obtain rfl:i=0:=by simpa using hi
  refine (Any2.slices_Insert_int_end_grow sC none 0 0 vb 0 1 1 [] [.int .i64 (x:Int)] w (by omega) (by omega) (by omega) (by omega) rfl rfl (fun _=>rfl) (by intro a ha;cases ha) hvs h1v).mono ?_;rintro e w' ⟨rfl,rfl⟩;refine ⟨⟨_,rfl,by simp [zo,yE],.inr ⟨w.heap.size,_,_,rfl,hb,heap_alloc_new w.drew _,grownCap_ge _ _ _ _,grownCap_le_maxLen _ _ _ _ (by simp [maxLen]),?_,?_⟩⟩,sF (tR (tQ w _)) _⟩
  ·have h9:=grownCap_ge w (0+1) 0 (ins_ren.t 3);rw [Array.size_append,wu,Array.size_replicate];simp only [List.nil_append,List.size_toArray,List.length_cons,List.length_nil];omega
  simp [wu,zo,yE]
 have hL:cur.toList.length=cap:=by simpa using hcs
 have hLt:cur.toList.take l.length=zo l:=by simpa using ht
 have hBL:BlkL w g 3 cur.toList:=by unfold BlkL;simpa using hg
 have hgv:g≠vb:=by intro e;exact hne (by rw [e];rfl)
 have hcsx:∀ j u,(zo l)[j]? =some u→w.cell? ⟨g,0+j,none⟩=some u:=by
  intro j u hj;rw [Nat.zero_add];refine hBL.c j u ?_;rw [←hLt,List.getElem?_take] at hj;split at hj
  ·exact hj
  cases hj
 have hcell:∀ j,j<cap→(w.cell? ⟨g,j,none⟩).isSome=true:=by
  intro j hj;rw [hBL.c j cur.toList[j] (List.getElem?_eq_getElem (by omega))];rfl
 have hcell0:∀ j,j<cap→(w.cell? ⟨g,0+j,none⟩).isSome=true:=by intro j hj;rw [Nat.zero_add];exact hcell j hj
 by_cases hroom:l.length+1≤cap
 ·rcases Nat.lt_or_ge i l.length with hin | hin
  ·refine (Any2.slices_Insert_int_shift sC g 0 l.length cap i vb 0 1 1 (zo l) [.int .i64 (x:Int)] w hin (by omega) hroom (by unfold maxLen at hcm;omega) (fun e=>hgv e.symm) hcl rfl hcsx (fun j hj=>hcell0 j (by omega)) (fun j hj=>hBL.f _) hvs (rV l) h1v 3 3 1 cap (by have h9:=hx;unfold BlkL at h9;simp [World.shape?,h9]) (by simp [World.shape?,hg,hcs]) (by omega) (hx.f _) (hx.f _)).mono ?_;rintro e w' ⟨rfl,rfl⟩;have hD:((zo l).drop i).length=l.length - i:=by rw [List.length_drop,hcl]
   have b1:=BlkL.setCells ((zo l).drop i) (0+(i+1)) w.drew cur.toList hBL (by rw [hD];omega);have b2:=BlkL.setCells [.int .i64 (x:Int)] (0+i) _ _ b1 (by simp;omega);simp only [Nat.zero_add] at b2 ⊢;refine ⟨⟨_,rfl,hpl.trans (by omega),.inr ⟨g,cap,_,rfl,hbg,b2,hroom,hcm,by simp;omega,?_⟩⟩,wi (wi (tR (tQ w _)) (uC g _ _ _)) (uC g _ _ _)⟩;have h8:=UE cur.toList ((zo l).drop i) (.int .i64 (x:Int)) i l.length (by omega) hi hD;have h7:cur.toList.take i=(zo l).take i:=by rw [←hLt,List.take_take,Nat.min_eq_left hi]
   rw [Nat.mul_one,tH,←h7];exact h8
  obtain rfl:i=l.length:=by omega
  refine (Any2.slices_Insert_int_end_room sC g 0 l.length cap vb 0 1 1 [.int .i64 (x:Int)] w (by omega) hroom (by unfold maxLen at hcm;omega) rfl (fun j hj=>by rw [Nat.zero_add];exact hcell _ (by omega)) (fun j hj=>hBL.f _) hvs h1v).mono ?_;rintro e w' ⟨rfl,rfl⟩;have b1:=BlkL.setCells [.int .i64 (x:Int)] (0+l.length) w cur.toList hBL (by simp;omega);rw [Nat.zero_add] at b1;refine ⟨⟨_,rfl,hpl.trans (by omega),.inr ⟨g,cap,_,rfl,hbg,by rw [Nat.zero_add];exact b1,hroom,hcm,by simp;omega,?_⟩⟩,uC g _ _ _⟩;rw [Nat.mul_one,tH,hLt,List.take_of_length_le (by omega:(zo l).length≤l.length),List.drop_of_length_le (by omega:(zo l).length≤l.length),List.append_nil];simp only [List.toList_toArray];rw [List.take_append_of_le_length (by simp),List.take_of_length_le (by simp)]
 rcases Nat.lt_or_ge i l.length with hin | hin
 ·refine (Any2.slices_Insert_int_grow sC g 0 l.length cap i vb 0 1 1 (zo l) [.int .i64 (x:Int)] w hin (by omega) hnc (by omega) (by omega) hcl rfl hcsx hvs (rV l) h1v).mono ?_;rintro e w' ⟨rfl,rfl⟩;have hD:((zo l).drop i).length=l.length - i:=by rw [List.length_drop,hcl]
  have hA:((zo l).take i).length=i:=by rw [List.length_take,hcl];omega
  have hge:=grownCap_ge w (l.length+1) cap (ins_ren.t 3);have hle:=grownCap_le_maxLen w (l.length+1) cap (ins_ren.t 3) (by unfold maxLen;omega);obtain ⟨C,hC⟩:=KZ6 (grownCap w (l.length+1) cap (ins_ren.t 3));rw [←hC] at hge hle ⊢;rw [wu,wu];obtain ⟨Z,hZ⟩:∃ Z:List Value,Z=(zo l).take i++List.replicate (l.length+1 - i) (.int .i64 0)++List.replicate (C - (l.length+1)) (.int .i64 0):=⟨_,rfl⟩;have hZa:((zo l).take i).toArray++Array.replicate (l.length+1 - i) (Value.int .i64 0)++Array.replicate (C - (l.length+1)) (Value.int .i64 0)=Z.toArray:=by rw [hZ];simp
  rw [hZa];have hZl:Z.length=C:=by rw [hZ];simp [hA];omega
  have hZt:Z.take i=(zo l).take i:=by rw [hZ,List.append_assoc,List.take_append_of_le_length (by omega),List.take_of_length_le (by omega)]
  have b0:BlkL (w.alloc (.cells Z.toArray (ins_ren.t 3))).drew w.heap.size 3 Z:=(BlkL.new w 3 Z).drew;have b1:=BlkL.setCells [.int .i64 (x:Int)] i _ _ b0 (by simp;omega);have b2:=BlkL.setCells ((zo l).drop i) (i+1) _ _ b1.drew (by simp;omega);refine ⟨⟨_,rfl,hpl.trans (by omega),.inr ⟨w.heap.size,C,_,rfl,hb,b2,hge,hle,by simp;omega,?_⟩⟩,tS (Nat.le_refl _) _ _ _ (tR (tS (Nat.le_refl _) _ _ _ (tR (sF (tQ w _) _))))⟩;have h8:=UD Z ((zo l).drop i) (.int .i64 (x:Int)) i l.length (by omega) hi hD;rw [Nat.mul_one,tH,←hZt];exact h8
 obtain rfl:i=l.length:=by omega
 refine (Any2.slices_Insert_int_end_grow sC (some ⟨g,0,none⟩) l.length cap vb 0 1 1 (zo l) [.int .i64 (x:Int)] w (by omega) hnc (by omega) (by omega) hcl rfl (by intro h;cases h) (by intro a ha j u hj;cases ha;rw [dx];exact hcsx j u hj) hvs h1v).mono ?_;rintro e w' ⟨rfl,rfl⟩;have hge:=grownCap_ge w (l.length+1) cap (ins_ren.t 3);have hle:=grownCap_le_maxLen w (l.length+1) cap (ins_ren.t 3) (by unfold maxLen;omega);refine ⟨⟨_,rfl,hpl.trans (by omega),.inr ⟨w.heap.size,_,_,rfl,hb,heap_alloc_new w.drew _,hge,hle,?_,?_⟩⟩,sF (tR (tQ w _)) _⟩
 ·rw [Array.size_append,wu,Array.size_replicate];simp;omega
 rw [wu,tH,Nat.mul_one,List.take_of_length_le (by omega:(zo l).length≤l.length),List.drop_of_length_le (by omega:(zo l).length≤l.length),List.append_nil,b6];simp only [List.toList_toArray];rw [List.take_append_of_le_length (by simp),List.take_of_length_le (by simp)]
end Go.Proofs.YtbnnlkdhpifpeaaGreatDoor
