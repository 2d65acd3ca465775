/- What the proof of TopDecisionTable uses, part Dec01. -/
import Derived.ShutString
import Derived.Handy
import Derived.WalkSpells
import Derived.WalkLawsBesides
import Derived.WalkSmall
import Derived.Lib.Hide
import Derived.BigQuiet
import Derived.BigGuardPart
import Derived.Deep.QuietTactic
import Derived.Deep.RegionWith
import Derived.StillTailTactics
import Derived.Laws.AppendOwnNone
import Derived.Lib.SplitLaws
import Derived.Lib.ItoaNum
import Derived.Lib.LastIndexByte
import Derived.Lib.ValidLaws
import Derived.Lib.RuneCount
import Derived.Lib.IndexAny
import Derived.Test.YtjbciamhhfcdoaaGreatDoorRows
import Derived.WalkKit
import Derived.WalkMore
import Derived.Lib.Hide
theorem KZ9 {p : Prop} (h : p) : Go.RowKit.Hid p := Go.Lib.hid h
theorem KZ8 {p : Prop} [i : Decidable p] (h : ¬p) : decide p = false := decide_eq_false h
theorem KZ7 {p : Prop} [i : Decidable p] (h : p) : decide p = true := decide_eq_true h
theorem KZ6.{u} {a : Sort u} (e : a) : ∃ x, x = e := ⟨e, rfl⟩
set_option linter.unusedSimpArgs false
set_option linter.unusedVariables false
namespace Hs
open Go
abbrev Bs:=List UInt8
def mk (l:Bs):ByteArray:=⟨l.toArray⟩
def un (s:ByteArray):Bs:=s.data.toList
@[simp] theorem zj (l:Bs):un (mk l)=l:=by simp [un,mk]
@[simp] theorem vd (s:ByteArray):mk (un s)=s:=by cases s;simp [un,mk]
@[simp] theorem zh (l:Bs):(mk l).size=l.length:=by simp [mk,ByteArray.size]
@[simp] theorem zb (s:ByteArray):(un s).length=s.size:=by cases s;simp [un,ByteArray.size]
theorem zl (s:ByteArray):s.toList=un s:=_root_.Go.ByteArray.toList_eq s
theorem QY {a b:ByteArray} (h:un a=un b):a=b:=by rw [←vd a,←vd b,h]
theorem Vq (a b:ByteArray):un (a++b)=un a++un b:=by simp [un,ByteArray.data_append]
theorem toList_mk' (l:Bs):(mk l).toList=l:=by rw [zl,zj]
theorem zK (a b:Bs):mk (a++b)=mk a++mk b:=QY (by rw [zj,Vq,zj,zj])
theorem sJ {a b:ByteArray} (h:un a=un b):a=b:=by rw [←vd a,←vd b,h]
theorem zL (s:ByteArray) (k:Nat) (h:k<s.size):(un s)[k]'(by simpa using h)=s[k]:=rfl
theorem xk (s:ByteArray) (a b:Nat):un (s.extract a b)=((un s).drop a).take (b - a):=by
 simp [un,ByteArray.data_extract,List.extract_eq_take_drop]
theorem yo (a b:ByteArray):un (a++b)=un a++un b:=by simp [un,ByteArray.data_append]
def zI (b:UInt8):Bool:=decide (48≤b.toNat∧b.toNat≤57)
def Td (b:UInt8):Bool:=decide (b.toNat=32∨b.toNat=9)
def wR (b:UInt8):Bool:=decide (b.toNat=32∨b.toNat=9∨b.toNat=10∨b.toNat=12∨b.toNat=13)
def wi (b:UInt8):Bool:=decide (65≤b.toNat∧b.toNat≤90)
def sk (b:UInt8):Bool:=decide (97≤b.toNat∧b.toNat≤122)
def we (b:UInt8):UInt8:=if wi b then b+32 else b
theorem Sj (b:UInt8):we (we b)=we b:=by
 unfold we wi;have h:(b+32).toNat=(b.toNat+32) % 256:=UInt8.toNat_add b 32;have hb:=b.toNat_lt;by_cases h1:65≤b.toNat<;>by_cases h2:b.toNat≤90<;>simp [h1,h2,h]<;>omega
def zt (l:Bs):Bs:=l.map we
@[simp] theorem yK (l:Bs):(zt l).length=l.length:=by simp [zt]
theorem YN (a b:Bs):zt (a++b)=zt a++zt b:=by simp [zt]
theorem V5 (l:Bs) (k:Nat) (h:k<l.length):zt (l.take (k+1))=zt (l.take k)++[we l[k]]:=by
 rw [List.take_succ_eq_append_getElem h,YN];rfl
def tu (l:Bs):Bool:= !l.isEmpty&&l.all zI
def yT:Bs→Bs→List Bs
 | cur,[]=>if cur.isEmpty then [] else [cur]
 | cur,b::r=>if wR b then (if cur.isEmpty then yT [] r else cur::yT [] r) else yT (cur++[b]) r
def sD (l:Bs):List Bs:=yT [] l
def seg (l:Bs) (fr k:Nat):Bs:=(l.drop fr).take (k - fr)
theorem Rc (l:Bs) (fr k:Nat) (h:fr≤k) (hk:k<l.length):seg l fr (k+1)=seg l fr k++[l[k]]:=by
 unfold seg;have hd:k - fr<(l.drop fr).length:=by simp;omega
 have e:k+1 - fr=k - fr+1:=by omega
 rw [e,List.take_succ_eq_append_getElem hd]
 congr 2
 simp only [List.getElem_drop]
 congr 1
 omega
@[simp] theorem Rd (l:Bs) (k:Nat):seg l k k=[]:=by simp [seg]
theorem Ub (l:Bs) (fr k:Nat) (h:fr≤k) (hk:k≤l.length):(seg l fr k).length=k - fr:=by simp [seg];omega
theorem Zl (l:Bs) (fr k:Nat) (h:fr≤k) (hk:k≤l.length):(seg l fr k).isEmpty=decide (fr=k):=by
 have:=Ub l fr k h hk;rw [Bool.eq_iff_iff,List.isEmpty_iff,decide_eq_true_eq,←List.length_eq_zero_iff];omega
theorem jK (s:ByteArray) (a b:Nat):un (s.extract a b)=seg (un s) a b:=xk s a b
theorem yP (s:ByteArray) (a b:Nat):s.extract a b=mk (seg (un s) a b):=by rw [←jK,vd]
theorem j9 (l:Bs) (k:Nat):seg l k l.length=l.drop k:=by unfold seg;exact List.take_of_length_le (by simp)
theorem Xt (l:Bs) (k:Nat):seg l 0 k=l.take k:=by simp [seg]
theorem gQ (l:Bs) (fr k:Nat) (h:fr≤k) (hk:k<l.length) (hs:wR l[k]=false) :
  yT (seg l fr k) (l.drop k)=yT (seg l fr (k+1)) (l.drop (k+1)):=by
 rw [List.drop_eq_getElem_cons hk,Rc l fr k h hk];simp [yT,hs]
theorem jH (l:Bs) (fr k:Nat) (h:fr≤k) (hk:k<l.length) (hs:wR l[k]=true) :
  yT (seg l fr k) (l.drop k)=(if fr<k then [seg l fr k] else [])++yT [] (l.drop (k+1)):=by
 rw [List.drop_eq_getElem_cons hk];have e:=Zl l fr k h (by omega);by_cases hlt:fr<k
 ·have:decide (fr=k)=false:=by simp;omega
  rw [this] at e;simp [yT,hs,hlt,e]
 have:decide (fr=k)=true:=by simp;omega
 rw [this] at e;simp [yT,hs,hlt,e]
theorem Yf (l:Bs) (fr:Nat) (h:fr≤l.length) :
  yT (seg l fr l.length) (l.drop l.length)=(if fr<l.length then [seg l fr l.length] else []):=by
 have e:=Zl l fr l.length h (by omega);rw [List.drop_length];by_cases hlt:fr<l.length
 ·have:decide (fr=l.length)=false:=by simp;omega
  rw [this] at e;simp [yT,hlt,e]
 have:decide (fr=l.length)=true:=by simp;omega
 rw [this] at e;simp [yT,hlt,e]
def WordsTo (l:Bs) (D:List Bs) (fr k:Nat):Prop:=(k≤l.length→D++yT (seg l fr k) (l.drop k)=sD l)∧(k=l.length+1→D=sD l)
theorem WordsTo.start (l:Bs):WordsTo l [] 0 0:=⟨fun _=>by simp [sD],fun h=>by omega⟩
theorem WordsTo.char {l:Bs} {D:List Bs} {fr k:Nat} (h:WordsTo l D fr k) (hf:fr≤k) (hk:k<l.length) (hs:wR l[k]=false):WordsTo l D fr (k+1) :=
 ⟨fun _=>by rw [←gQ l fr k hf hk hs];exact h.1 (by omega),fun e=>by omega⟩
theorem WordsTo.cut {l:Bs} {D:List Bs} {fr k:Nat} (h:WordsTo l D fr k) (hf:fr≤k) (hk:k≤l.length) (hs:∀ hk':k<l.length,wR l[k]=true) :
  WordsTo l (D++(if fr<k then [seg l fr k] else [])) (k+1) (k+1):=by
 have h1:=h.1 hk;refine ⟨fun hk'=> ?_,fun e=> ?_⟩
 ·rw [jH l fr k hf (by omega) (hs (by omega))] at h1;rw [Rd,List.append_assoc];exact h1
 have e':k=l.length:=by omega
 subst e';rw [Yf l fr hf] at h1;exact h1
theorem QQ (l:Bs) (p:UInt8→Bool) (k:Nat) (hk:k<l.length):(l.drop k).all p=(p l[k]&&(l.drop (k+1)).all p):=by
 rw [List.drop_eq_getElem_cons hk,List.all_cons]
theorem zQ (l:Bs) (p:UInt8→Bool) (k:Nat) (hk:k<l.length) (b:Bool) (h:p l[k]=b):(l.drop k).all p=(b&&(l.drop (k+1)).all p):=by
 rw [QQ l p k hk,h]
end Hs
namespace Hs
open Go Go.RowKit
theorem QK {p:Prop} [Decidable p] (h:p):true=decide p:=(KZ7 h).symm
theorem Uz {p:Prop} [Decidable p] (h:¬ p):false=decide p:=(KZ8 h).symm
theorem Jv {p q:Prop} [Decidable p] [Decidable q] (h:p↔q):decide p=decide q:=by simp [h]
theorem UD {a b:Int} {q:Prop} [Decidable q] (h:a=b↔q):(a==b)=decide q:=by rw [Bool.eq_iff_iff];simp [h]
theorem Uy {a b:Int} {q:Prop} [Decidable q] (h:a≠b↔q):(a != b)=decide q:=by rw [Bool.eq_iff_iff];simp [←h]
theorem uD {a b:Bool} (h:a=b):Ending.returned (.bool a)= .returned (.bool b):=by rw [h]
theorem Yu {k:IntKind} {a b:Int} (h:a=b):Ending.returned (.int k a)= .returned (.int k b):=by rw [h]
theorem UV {a b:ByteArray} (h:un a=un b):Ending.returned (.string a)= .returned (.string b):=by rw [sJ h]
theorem yA {W w1:World} (hb:Below W.heap.size W w1):(∀ b o,b<W.heap.size→w1.cell? ⟨b,o,none⟩=W.cell? ⟨b,o,none⟩)∧(∀ b o,b<W.heap.size→w1.frozen? ⟨b,o,none⟩=W.frozen? ⟨b,o,none⟩) :=
 ⟨fun b o h=>hb.cell (p:=⟨b,o,none⟩) h,fun b o h=>hb.frozen (p:=⟨b,o,none⟩) h⟩
def Row (w:World) (v:Value) (size n:Nat) (xs:List Value):Prop :=
 xs.length=n*size∧∃ a cap,v= .slice a n cap∧n≤cap∧cap≤maxLen ∧
  (n=0∨∃ b off,a=some ⟨b,off,none⟩∧b<w.heap.size∧∀ j u,xs[j]? =some u→w.cell? ⟨b,off+j,none⟩=some u)
theorem Row.below {w w':World} {v:Value} {size n:Nat} {xs:List Value} (h:Row w v size n xs) (hb:Below w.heap.size w w'):Row w' v size n xs:=by
 obtain ⟨hl,a,cap,hv,hn,hm,h⟩:=h;refine ⟨hl,a,cap,hv,hn,hm,h.imp id ?_⟩;rintro ⟨b,off,ha,hlt,hc⟩;exact ⟨b,off,ha,by have:=hb.size;omega,fun j u hj=>((yA hb).1 b (off+j) hlt).trans (hc j u hj)⟩
theorem Row.nil (w:World) (size:Nat):Row w (.slice none 0 0) size 0 [] :=
 ⟨by simp,none,0,rfl,Nat.le_refl _,by simp [maxLen],.inl rfl⟩
theorem Row.owned {w:World} {base:Nat} {e:TypeId} {size n:Nat} {v:Value} {xs:List Value} (h:w.ownsRow base e size v n xs):Row w v size n xs:=by
 have hl:=h.1;rcases h.2 with ⟨rfl,rfl⟩ | ⟨g,cap,cur,rfl,hb,hg,hn,hm,hs,ht⟩
 ·exact ⟨hl,none,0,rfl,Nat.le_refl _,by simp [maxLen],.inl rfl⟩
 refine ⟨hl,_,cap,rfl,hn,hm,.inr ⟨g,0,rfl,(Array.getElem?_eq_some_iff.1 hg).1,fun j u hj=> ?_⟩⟩;have:=h.cells (g:=g) rfl j u hj;have hadd:(⟨g,0,none⟩:Addr).add j=⟨g,j,none⟩:=by unfold Addr.add;split<;>simp_all
 rw [hadd] at this
 simpa using this
def yb (l:Bs):List Value:=l.map fun b=> .int .u8 (b.toNat:Int)
@[simp] theorem g9 (l:Bs):(yb l).length=l.length:=by simp [yb]
theorem zU (a b:Bs):yb (a++b)=yb a++yb b:=by simp [yb]
theorem yI {P:Program} {w:World} {v:Value} {n:Nat} {l:Bs} (h:Row w v 1 n (yb l)) {src dst e:TypeId}
  (hs:P.underlying src=some (.slice e)) (he:P.underlying e=some (.int .u8)) (hd:P.underlying dst=some .string) :
  (convert src dst v).run P w= .ok (.string (mk l)) w:=by
 obtain ⟨hl,a,cap,rfl,hn,hm,h⟩:=h;have hn':n=l.length:=by simpa using hl.symm
 subst hn';rcases h with h0 | ⟨b,off,rfl,hlt,hc⟩
 ·have:l=[]:=List.eq_nil_of_length_eq_zero h0;subst this;rw [run_convert_bytes_string w src dst e a _ cap hs he hd];cases a with
  | none=>simp [Conv.bytesToString,mk];rfl
  | some a=>exact run_bytesToString w a 0 cap [] (by simp [loadCells,loadCellsFrom])
 refine run_convert_bytes_back w src dst e ⟨b,off,none⟩ cap l hs he hd ?_;intro j hj;have:=hc j (.int .u8 (l[j].toNat:Int)) (by simp [yb,List.getElem?_eq_getElem hj]);have hadd:(⟨b,off,none⟩:Addr).add j=⟨b,off+j,none⟩:=by unfold Addr.add;split<;>simp_all
 rw [hadd];exact this
def zy (l:List Bs):List Value:=l.map fun t=> .string (mk t)
@[simp] theorem QW (l:List Bs):(zy l).length=l.length:=by simp [zy]
theorem xF (a b:List Bs):zy (a++b)=zy a++zy b:=by simp [zy]
def Strs (w:World) (v:Value) (l:List Bs):Prop:=Row w v 1 l.length (zy l)
theorem Strs.below {w w':World} {v:Value} {l:List Bs} (h:Strs w v l) (hb:Below w.heap.size w w'):Strs w' v l:=Row.below h hb
theorem Strs.open {w:World} {v:Value} {l:List Bs} (h:Strs w v l):∃ a cap,v= .slice a l.length cap∧l.length≤cap∧cap≤maxLen ∧
  ∀ (hn:0<l.length),∃ b off,a=some ⟨b,off,none⟩∧b<w.heap.size∧∀ j (hj:j<l.length),w.cell? ⟨b,off+j,none⟩=some (.string (mk l[j])):=by
 obtain ⟨hl,a,cap,rfl,hn,hm,h⟩:=h;refine ⟨a,cap,rfl,hn,hm,fun h0=> ?_⟩;rcases h with h | ⟨b,off,ha,hlt,hc⟩
 ·omega
 exact ⟨b,off,ha,hlt,fun j hj=>hc j _ (by simp [zy,List.getElem?_eq_getElem hj])⟩
def px:Value→Nat | .string s=>s.size | _=>0
theorem jP (w:World) (l:List ByteArray) (T:TypeId) (h:l.length≤maxLen):Strs (w.alloc (.cells (l.map Value.string).toArray T)) (.slice (some ⟨w.heap.size,0,none⟩) l.length l.length) (l.map un):=by
 refine ⟨by simp,some ⟨w.heap.size,0,none⟩,l.length,by simp,by simp,h,.inr ⟨w.heap.size,0,rfl,by simp,fun j u hj=> ?_⟩⟩;rw [Nat.zero_add,World.cell?_alloc_mark]
 simpa [zy,Function.comp_def] using hj
end Hs
namespace Hs
open Go
def pv (b:UInt8):Nat:=if 97≤b.toNat∧b.toNat≤122 then b.toNat - 97 else if 65≤b.toNat∧b.toNat≤90 then b.toNat - 65 else if 48≤b.toNat∧b.toNat≤57 then b.toNat - 48+26 else 99
theorem kt (b:UInt8):(97≤b.toNat∧b.toNat≤122∧pv b=b.toNat - 97)∨(65≤b.toNat∧b.toNat≤90∧pv b=b.toNat - 65)∨(48≤b.toNat∧b.toNat≤57∧pv b=b.toNat - 48+26)∨(¬ (97≤b.toNat∧b.toNat≤122)∧¬ (65≤b.toNat∧b.toNat≤90)∧¬ (48≤b.toNat∧b.toNat≤57)∧pv b=99):=by
 unfold pv;split
 ·omega
 split
 ·omega
 split<;>omega
theorem P4 {b:UInt8} (h:pv b≠99):pv b<36:=by have:=kt b;omega
def pvI (b:UInt8):Int:=if pv b=99 then -1 else (pv b:Int)
def pd (d:Nat):UInt8:=if d<26 then UInt8.ofNat (97+d) else UInt8.ofNat (22+d)
theorem Rv (d:Nat) (h:d<36):(((pd d).toNat:Nat):Int)=if d<26 then ((97+d:Nat):Int) else ((22+d:Nat):Int):=by
 have:∀ d:Fin 36,(pd d.1).toNat=if d.1<26 then 97+d.1 else 22+d.1:=by decide
 have:=this ⟨d,h⟩;simp only at this;rw [this];split<;>rfl
def thr (k bias:Nat):Nat:=max 1 (min 26 (36*(k+1) - bias))
theorem wm (k bias:Nat):1≤thr k bias∧thr k bias≤26:=by unfold thr;omega
def wf (e k:Nat):Nat:=if h:455<e then wf (e / 35) (k+36) else k+36*e / (e+38)
termination_by e
decreasing_by exact Nat.div_lt_self (by omega) (by omega)
theorem qs {e k:Nat} (h:455<e):wf e k=wf (e / 35) (k+36):=by rw [wf,dif_pos h]
theorem um {e k:Nat} (h:¬ 455<e):wf e k=k+36*e / (e+38):=by rw [wf,dif_neg h]
def xV (delta count:Nat) (first:Bool):Nat:=wf ((if first=true then delta / 700 else delta / 2)+(if first=true then delta / 700 else delta / 2) / count) 0
theorem Yd:∀ (j e k:Nat),e<456*35 ^ j→wf e k≤k+36*j+36
 | 0,e,k,h=>by
  rw [um (by simp at h;omega)];have:36*e / (e+38)≤36:=by
   apply Nat.le_of_lt_succ;rw [Nat.div_lt_iff_lt_mul (by omega)];omega
  omega
 | j+1,e,k,h=>by
  by_cases hb:455<e
  ·rw [qs hb];have:=Yd j (e / 35) (k+36) (by rw [Nat.pow_succ,←Nat.mul_assoc] at h;exact Nat.div_lt_of_lt_mul (by rw [Nat.mul_comm];exact h));omega
  rw [um hb];have:36*e / (e+38)≤36:=by
   apply Nat.le_of_lt_succ;rw [Nat.div_lt_iff_lt_mul (by omega)];omega
  omega
theorem uB (delta count:Nat) (first:Bool) (h:delta≤1099511627776):xV delta count first≤324:=by
 unfold xV;have h1:(if first=true then delta / 700 else delta / 2)≤549755813888:=by split<;>omega
 generalize (if first=true then delta / 700 else delta / 2)=d at h1;have h2:d / count≤d:=Nat.div_le_self _ _;have h3:(35:Nat) ^ 8=2251875390625:=by decide
 have:=Yd 8 (d+d / count) 0 (by omega);omega
def xl (n:Nat):Bool:=decide (n≤1114111∧(n<55296∨57343<n))
def vi:Bs→Nat→Nat→Nat→Nat→Option (Nat × Bs)
 | [],_,_,_,_=>none
 | b::r,i,w,k,bias =>
  if pv b=99 then none
  else if 1099511627776<i+pv b*w then none
  else if pv b<thr k bias then some (i+pv b*w,r)
  else if 1099511627776<w*(36 - thr k bias) then none
  else vi r (i+pv b*w) (w*(36 - thr k bias)) (k+1) bias
theorem t6:∀ (l:Bs) (i w k bias:Nat) (p:Nat × Bs),vi l i w k bias=some p→p.2.length<l.length∧i≤p.1∧p.1≤1099511627776
 | [],i,w,k,bias,p,h=>by cases h
 | b::r,i,w,k,bias,p,h=>by
  unfold vi at h;split at h
  ·cases h
  split at h
  ·cases h
  split at h
  ·cases h;simp;omega
  split at h
  ·cases h
  have:=t6 r _ _ _ _ p h;simp;omega
def xf (l:List Nat) (i n:Nat):List Nat:=l.take i++n::l.drop i
theorem wz (l:List Nat) (i n:Nat):(xf l i n).length=l.length+1:=by simp [xf];omega
def pV:Nat→Bs→Nat→Nat→Nat→Bool→List Nat→Option (List Nat)
 | _,[],_,_,_,_,pts=>some pts
 | 0,_::_,_,_,_,_,_=>none
 | fuel+1,b::r,n,i,bias,first,pts=>match vi (b::r) i 1 0 bias with
  | none=>none
  | some p=>if xl (n+p.1 / (pts.length+1))=false then none
   else if 256<pts.length+1 then none
   else pV fuel p.2 (n+p.1 / (pts.length+1)) (p.1 % (pts.length+1)+1) (xV (p.1 - i) (pts.length+1) first) false (xf pts (p.1 % (pts.length+1)) (n+p.1 / (pts.length+1)))
theorem ZZ:∀ (f g:Nat) (l:Bs) (n i bias:Nat) (first:Bool) (pts:List Nat),l.length≤f→l.length≤g→pV f l n i bias first pts=pV g l n i bias first pts
 | _,_,[],_,_,_,_,_,_,_=>by simp [pV]
 | 0,_,b::r,_,_,_,_,_,h,_=>by simp at h
 | f+1,0,b::r,_,_,_,_,_,_,h=>by simp at h
 | f+1,g+1,b::r,n,i,bias,first,pts,hf,hg=>by
  unfold pV;cases hn:vi (b::r) i 1 0 bias with
  | none=>rfl
  | some p =>
   have:=(t6 _ _ _ _ _ p hn).1;simp only [List.length_cons] at this hf hg;simp only;rw [ZZ f g p.2 _ _ _ _ _ (by omega) (by omega)]
def rI (l:Bs) (n i bias:Nat) (first:Bool) (pts:List Nat):Option (List Nat):=pV l.length l n i bias first pts
theorem WT (n i bias:Nat) (first:Bool) (pts:List Nat):rI [] n i bias first pts=some pts:=by simp [rI,pV]
theorem tP {l:Bs} (h0:l≠[]) {n i bias:Nat} {first:Bool} {pts:List Nat} (h:vi l i 1 0 bias=none):rI l n i bias first pts=none:=by
 cases l with
 | nil=>exact absurd rfl h0
 | cons b r=>simp only [rI,List.length_cons,pV,h]
theorem Z0 {l:Bs} {n i bias:Nat} {first:Bool} {pts:List Nat} {p:Nat × Bs} (h:vi l i 1 0 bias=some p):rI l n i bias first pts=if xl (n+p.1 / (pts.length+1))=false then none else if 256<pts.length+1 then none else rI p.2 (n+p.1 / (pts.length+1)) (p.1 % (pts.length+1)+1) (xV (p.1 - i) (pts.length+1) first) false (xf pts (p.1 % (pts.length+1)) (n+p.1 / (pts.length+1))):=by
 cases l with
 | nil=>simp [vi] at h
 | cons b r =>
  have hs:=(t6 _ _ _ _ _ p h).1;simp only [List.length_cons] at hs;simp only [rI,List.length_cons,pV,h];rw [ZZ r.length p.2.length p.2 _ _ _ _ _ (by omega) (Nat.le_refl _)]
def wa:Bs→Int
 | []=> -1
 | b::r=>if 0≤wa r then wa r+1 else if b=45 then 0 else -1
theorem ul:∀ l:Bs,-1≤wa l∧wa l<l.length
 | []=>by simp [wa]
 | b::r=>by
  have:=ul r;unfold wa;split
  ·simp;omega
  split<;>simp<;>omega
def ud (l:Bs):Bs × Bs:=if 0<wa l then (l.take (wa l).toNat,l.drop ((wa l).toNat+1)) else ([],l)
theorem Qu (l:Bs):(ud l).1.length+(ud l).2.length≤l.length:=by
 have:=ul l;unfold ud;split
 ·simp;omega
 simp
def vy (l:Bs):Option (List Nat) :=
 if 1024<l.length then none
 else if l.any (fun b=>decide (128≤b.toNat))=true then none
 else if 256<(ud l).1.length then none
 else rI (ud l).2 128 0 72 true ((ud l).1.map UInt8.toNat)
def vx (q k bias:Nat):Bs:=if h:q<thr k bias then [pd q] else pd (thr k bias+(q - thr k bias) % (36 - thr k bias))::vx ((q - thr k bias) / (36 - thr k bias)) (k+1) bias
termination_by q
decreasing_by
 have h1:=wm k bias
 have h2:=Nat.div_le_self (q - thr k bias) (36 - thr k bias)
 omega
theorem uN {q k bias:Nat} (h:q<thr k bias):vx q k bias=[pd q]:=by rw [vx,dif_pos h]
theorem pk {q k bias:Nat} (h:¬ q<thr k bias):vx q k bias=pd (thr k bias+(q - thr k bias) % (36 - thr k bias))::vx ((q - thr k bias) / (36 - thr k bias)) (k+1) bias:=by rw [vx,dif_neg h]
theorem uO:∀ (j q k bias:Nat),q<10 ^ j→(vx q k bias).length≤j+1
 | 0,q,k,bias,h=>by
  have:=wm k bias;rw [uN (by simp at h;omega)];simp
 | j+1,q,k,bias,h=>by
  by_cases hs:q<thr k bias
  ·rw [uN hs];simp
  have h1:=wm k bias;rw [pk hs,List.length_cons];have h2:(q - thr k bias) / (36 - thr k bias)<10 ^ j:=by
   apply Nat.div_lt_of_lt_mul;rw [Nat.pow_succ] at h;have h3:10 ^ j*10≤(36 - thr k bias)*10 ^ j:=by rw [Nat.mul_comm];exact Nat.mul_le_mul_right _ (by omega)
   omega
  have:=uO j _ (k+1) bias h2;omega
def zw (n b0:Nat):List Nat→Bs→Nat→Nat→Nat→Bs × Nat × Nat × Nat
 | [],out,delta,bias,done=>(out,delta,bias,done)
 | p::r,out,delta,bias,done =>
  if p<n then zw n b0 r out (delta+1) bias done
  else if p=n then zw n b0 r (out++vx delta 0 bias) 0 (xV delta (done+1) (decide (done=b0))) (done+1)
  else zw n b0 r out delta bias done
def zz (n D:Nat):List Nat→Nat
 | []=>D
 | p::r=>if n≤p then min p (zz n D r) else zz n D r
def qq (pts:List Nat) (b0:Nat):Nat→Nat→Bs→Nat→Nat→Nat→Bs
 | 0,_,out,_,_,_=>out
 | f+1,n,out,delta,bias,done =>
  if pts.length≤done then out
  else qq pts b0 f (zz n 1114112 pts+1)
   (zw (zz n 1114112 pts) b0 pts out (delta+(zz n 1114112 pts - n)*(done+1)) bias done).1
   ((zw (zz n 1114112 pts) b0 pts out (delta+(zz n 1114112 pts - n)*(done+1)) bias done).2.1+1)
   (zw (zz n 1114112 pts) b0 pts out (delta+(zz n 1114112 pts - n)*(done+1)) bias done).2.2.1
   (zw (zz n 1114112 pts) b0 pts out (delta+(zz n 1114112 pts - n)*(done+1)) bias done).2.2.2
def zD (pts:List Nat):Bs:=(pts.filter (fun p=>decide (p<128))).map UInt8.ofNat
def sx (pts:List Nat):Option Bs :=
 if 256<pts.length then none
 else if pts.all xl=false then none
 else some (qq pts (zD pts).length pts.length 128 (zD pts++if (zD pts).length=0 then [] else [45]) 0 72 (zD pts).length)
def below (n:Nat) (l:List Nat):Nat:=(l.filter (fun p=>decide (p<n))).length
def ts (n:Nat) (l:List Nat):Nat:=(l.filter (fun p=>decide (p=n))).length
theorem vO (n:Nat):∀ l:List Nat,below (n+1) l=below n l+ts n l
 | []=>rfl
 | p::r=>by
  have ih:=vO n r;unfold below ts at *;simp only [List.filter_cons];by_cases h1:p<n
  ·rw [if_pos (by simp;omega),if_pos (by simpa using h1),if_neg (by simp;omega)];simp only [List.length_cons];omega
  by_cases h2:p=n
  ·rw [if_pos (by simp;omega),if_neg (by simpa using h1),if_pos (by simpa using h2)];simp only [List.length_cons];omega
  rw [if_neg (by simp;omega),if_neg (by simpa using h1),if_neg (by simpa using h2)];exact ih
theorem rl (n:Nat) (l:List Nat):below n l≤l.length:=List.length_filter_le _ _
theorem gK {n m:Nat} (hnm:n≤m):∀ l:List Nat,(∀ p∈l,n≤p→m≤p)→below m l=below n l
 | [],_=>rfl
 | p::r,h=>by
  have ih:=gK hnm r (fun q hq=>h q (List.mem_cons_of_mem _ hq));have hp:=h p (List.mem_cons_self ..);unfold below at *;simp only [List.filter_cons];by_cases h1:p<n
  ·rw [if_pos (by simp;omega),if_pos (by simpa using h1)];simp only [List.length_cons];omega
  rw [if_neg (by simp;omega),if_neg (by simpa using h1)];exact ih
theorem kQ (n D:Nat):∀ l:List Nat,∀ p∈l,n≤p→zz n D l≤p
 | [],p,h,_=>by cases h
 | q::r,p,h,hn=>by
  unfold zz;rcases List.mem_cons.1 h with rfl | h
  ·rw [if_pos hn];omega
  have:=kQ n D r p h hn;split<;>omega
theorem X9 (n D:Nat) (hD:n≤D):∀ l:List Nat,n≤zz n D l
 | []=>hD
 | q::r=>by
  have:=X9 n D hD r;unfold zz;split<;>omega
theorem sd (n D:Nat):∀ l:List Nat,(∀ p∈l,n≤p→D<p)→zz n D l=D
 | [],_=>rfl
 | q::r,h=>by
  have ih:=sd n D r (fun p hp=>h p (List.mem_cons_of_mem _ hp));have hq:=h q (List.mem_cons_self ..);unfold zz;rw [ih];split
  ·have:=hq (by assumption);omega
  rfl
theorem ZG (n D:Nat):∀ l:List Nat,(∃ p∈l,n≤p∧p≤D)→zz n D l∈l∨zz n D l=D
 | [],h=>by obtain ⟨p,hp,_⟩:=h;cases hp
 | q::r,h=>by
  unfold zz;by_cases hr:∃ p∈r,n≤p∧p≤D
  ·have ih:=ZG n D r hr;split
   ·rcases Nat.le_total q (zz n D r) with hh | hh
    ·rw [Nat.min_eq_left hh];exact .inl (List.mem_cons_self ..)
    rw [Nat.min_eq_right hh];rcases ih with h1 | h1
    ·exact .inl (List.mem_cons_of_mem _ h1)
    exact .inr h1
   rcases ih with h1 | h1
   ·exact .inl (List.mem_cons_of_mem _ h1)
   exact .inr h1
  have hD:zz n D r=D:=sd n D r (fun p hp hn=>by
   rcases Nat.lt_or_ge D p with h1 | h1
   ·exact h1
   exact absurd ⟨p,hp,hn,h1⟩ hr)
  rw [hD];split
  ·rcases Nat.le_total q D with hh | hh
   ·rw [Nat.min_eq_left hh];exact .inl (List.mem_cons_self ..)
   rw [Nat.min_eq_right hh];exact .inr rfl
  exact .inr rfl
theorem tn (n D E:Nat):∀ l:List Nat,(∃ p∈l,n≤p)→(∀ p∈l,p≤D∧p≤E)→zz n D l=zz n E l
 | [],h,_=>by obtain ⟨p,hp,_⟩:=h;cases hp
 | q::r,h,hl=>by
  unfold zz;by_cases hr:∃ p∈r,n≤p
  ·rw [tn n D E r hr (fun p hp=>hl p (List.mem_cons_of_mem _ hp))]
  have hq:n≤q:=by
   obtain ⟨p,hp,hn⟩:=h;rcases List.mem_cons.1 hp with rfl | hp
   ·exact hn
   exact absurd ⟨p,hp,hn⟩ hr
  have e1:zz n D r=D:=sd n D r (fun p hp hn=>absurd ⟨p,hp,hn⟩ hr);have e2:zz n E r=E:=sd n E r (fun p hp hn=>absurd ⟨p,hp,hn⟩ hr);have:=hl q (List.mem_cons_self ..);rw [if_pos hq,if_pos hq,e1,e2,Nat.min_eq_left this.1,Nat.min_eq_left this.2]
theorem ZW {n:Nat}:∀ {l:List Nat},below n l<l.length→∃ p∈l,n≤p
 | [],h=>by simp [below] at h
 | q::r,h=>by
  by_cases hq:n≤q
  ·exact ⟨q,List.mem_cons_self ..,hq⟩
  have:below n r<r.length:=by
   unfold below at h ⊢;rw [List.filter_cons,if_pos (by simp;omega)] at h
   simpa using h
  obtain ⟨p,hp,hn⟩:=ZW this;exact ⟨p,List.mem_cons_of_mem _ hp,hn⟩
theorem vN {n:Nat}:∀ {l:List Nat},n∈l→0<ts n l
 | [],h=>by cases h
 | q::r,h=>by
  unfold ts;rw [List.filter_cons];rcases List.mem_cons.1 h with rfl | h
  ·rw [if_pos (by simp)];simp
  have:=vN h;unfold ts at this;split
  ·simp
  exact this
theorem yh (n b0:Nat):∀ (l:List Nat) (out:Bs) (delta bias done:Nat),(zw n b0 l out delta bias done).2.2.2=done+ts n l
 | [],out,delta,bias,done=>rfl
 | p::r,out,delta,bias,done=>by
  unfold zw ts;rw [List.filter_cons];by_cases h1:p<n
  ·rw [if_pos h1,yh n b0 r,if_neg (by simp;omega)];rfl
  rw [if_neg h1];by_cases h2:p=n
  ·rw [if_pos h2,yh n b0 r,if_pos (by simpa using h2),List.length_cons];show done+1+ts n r=_;unfold ts;omega
  rw [if_neg h2,yh n b0 r,if_neg (by simpa using h2)];rfl
theorem vW (n b0:Nat):∀ (l:List Nat) (out:Bs) (delta bias done:Nat),(zw n b0 l out delta bias done).2.1≤delta+l.length∧(n∈l→(zw n b0 l out delta bias done).2.1≤l.length)
 | [],out,delta,bias,done=>⟨by simp [zw],by simp⟩
 | p::r,out,delta,bias,done=>by
  unfold zw;by_cases h1:p<n
  ·rw [if_pos h1];have ih:=vW n b0 r out (delta+1) bias done;refine ⟨by have:=ih.1;simp;omega,fun h=> ?_⟩;rcases List.mem_cons.1 h with h | h
   ·omega
   have:=ih.2 h;simp;omega
  rw [if_neg h1];by_cases h2:p=n
  ·rw [if_pos h2];have ih:=vW n b0 r (out++vx delta 0 bias) 0 (xV delta (done+1) (decide (done=b0))) (done+1);refine ⟨by have:=ih.1;simp;omega,fun h=>by have:=ih.1;simp;omega⟩
  rw [if_neg h2];have ih:=vW n b0 r out delta bias done;refine ⟨by have:=ih.1;simp;omega,fun h=> ?_⟩;rcases List.mem_cons.1 h with h | h
  ·exact absurd h.symm h2
  have:=ih.2 h;simp;omega
structure EncSt (pts:List Nat) (b0:Nat) (R:Bs) (n:Nat) (out:Bs) (delta bias done:Nat):Prop where
 rest:∃ f,R=qq pts b0 f n out delta bias done∧pts.length≤done+f
 count:done=below n pts
 small:delta≤257
 fits:out.length≤257+11*done
 low:bias≤324
theorem EncSt.fin {pts:List Nat} {b0:Nat} {R:Bs} {n:Nat} {out:Bs} {delta bias done:Nat} (h:EncSt pts b0 R n out delta bias done) (hd:pts.length≤done):R=out:=by
 obtain ⟨f,hf,_⟩:=h.rest;cases f with
 | zero=>rw [hf];rfl
 | succ f=>rw [hf,qq,if_pos hd]
theorem EncSt.more {pts:List Nat} {b0:Nat} {R:Bs} {n:Nat} {out:Bs} {delta bias done:Nat} (h:EncSt pts b0 R n out delta bias done) (hd:done<pts.length) (hp:∀ p∈pts,p≤1114111) :
  n≤zz n 1114112 pts∧zz n 1114112 pts≤1114111∧zz n 1114112 pts∈pts∧below (zz n 1114112 pts) pts=done∧∃ p∈pts,n≤p:=by
 have hc:=h.count;obtain ⟨p,hm,hn⟩:=ZW (n:=n) (l:=pts) (by omega);have h1:=kQ n 1114112 pts p hm hn;have h2:=hp p hm;have h3:=ZG n 1114112 pts ⟨p,hm,hn,by omega⟩;have h4:zz n 1114112 pts∈pts:=by
  rcases h3 with h | h
  ·exact h
  omega
 have h5:=X9 n 1114112 (by omega) pts;exact ⟨h5,by omega,h4,by rw [hc];exact gK h5 pts (fun q hq hnq=>kQ n 1114112 pts q hq hnq),p,hm,hn⟩
theorem EncSt.next {pts:List Nat} {b0:Nat} {R:Bs} {n:Nat} {out:Bs} {delta bias done:Nat} (h:EncSt pts b0 R n out delta bias done) (hd:done<pts.length) (hl:pts.length≤256) (hp:∀ p∈pts,p≤1114111) (S:Bs × Nat × Nat × Nat)
  (hS:S=zw (zz n 1114112 pts) b0 pts out (delta+(zz n 1114112 pts - n)*(done+1)) bias done) (hout:S.1.length≤257+11*S.2.2.2) (hbias:S.2.2.1≤324):EncSt pts b0 R (zz n 1114112 pts+1) S.1 (S.2.1+1) S.2.2.1 S.2.2.2:=by
 obtain ⟨h1,h2,h3,h4,_⟩:=h.more hd hp;obtain ⟨f,hf,hlen⟩:=h.rest;have hdone:S.2.2.2=done+ts (zz n 1114112 pts) pts:=by rw [hS,yh]
 have hpos:=vN h3;refine ⟨?_,?_,?_,hout,hbias⟩
 ·cases f with
  | zero=>omega
  | succ f =>
   refine ⟨f,?_,by omega⟩;rw [hf,qq,if_neg (by omega),←hS]
 ·rw [hdone,vO,h4]
 have:=(vW (zz n 1114112 pts) b0 pts out (delta+(zz n 1114112 pts - n)*(done+1)) bias done).2 h3;rw [←hS] at this;omega
theorem ZX (pts:List Nat) (hl:pts.length≤256):EncSt pts (zD pts).length (qq pts (zD pts).length pts.length 128 (zD pts++if (zD pts).length=0 then [] else [45]) 0 72 (zD pts).length) 128 (zD pts++if (zD pts).length=0 then [] else [45]) 0 72 (zD pts).length:=by
 have hb:(zD pts).length=below 128 pts:=by unfold zD below;rw [List.length_map]
 have hle:=rl 128 pts;refine ⟨⟨pts.length,rfl,by omega⟩,hb,by omega,?_,by omega⟩;split<;>simp<;>omega
theorem sy {n b0 p:Nat} {r:List Nat} {out:Bs} {delta bias done:Nat} (h:p<n):zw n b0 (p::r) out delta bias done=zw n b0 r out (delta+1) bias done:=by rw [zw,if_pos h]
theorem sA {n b0 p:Nat} {r:List Nat} {out:Bs} {delta bias done:Nat} (h:p=n):zw n b0 (p::r) out delta bias done=zw n b0 r (out++vx delta 0 bias) 0 (xV delta (done+1) (decide (done=b0))) (done+1):=by rw [zw,if_neg (by omega),if_pos h]
theorem sz {n b0 p:Nat} {r:List Nat} {out:Bs} {delta bias done:Nat} (h:n<p):zw n b0 (p::r) out delta bias done=zw n b0 r out delta bias done:=by rw [zw,if_neg (by omega),if_neg (by omega)]
def zi (c:UInt8):Bs→List Bs
 | []=>[[]]
 | b::r=>if b=c then []::zi c r else match zi c r with
  | h::t=>(b::h)::t
  | []=>[[b]]
theorem wu (c:UInt8):∀ l:Bs,zi c l≠[]
 | []=>by simp [zi]
 | b::r=>by
  unfold zi;split
  ·simp
  split<;>simp
theorem wo (c:UInt8):∀ a:Bs,(∀ x∈a,x≠c)→zi c a=[a]
 | [],_=>rfl
 | b::r,h=>by
  have ih:=wo c r (fun x hx=>h x (List.mem_cons_of_mem _ hx));unfold zi;rw [if_neg (h b (List.mem_cons_self ..)),ih]
theorem vF (c:UInt8) (r:Bs):∀ a:Bs,(∀ x∈a,x≠c)→zi c (a++c::r)=a::zi c r
 | [],_=>by simp [zi]
 | b::a,h=>by
  have ih:=vF c r a (fun x hx=>h x (List.mem_cons_of_mem _ hx));rw [List.cons_append,zi,if_neg (h b (List.mem_cons_self ..)),ih]
theorem jU (c:UInt8):∀ l:Bs,Lib.splitK [c] 0 (Lib.count l [c]) l=zi c l
 | []=>by
  have h:Lib.count [] [c]=0:=by rw [Lib.count_one];rfl
  rw [h];rfl
 | b::l=>by
  have ih:=jU c l;by_cases hb:b=c
  ·subst hb;rw [Lib.count_cons_eq,Nat.add_comm,Lib.splitK,zi,if_pos rfl];have hix:Lib.index (b::l) [b]=0:=by rw [Lib.index];simp
   rw [hix,if_neg (by decide)];simp only [Int.toNat_zero,List.length_singleton,Nat.zero_add,List.drop_succ_cons,List.drop_zero,Nat.add_zero,List.take_zero];rw [ih]
  rw [Lib.count_cons_ne b c l hb,zi,if_neg hb];have hp:([c]:Bs).isPrefixOf (b::l)=false:=by
   simp only [List.isPrefixOf,Bool.and_true];exact beq_eq_false_iff_ne.2 (fun e=>hb e.symm)
  have hix:Lib.index (b::l) [c]=if Lib.index l [c]== -1 then -1 else Lib.index l [c]+1:=by rw [Lib.index,hp];simp
  rw [←ih];cases hn:Lib.count l [c] with
  | zero=>rfl
  | succ k =>
   have hge:=Lib.index_ge l [c];by_cases hm:Lib.index l [c]= -1
   ·rw [Lib.splitK,Lib.splitK,hix,hm];rfl
   have e1:¬ (Lib.index l [c]== -1)=true:=fun e=>hm (beq_iff_eq.1 e);have e2:¬ (Lib.index (b::l) [c]== -1)=true:=fun e=>by have:=beq_iff_eq.1 e;rw [hix,if_neg e1] at this;omega
   have e3:(Lib.index (b::l) [c]).toNat=(Lib.index l [c]).toNat+1:=by rw [hix,if_neg e1];omega
   rw [Lib.splitK,Lib.splitK,if_neg e1,if_neg e2,e3];simp
theorem pB (c:UInt8) (l:Bs):Lib.split l [c]=zi c l:=jU c l
def yD (b:UInt8):Nat:=if 48≤b.toNat∧b.toNat≤57 then b.toNat - 48 else if 97≤b.toNat∧b.toNat≤102 then b.toNat - 87 else if 65≤b.toNat∧b.toNat≤70 then b.toNat - 55 else 99
def yO (base:Nat):Bs→Nat→Nat
 | [],n=>n
 | b::r,n=>yO base r (min (n*base+yD b) 1099511627776)
def xP (base:Nat):Bs→Nat→Nat
 | [],n=>n
 | b::r,n=>xP base r (n*base+yD b)
theorem Xu (base:Nat) (h:1≤base):∀ (l:Bs) (v:Nat),yO base l (min v 1099511627776)=min (xP base l v) 1099511627776
 | [],v=>rfl
 | b::r,v=>by
  have ih:=Xu base h r (v*base+yD b);rw [yO,xP,←ih]
  congr 1
  by_cases hv:v≤1099511627776
  ·rw [Nat.min_eq_left hv]
  have e1:1099511627776≤v*base:=Nat.le_trans (by omega) (Nat.le_mul_of_pos_right v h);have e2:1099511627776≤1099511627776*base:=Nat.le_mul_of_pos_right _ h;rw [Nat.min_eq_right (by omega:1099511627776≤v)];omega
theorem Zn (base:Nat) (h:1≤base) (l:Bs):yO base l 0=min (xP base l 0) 1099511627776:=Xu base h l 0
theorem Zo (base:Nat):∀ (l:Bs) (b:UInt8) (n:Nat),yO base (l++[b]) n=min (yO base l n*base+yD b) 1099511627776
 | [],b,n=>rfl
 | c::l,b,n=>by simp only [List.cons_append,yO];exact Zo base l b _
theorem wY (base:Nat) (l:Bs) (k:Nat) (h:k<l.length):yO base (l.take (k+1)) 0=min (yO base (l.take k) 0*base+yD l[k]) 1099511627776:=by
 rw [List.take_succ_eq_append_getElem h,Zo]
theorem Q5 (base:Nat) (h:1≤base) (l:Bs):yO base l 0≤1099511627776:=by rw [Zn base h];omega
def zR (base:Nat) (l:Bs):Bool:=l.all fun b=>decide (yD b<base)
def yz (base:Nat) (l:Bs):Nat × Bool:=if zR base l then (yO base l 0,true) else (0,false)
def vq (l:Bs):Bool:=match l with
 | a::b::_=>decide (a=48∧(b=120∨b=88))
 | _=>false
def zr (l:Bs):Nat × Bool :=
 if l=[] then (0,false)
 else if vq l then yz 16 (l.drop 2)
 else if 1<l.length∧l[0]? =some 48 then yz 8 (l.drop 1)
 else yz 10 l
def zH (l:Bs):List Bs:=if 1<(zi 46 l).length∧(zi 46 l).getLast? =some [] then (zi 46 l).dropLast else zi 46 l
theorem YJ (base:Nat) (h:1≤base) (l:Bs):(yz base l).1≤1099511627776:=by
 unfold yz;split
 ·exact Q5 base h l
 exact Nat.zero_le _
theorem wg (l:Bs):(zr l).1≤1099511627776:=by
 unfold zr;split
 ·exact Nat.zero_le _
 split
 ·exact YJ 16 (by decide) _
 split
 ·exact YJ 8 (by decide) _
 exact YJ 10 (by decide) _
theorem yJ (c:UInt8):∀ (l:Bs),∀ x∈zi c l,x.length≤l.length
 | [],x,hx=>by simp [zi] at hx;simp [hx]
 | b::r,x,hx=>by
  have ih:=yJ c r;unfold zi at hx;split at hx
  ·rcases List.mem_cons.1 hx with rfl | h
   ·simp
   have:=ih x h;simp;omega
  split at hx
  ·rename_i h t he;rcases List.mem_cons.1 hx with rfl | h2
   ·have:=ih h (by rw [he];simp);simp;omega
   have:=ih x (by rw [he];exact List.mem_cons_of_mem _ h2);simp;omega
  simp at hx;subst hx;simp
theorem VR {l x:Bs} (h:x∈zH l):x∈zi 46 l:=by
 unfold zH at h;split at h
 ·exact (List.dropLast_sublist _).subset h
 exact h
theorem wU (l:Bs):∀ x∈zH l,x.length≤l.length:=fun x h=>yJ 46 l x (VR h)
theorem rZ (l:Bs):0<(zi 46 l).length:=List.length_pos_iff.2 (wu 46 l)
theorem uF (l:Bs):0<(zH l).length:=by
 have:=rZ l;unfold zH;split
 ·rw [List.length_dropLast];omega
 exact this
def sF (p:Bs):Option Nat:=if (yz 10 p).2=true∧(yz 10 p).1≤255∧Lib.decDigits (yz 10 p).1=p then some (yz 10 p).1 else none
theorem UR {p:Bs} {n:Nat} (h:sF p=some n):n≤255:=by
 unfold sF at h;split at h
 ·rename_i h2;cases h;exact h2.2.1
 cases h
def vw:List Bs→Nat→Option Nat
 | [],v=>some v
 | p::r,v=>match sF p with
  | some n=>vw r (v*256+n)
  | none=>none
def vh:Option Nat→Nat × Bool
 | some v=>(v,true)
 | none=>(0,false)
def yS (l:Bs):Nat × Bool:=if (zi 46 l).length=4 then vh (vw (zi 46 l) 0) else (0,false)
def zn (free:Nat):List Bs→Nat→Option Nat
 | [],v=>some v
 | [p],v=>if (zr p).2=true∧(zr p).1<2 ^ free then some (v*2 ^ free+(zr p).1) else none
 | p::q::r,v=>if (zr p).2=true∧(zr p).1≤255 then zn free (q::r) (v*256+(zr p).1) else none
def xw (l:Bs):Nat × Bool:=if (zH l).length≤4 then vh (zn (8*(5 - (zH l).length)) (zH l) 0) else (0,false)
def yq (l:Bs):Bool :=
 let p:=((zH l).getLast?).getD []
 if vq p then (zr p).2 else (yz 10 p).2&& !p.isEmpty
def vJ (v:Nat):Bs:=Lib.decDigits (v / 16777216 % 256)++46::(Lib.decDigits (v / 65536 % 256)++46::(Lib.decDigits (v / 256 % 256)++46::Lib.decDigits (v % 256)))
def uY (l:Bs):Bool:=match vy l with
 | none=>false
 | some p=> !(p.any (fun n=>decide (65≤n∧n≤90)))&&p.any (fun n=>decide (128≤n))&&decide (sx p=some l)
def sj (b:UInt8):Bool:=decide ((97≤b.toNat∧b.toNat≤122)∨(48≤b.toNat∧b.toNat≤57)∨b.toNat=45∨b.toNat=95)
def ya (l:Bs):Bool:=decide (1≤l.length∧l.length≤63∧l.head? ≠some 45∧l.getLast? ≠some 45)&&l.all sj&&(!(decide (l.take 4=[120,110,45,45]))||uY (l.drop 4))
def zJ (l:Bs):Bool:=decide (l.length≤253)&& !(yq l)&&(zi 46 l).all ya
def zo (c:UInt8):Bs→Int
 | []=> -1
 | b::r=>if 0≤zo c r then zo c r+1 else if b=c then 0 else -1
theorem pm:∀ l:Bs,wa l=zo 45 l
 | []=>rfl
 | b::r=>by unfold wa zo;rw [pm r]
theorem zW (c:UInt8):∀ l:Bs,-1≤zo c l∧zo c l<l.length
 | []=>by simp [zo]
 | b::r=>by
  have:=zW c r;unfold zo;split
  ·simp;omega
  split<;>simp<;>omega
theorem qj (c b:UInt8):∀ l:Bs,zo c (l++[b])=if b=c then (l.length:Int) else zo c l
 | []=>by
  show (if (0:Int)≤ -1 then (-1:Int)+1 else if b=c then 0 else -1)=if b=c then 0 else -1
  rw [if_neg (show ¬ (0:Int)≤ -1 by omega)]
 | x::r=>by
  have ih:=qj c b r;have:=zW c r;rw [List.cons_append,zo,ih,zo];by_cases hb:b=c
  ·rw [if_pos hb,if_pos hb,if_pos (by omega)];simp
  rw [if_neg hb,if_neg hb]
theorem qV (s:ByteArray) (c:UInt8):∀ k,k≤s.size→Lib.lastIdx s (c.toNat:Int) k=zo c ((un s).take k)
 | 0,_=>rfl
 | k+1,h=>by
  have hk:k<(un s).length:=by rw [zb];omega
  have ih:=qV s c k (by omega);have hd:s.data[k]! =(un s)[k]:=by
   have:k<s.data.size:=by rw [ByteArray.size_data];omega
   rw [getElem!_pos s.data k this];rfl
  rw [List.take_succ_eq_append_getElem hk,qj,Lib.lastIdx,hd,ih,List.length_take,Nat.min_eq_left (by omega)];by_cases hc:(un s)[k]=c
  ·rw [if_pos hc,if_pos (by rw [hc])]
  rw [if_neg hc,if_neg (fun e=>hc (UInt8.toNat_inj.1 (by omega)))]
theorem tH (s:ByteArray) (c:UInt8):Lib.lastIndexByte s (c.toNat:Int)=zo c (un s):=by
 unfold Lib.lastIndexByte;rw [qV s c s.size (Nat.le_refl _),List.take_of_length_le (by rw [zb];exact Nat.le_refl _)]
theorem rC (c:UInt8):∀ l:Bs,zo c l<0↔∀ x∈l,x≠c
 | []=>by simp [zo]
 | b::r=>by
  have ih:=rC c r;have hb:=zW c r;unfold zo;by_cases h:0≤zo c r
  ·rw [if_pos h];constructor
   ·intro h2;omega
   intro h2;have:=ih.2 (fun x hx=>h2 x (List.mem_cons_of_mem _ hx));omega
  rw [if_neg h];have hr:=ih.1 (by omega);by_cases hc:b=c
  ·rw [if_pos hc];constructor
   ·intro h2;omega
   intro h2;exact absurd hc (h2 b (List.mem_cons_self ..))
  rw [if_neg hc];constructor
  ·intro _ x hx;rcases List.mem_cons.1 hx with rfl | hx
   ·exact hc
   exact hr x hx
  intro _;decide
theorem jf (c:UInt8):∀ l:Bs,0≤zo c l→l=l.take (zo c l).toNat++c::l.drop ((zo c l).toNat+1)
 | [],h=>by simp [zo] at h
 | b::r,h=>by
  unfold zo at h ⊢;by_cases h1:0≤zo c r
  ·rw [if_pos h1];have ih:=jf c r h1;have e:(zo c r+1).toNat=(zo c r).toNat+1:=by omega
   rw [e,List.take_succ_cons,List.drop_succ_cons,List.cons_append,←ih]
  rw [if_neg h1] at h ⊢;by_cases hc:b=c
  ·rw [if_pos hc];simp [hc]
  rw [if_neg hc] at h;omega
def yy (l:Bs):Bs:=l.drop (zo 46 l+1).toNat
def wj (l:Bs):Bs:=l.take (zo 46 l).toNat
theorem ux (l:Bs) (h:0≤zo 46 l):(wj l).length<l.length:=by
 have:=zW 46 l;unfold wj;rw [List.length_take];omega
theorem qO (l:Bs):(zo 46 l<0∧l=yy l)∨(0≤zo 46 l∧l=wj l++46::yy l):=by
 have hb:=zW 46 l;by_cases h:0≤zo 46 l
 ·refine .inr ⟨h,?_⟩;have e:(zo 46 l+1).toNat=(zo 46 l).toNat+1:=by omega
  unfold wj yy;rw [e];exact jf 46 l h
 refine .inl ⟨by omega,?_⟩;unfold yy;rw [show (zo 46 l+1).toNat=0 by omega,List.drop_zero]
def Zz:Nat→Bs→Bs→Int
 | 0,_,_=>0
 | f+1,a,b=>if Lib.compareBytes (yy a) (yy b)≠0 then Lib.compareBytes (yy a) (yy b)
  else if zo 46 a<0∨zo 46 b<0 then (if min (zo 46 a) 0<min (zo 46 b) 0 then -1 else if min (zo 46 b) 0<min (zo 46 a) 0 then 1 else 0)
  else Zz f (wj a) (wj b)
theorem kD:∀ (f g:Nat) (a b:Bs),a.length<f→a.length<g→Zz f a b=Zz g a b
 | 0,_,a,b,h,_=>by omega
 | _,0,a,b,_,h=>by omega
 | f+1,g+1,a,b,hf,hg=>by
  unfold Zz;split
  ·rfl
  split
  ·rfl
  rename_i h;have:=ux a (by omega);exact kD f g _ _ (by omega) (by omega)
def yF (a b:Bs):Int:=Zz (a.length+1) a b
theorem ur (a b:Bs):yF a b=if Lib.compareBytes (yy a) (yy b)≠0 then Lib.compareBytes (yy a) (yy b)
  else if zo 46 a<0∨zo 46 b<0 then (if min (zo 46 a) 0<min (zo 46 b) 0 then -1 else if min (zo 46 b) 0<min (zo 46 a) 0 then 1 else 0)
  else yF (wj a) (wj b):=by
 unfold yF;rw [Zz];split
 ·rfl
 split
 ·rfl
 rename_i h;have:=ux a (by omega);exact kD _ _ _ _ (by omega) (by omega)
theorem yN:∀ a b:Bs,Lib.compareBytes a b=0↔a=b
 | [],[]=>by simp [Lib.compareBytes]
 | [],_::_=>by simp [Lib.compareBytes]
 | _::_,[]=>by simp [Lib.compareBytes]
 | a::r,b::s=>by
  have ih:=yN r s;unfold Lib.compareBytes;by_cases h1:a<b
  ·rw [if_pos h1];have:a≠b:=fun e=>by subst e;exact absurd h1 (UInt8.lt_irrefl _)
   simp [this]
  rw [if_neg h1];by_cases h2:b<a
  ·rw [if_pos h2];have:a≠b:=fun e=>by subst e;exact absurd h2 (UInt8.lt_irrefl _)
   simp [this]
  rw [if_neg h2];have:a=b:=by
   have h3:=UInt8.not_lt.1 h1;have h4:=UInt8.not_lt.1 h2;exact UInt8.le_antisymm h4 h3
  simp [this,ih]
theorem T7:∀ (n:Nat) (a b:Bs),a.length≤n→(yF a b=0↔a=b):=by
 intro n
 induction n with
 | zero =>
  intro a b h;obtain rfl:a=[]:=List.eq_nil_of_length_eq_zero (by omega);rw [ur];rcases qO b with ⟨hb,eb⟩ | ⟨hb,eb⟩
  ·by_cases hc:Lib.compareBytes (yy []) (yy b)=0
   ·rw [if_neg (by simp [hc]),if_pos (.inr hb)];have hbb:=zW 46 b;have e:zo 46 ([]:Bs)= -1:=rfl;rw [e,show zo 46 b= -1 by omega];have:=(yN _ _).1 hc;rw [←eb] at this;simp [←this,yy]
   rw [if_pos hc];constructor
   ·intro h;exact absurd h hc
   intro h;subst h;exact absurd ((yN _ _).2 rfl) hc
  constructor
  ·intro h;exfalso;split at h
   ·contradiction
   rw [if_pos (.inl (by decide))] at h;have e:zo 46 ([]:Bs)= -1:=rfl;rw [e,if_pos (by omega)] at h;exact absurd h (by decide)
  intro h;subst h;simp [zo] at hb
 | succ n ih =>
  intro a b h;rw [ur];have ha:=qO a;have hb:=qO b;have ba:=zW 46 a;have bb:=zW 46 b;by_cases hc:Lib.compareBytes (yy a) (yy b)=0
  ·rw [if_neg (by simp [hc])];have ht:=(yN _ _).1 hc;rcases ha with ⟨ha,ea⟩ | ⟨ha,ea⟩<;>rcases hb with ⟨hb,eb⟩ | ⟨hb,eb⟩
   ·rw [if_pos (.inl ha),show zo 46 a= -1 by omega,show zo 46 b= -1 by omega];simp;rw [ea,eb,ht]
   ·rw [if_pos (.inl ha),if_pos (by omega)];constructor
    ·intro h;exact absurd h (by decide)
    intro h;subst h;omega
   ·rw [if_pos (.inr hb),if_neg (by omega),if_pos (by omega)];constructor
    ·intro h;exact absurd h (by decide)
    intro h;subst h;omega
   rw [if_neg (by omega)];have:=ux a ha;rw [ih (wj a) (wj b) (by omega)];constructor
   ·intro h;rw [ea,eb,h,ht]
   intro h;rw [h]
  rw [if_pos hc];constructor
  ·intro h;exact absurd h hc
  intro h;subst h;exact absurd ((yN _ _).2 rfl) hc
theorem tY (a b:Bs):yF a b=0↔a=b:=T7 a.length a b (Nat.le_refl _)
def yl:Bs→List Bs
 | []=>[]
 | b::r=>if b=46 then r::yl r else yl r
theorem p6:∀ a:Bs,(∀ x∈a,x≠46)→yl a=[]
 | [],_=>rfl
 | b::r,h=>by rw [yl,if_neg (h b (List.mem_cons_self ..)),p6 r (fun x hx=>h x (List.mem_cons_of_mem _ hx))]
theorem jO (r:Bs):∀ a:Bs,(∀ x∈a,x≠46)→yl (a++46::r)=r::yl r
 | [],_=>by simp [yl]
 | b::a,h=>by rw [List.cons_append,yl,if_neg (h b (List.mem_cons_self ..)),jO r a (fun x hx=>h x (List.mem_cons_of_mem _ hx))]
theorem qg (s:Bs):∀ l:Bs,s∈yl l↔(46::s) <:+ l
 | []=>by simp [yl]
 | b::r=>by
  have ih:=qg s r;unfold yl;rw [List.suffix_cons_iff,←ih];by_cases hb:b=46
  ·rw [if_pos hb,List.mem_cons];constructor
   ·rintro (h | h)
    ·exact .inl (by rw [hb,h])
    exact .inr h
   rintro (h | h)
   ·injection h with h1 h2;exact .inl h2
   exact .inr h
  rw [if_neg hb];constructor
  ·intro h;exact .inr h
  rintro (h | h)
  ·injection h with h1 h2;exact absurd h1.symm hb
  exact h
theorem rY:∀ l:Bs,∀ s∈yl l,s.length<l.length
 | [],s,h=>by simp [yl] at h
 | b::r,s,h=>by
  unfold yl at h;split at h
  ·rcases List.mem_cons.1 h with rfl | h
   ·simp
   have:=rY r s h;simp;omega
  have:=rY r s h;simp;omega
def xM (s n:Bs):Bool:=zJ s&&zJ n&&(decide (s=n)||decide (s∈yl n))
def JM:Bs→Nat→Nat
 | [],n=>n
 | b::r,n=>JM r (min (10*n+(b.toNat - 48)) 2147483647)
def jI:Bs→Nat→Nat
 | [],n=>n
 | b::r,n=>jI r (10*n+(b.toNat - 48))
theorem pZ:∀ (a b:Bs) (n:Nat),jI (a++b) n=jI b (jI a n)
 | [],b,n=>rfl
 | c::a,b,n=>by simp only [List.cons_append,jI];exact pZ a b _
theorem uP (d:Nat) (h:d<10):zI (UInt8.ofNat (48+d))=true∧(UInt8.ofNat (48+d)).toNat - 48=d:=by
 have e:(UInt8.ofNat (48+d)).toNat=48+d:=by simp;omega
 refine ⟨KZ7 (by omega),by omega⟩
theorem xy (u:Nat):(Lib.decDigits u).all zI=true:=by
 rw [Lib.decDigits];split
 ·rename_i h;show (zI (UInt8.ofNat (48+u))&&true)=true;rw [(uP u h).1];rfl
 rename_i h;rw [List.all_append,xy (u / 10)];show (true&&(zI (UInt8.ofNat (48+u % 10))&&true))=true;rw [(uP (u % 10) (by omega)).1];rfl
termination_by u
decreasing_by omega
theorem xZ (u:Nat):Lib.decDigits u≠[]:=by
 rw [Lib.decDigits];split<;>simp
theorem tw (u:Nat):jI (Lib.decDigits u) 0=u:=by
 rw [Lib.decDigits];split
 ·rename_i h;simp only [jI,(uP u h).2];omega
 rename_i h;rw [pZ,tw (u / 10)];simp only [jI,(uP (u % 10) (by omega)).2];omega
termination_by u
decreasing_by omega
theorem zX (u:Nat) (h:u≤9999999999):(Lib.decDigits u).length≤10:=by
 have step:∀ (k u:Nat),0<k→u<10 ^ k→(Lib.decDigits u).length≤k:=by
  intro k
  induction k with
  | zero=>intro u h;omega
  | succ k ih =>
   intro u _ hu;rw [Lib.decDigits];split
   ·simp
   rename_i h10;have hk:0<k:=by
    rcases Nat.eq_zero_or_pos k with rfl | h
    ·simp at hu;omega
    exact h
   have:=ih (u / 10) hk (by rw [Nat.pow_succ] at hu;omega);simp;omega
 exact step 10 u (by omega) (by omega)
def lim (n m:Int):Int:=min (max n 0) m
theorem YT (b:UInt8) (h:zI b=true):b≠46:=by
 rintro rfl;exact absurd h (by decide)
theorem ri (n:Nat):∀ x∈Lib.decDigits n,x≠46:=fun x hx=>YT x (List.all_eq_true.1 (xy n) x hx)
theorem r7 (v:Nat):zi 46 (vJ v)=[Lib.decDigits (v / 16777216 % 256),Lib.decDigits (v / 65536 % 256),Lib.decDigits (v / 256 % 256),Lib.decDigits (v % 256)]:=by
 unfold vJ;rw [vF _ _ _ (ri _),vF _ _ _ (ri _),vF _ _ _ (ri _),wo _ _ (ri _)]
theorem Y9 (b:UInt8) (h:zI b=true):yD b=b.toNat - 48∧yD b<10:=by
 unfold zI at h;unfold yD;simp at h;have h1:=h.1;have h2:=h.2;rw [if_pos (by omega)];omega
theorem QR (n:Nat):zR 10 (Lib.decDigits n)=true:=by
 unfold zR;rw [List.all_eq_true];intro x hx;exact KZ7 (Y9 x (List.all_eq_true.1 (xy n) x hx)).2
theorem Xi:∀ (l:Bs) (n:Nat),l.all zI=true→xP 10 l n=jI l n
 | [],n,_=>rfl
 | b::r,n,h=>by
  rw [List.all_cons,Bool.and_eq_true] at h;rw [xP,jI,Xi r _ h.2,(Y9 b h.1).1]
  congr 1
  omega
theorem kN (n:Nat) (h:n≤1099511627776):yz 10 (Lib.decDigits n)=(n,true):=by
 unfold yz;rw [if_pos (QR n),Zn 10 (by decide),Xi _ _ (xy n),tw,Nat.min_eq_left h]
theorem sL (n:Nat) (h:n≤255):sF (Lib.decDigits n)=some n:=by
 unfold sF;rw [kN n (by omega),if_pos ⟨rfl,h,rfl⟩]
theorem Vi (v:Nat) (h:v<4294967296):(((0*256+v / 16777216 % 256)*256+v / 65536 % 256)*256+v / 256 % 256)*256+v % 256=v:=by omega
theorem JB (v:Nat) (h:v<4294967296):yS (vJ v)=(v,true):=by
 unfold yS;rw [r7,if_pos (by simp)];simp only [vw,sL _ (by omega:v / 16777216 % 256≤255),sL _ (by omega:v / 65536 % 256≤255),sL _ (by omega:v / 256 % 256≤255),sL _ (by omega:v % 256≤255),Vi v h];rfl
theorem Jq (n:Nat):Lib.decDigits n≠[]:=xZ n
theorem Wu (n:Nat):vq (Lib.decDigits n)=false:=by
 have h:=xy n;unfold vq;split
 ·rename_i a b r e;rw [e] at h;simp only [List.all_cons,Bool.and_eq_true] at h;have h2:=h.2.1;apply KZ8;rintro ⟨_,rfl | rfl⟩<;>exact absurd h2 (by decide)
 rfl
theorem WR:∀ (k n:Nat),n<k→1<(Lib.decDigits n).length→(Lib.decDigits n)[0]? ≠some 48
 | 0,n,h,_=>by omega
 | k+1,n,h,h1=>by
  by_cases h10:n<10
  ·rw [Lib.decDigits_one h10] at h1;simp at h1
  have e:Lib.decDigits n=Lib.decDigits (n / 10)++[UInt8.ofNat (48+n % 10)]:=by rw [Lib.decDigits,dif_neg h10]
  rw [e,List.getElem?_append_left (List.length_pos_iff.2 (xZ _))];by_cases h2:n / 10<10
  ·rw [Lib.decDigits_one h2];intro h3;have h4:(UInt8.ofNat (48+n / 10)).toNat=48:=by
    have:=Option.some.inj h3;rw [show UInt8.ofNat (48+n / 10)=48 from this];rfl
   have h5:=(uP (n / 10) h2).2;rw [h4] at h5;omega
  refine WR k (n / 10) (by omega) ?_;have e2:Lib.decDigits (n / 10)=Lib.decDigits (n / 10 / 10)++[UInt8.ofNat (48+n / 10 % 10)]:=by rw [Lib.decDigits,dif_neg h2]
  have h6:=List.length_pos_iff.2 (xZ (n / 10 / 10));rw [e2];simp;exact h6
theorem qS (n:Nat) (h:n≤1099511627776):zr (Lib.decDigits n)=(n,true):=by
 unfold zr;rw [if_neg (xZ n),Wu,if_neg (by decide),if_neg (fun h2=>WR (n+1) n (by omega) h2.1 h2.2),kN n h]
theorem Sa (l p:Bs) (r:List Bs) (h:zi 46 l=r++[p]) (hp:p≠[]):zH l=r++[p]:=by
 unfold zH;rw [h,if_neg (by simp [hp])]
theorem ZA (v:Nat):zH (vJ v)=[Lib.decDigits (v / 16777216 % 256),Lib.decDigits (v / 65536 % 256),Lib.decDigits (v / 256 % 256)]++[Lib.decDigits (v % 256)] :=
 Sa _ _ _ (r7 v) (xZ _)
theorem RD (v:Nat) (h:v<4294967296):xw (vJ v)=(v,true):=by
 have h1:=qS (v / 16777216 % 256) (by omega);have h2:=qS (v / 65536 % 256) (by omega);have h3:=qS (v / 256 % 256) (by omega);have h4:=qS (v % 256) (by omega);unfold xw;rw [ZA,if_pos (by simp)];simp only [List.cons_append,List.nil_append,List.length_cons,List.length_nil,Nat.reduceAdd,Nat.reduceSub,Nat.reduceMul,zn,h1,h2,h3,h4,Nat.reducePow,true_and];rw [if_pos (by omega),if_pos (by omega),if_pos (by omega),if_pos (by omega),Vi v h];rfl
theorem VY (l p:Bs) (n:Nat) (h:(zH l).getLast? =some p) (hp:p=Lib.decDigits n) (hn:n≤1099511627776):yq l=true:=by
 unfold yq;rw [h];subst hp;simp only [Option.getD_some,Wu,kN n hn];cases he:(Lib.decDigits n).isEmpty
 ·rfl
 exact absurd (by simpa using he) (xZ n)
theorem XZ (v:Nat):yq (vJ v)=true:=VY _ _ (v % 256) (by rw [ZA];simp) rfl (by omega)
def ye (c:UInt8):List Bs→Bs
 | []=>[]
 | [p]=>p
 | p::q::r=>p++c::ye c (q::r)
theorem Ud (c b:UInt8) (h:Bs) (t:List Bs):ye c ((b::h)::t)=b::ye c (h::t):=by
 cases t<;>rfl
theorem sW (c:UInt8):∀ l:Bs,ye c (zi c l)=l
 | []=>rfl
 | b::r=>by
  have ih:=sW c r;unfold zi;split
  ·rename_i hb;subst hb;cases hs:zi b r with
   | nil=>exact absurd hs (wu b r)
   | cons h t=>rw [hs] at ih;show []++b::ye b (h::t)=_;rw [ih];rfl
  cases hs:zi c r with
  | nil=>exact absurd hs (wu c r)
  | cons h t=>rw [hs] at ih;simp only;rw [Ud,ih]
theorem TM {p:Bs} {n:Nat} (h:sF p=some n):p=Lib.decDigits n∧n≤255:=by
 unfold sF at h;split at h
 ·rename_i h2;cases h;exact ⟨h2.2.2.symm,h2.2.1⟩
 cases h
theorem Qd (v:Nat):(vJ v).length≤44:=by
 have h:∀ q,(Lib.decDigits (q % 256)).length≤10:=fun q=>zX _ (by omega);have h1:=h (v / 16777216);have h2:=h (v / 65536);have h3:=h (v / 256);have h4:=h v;unfold vJ;simp;omega
def uL (d:Nat):UInt8:=if d<10 then UInt8.ofNat (48+d) else UInt8.ofNat (87+d)
theorem pU (d:Nat) (h:d<16):yD (uL d)=d:=by
 have:∀ d:Fin 16,yD (uL d.1)=d.1:=by decide
 exact this ⟨d,h⟩
def wO (b n:Nat):Bs:=if _h:n<b∨b<2 then [uL n] else wO b (n / b)++[uL (n % b)]
termination_by n
decreasing_by exact Nat.div_lt_self (by omega) (by omega)
theorem vf {b n:Nat} (h:n<b):wO b n=[uL n]:=by rw [wO,dif_pos (.inl h)]
theorem uy {b n:Nat} (hb:2≤b) (h:b≤n):wO b n=wO b (n / b)++[uL (n % b)]:=by rw [wO,dif_neg (by omega)]
theorem WL (b n:Nat):wO b n≠[]:=by
 rw [wO];split<;>simp
theorem sH (base:Nat):∀ (a b:Bs) (n:Nat),xP base (a++b) n=xP base b (xP base a n)
 | [],b,n=>rfl
 | c::a,b,n=>by simp only [List.cons_append,xP];exact sH base a b _
theorem Zf (b:Nat) (h2:2≤b) (h16:b≤16):∀ (k n:Nat),n<k→xP b (wO b n) 0=n
 | 0,n,h=>by omega
 | k+1,n,h=>by
  by_cases hs:n<b
  ·rw [vf hs,xP,xP,pU n (by omega)];omega
  have hd:n / b<n:=Nat.div_lt_self (by omega) (by omega);rw [uy h2 (by omega),sH,Zf b h2 h16 k (n / b) (by omega),xP,xP,pU _ (by have:=Nat.mod_lt n (by omega:b>0);omega)];exact Nat.div_add_mod' n b
theorem gD (b:Nat) (h2:2≤b) (h16:b≤16):∀ (k n:Nat),n<k→∀ x∈wO b n,∃ d,d<b∧x=uL d
 | 0,n,h=>by omega
 | k+1,n,h=>by
  intro x hx;by_cases hs:n<b
  ·rw [vf hs] at hx;exact ⟨n,hs,by simpa using hx⟩
  have hd:n / b<n:=Nat.div_lt_self (by omega) (by omega);rw [uy h2 (by omega)] at hx;rcases List.mem_append.1 hx with hx | hx
  ·exact gD b h2 h16 k (n / b) (by omega) x hx
  exact ⟨n % b,Nat.mod_lt n (by omega),by simpa using hx⟩
theorem ZY (b:Nat) (h2:2≤b) (h16:b≤16) (n:Nat):∀ x∈wO b n,yD x<b:=by
 intro x hx;obtain ⟨d,hd,rfl⟩:=gD b h2 h16 (n+1) n (by omega) x hx;rw [pU d (by omega)];exact hd
theorem SR (b:Nat) (h2:2≤b) (h16:b≤16) (n:Nat):zR b (wO b n)=true:=by
 unfold zR;rw [List.all_eq_true];intro x hx;exact KZ7 (ZY b h2 h16 n x hx)
theorem PM (b:Nat) (h2:2≤b) (h16:b≤16) (n:Nat) (c:UInt8) (hc:yD c=99):∀ x∈wO b n,x≠c:=by
 rintro x hx rfl;have:=ZY b h2 h16 n x hx;omega
theorem WK (b:Nat) (h2:2≤b):∀ (k n:Nat),n<b ^ k→1≤k→(wO b n).length≤k
 | 0,n,_,h=>by omega
 | k+1,n,h,_=>by
  by_cases hs:n<b
  ·rw [vf hs];simp
  rw [uy h2 (by omega)];have hk:1≤k:=by
   rcases Nat.eq_zero_or_pos k with rfl | hk
   ·simp at h;omega
   exact hk
  have:=WK b h2 k (n / b) (Nat.div_lt_of_lt_mul (by rw [Nat.pow_succ,Nat.mul_comm] at h;exact h)) hk;simp;omega
def DigSt (b n:Nat) (s:Bs) (m:Nat):Prop:=(s=[]∧m=n)∨(s≠[]∧wO b n=if m=0 then s else wO b m++s)
theorem DigSt.step {b n m:Nat} {s:Bs} (h2:2≤b) (h:DigSt b n s m) (hm:0<m∨s=[]):DigSt b n (uL (m % b)::s) (m / b):=by
 right;refine ⟨by simp,?_⟩;rcases h with ⟨rfl,rfl⟩ | ⟨hs,he⟩
 ·by_cases hb:m<b
  ·rw [Nat.div_eq_of_lt hb,if_pos rfl,vf hb,Nat.mod_eq_of_lt hb]
  have:m / b≠0:=by have:=Nat.div_pos (by omega:b≤m) (by omega);omega
  rw [if_neg this,uy h2 (by omega)]
 have hm0:m≠0:=by rcases hm with h | h;omega;exact absurd h hs
 rw [he,if_neg hm0];by_cases hb:m<b
 ·rw [Nat.div_eq_of_lt hb,if_pos rfl,vf hb,Nat.mod_eq_of_lt hb];rfl
 have:m / b≠0:=by have:=Nat.div_pos (by omega:b≤m) (by omega);omega
 rw [if_neg this,uy h2 (by omega)];simp
theorem DigSt.fin {b n:Nat} {s:Bs} (h:DigSt b n s 0) (hs:s≠[]):s=wO b n:=by
 rcases h with ⟨h,_⟩ | ⟨_,h⟩
 ·exact absurd h hs
 rw [if_pos rfl] at h;exact h.symm
theorem DigSt.len {b n m:Nat} {s:Bs} (h:DigSt b n s m):s.length≤(wO b n).length:=by
 rcases h with ⟨rfl,_⟩ | ⟨_,h⟩
 ·simp
 rw [h];split
 ·exact Nat.le_refl _
 simp
theorem Px (d:Nat) (h:d<16):(⟨#[48,49,50,51,52,53,54,55,56,57,97,98,99,100,101,102]⟩:ByteArray).extract d (d+1)=mk [uL d]:=by
 have:∀ d:Fin 16,(⟨#[48,49,50,51,52,53,54,55,56,57,97,98,99,100,101,102]⟩:ByteArray).extract d.1 (d.1+1)=mk [uL d.1]:=by decide
 exact this ⟨d,h⟩
theorem Wt (l:Bs) (h:l.all zI=true):vq l=false:=by
 unfold vq;split
 ·rename_i a b r;simp only [List.all_cons,Bool.and_eq_true] at h;have h2:=h.2.1;apply KZ8;rintro ⟨_,rfl | rfl⟩<;>exact absurd h2 (by decide)
 rfl
theorem PN (b:UInt8):decide (yD b<10)=zI b:=by
 cases h:zI b
 ·apply KZ8;unfold zI at h;simp at h;unfold yD;by_cases h1:48≤b.toNat∧b.toNat≤57
  ·have:=h h1.1;omega
  rw [if_neg h1];split
  ·omega
  split<;>omega
 exact KZ7 (Y9 b h).2
theorem QS (l:Bs):zR 10 l=l.all zI:=by
 unfold zR
 congr 1
 funext b
 exact PN b
theorem U2 (l:Bs):(yz 10 l).2=l.all zI:=by
 unfold yz;rw [QS];cases l.all zI<;>rfl
def Tc (p:Bs):Bool:=if tu p then true else (zr p).2&&decide (p[1]? =some 120∨p[1]? =some 88)
theorem RN (p:Bs):Tc p=if vq p then (zr p).2 else (yz 10 p).2&& !p.isEmpty:=by
 unfold Tc;rw [U2];cases hd:tu p
 ·match p,hd with
  | [],_=>rfl
  | [a],hd=>simp [tu] at hd;simp [vq,hd]
  | a::b::r,hd =>
   by_cases hb:b=120∨b=88
   ·by_cases ha:a=48
    ·have:vq (a::b::r)=true:=by simp [vq,ha,hb]
     rw [this];simp [hb]
    have h1:vq (a::b::r)=false:=by simp [vq,ha]
    have h2:zI b=false:=by rcases hb with rfl | rfl<;>decide
    have h3:zr (a::b::r)=yz 10 (a::b::r):=by
     unfold zr;rw [if_neg (by simp),h1,if_neg (by decide),if_neg (by simp [ha])]
    rw [h1,h3,U2];simp [h2]
   have h1:vq (a::b::r)=false:=by simp [vq];intro _;exact ⟨fun e=>hb (.inl e),fun e=>hb (.inr e)⟩
   rw [h1];unfold tu at hd;simp only [List.isEmpty_cons,Bool.not_false,Bool.true_and] at hd;rw [hd];simp;intro _;exact ⟨fun e=>hb (.inl e),fun e=>hb (.inr e)⟩
 have h2:p.all zI=true∧p.isEmpty=false:=by
  unfold tu at hd
  simpa [and_comm] using hd
 rw [Wt p h2.1,h2.1,h2.2];rfl
theorem Jp:yD 46=99:=by decide
theorem ql (c:UInt8) (x:Bs):∀ (A:List Bs),A≠[]→ye c (A++[x])=ye c A++c::x
 | [],h=>absurd rfl h
 | [p],_=>rfl
 | p::q::r,_=>by
  have ih:=ql c x (q::r) (by simp);show p++c::ye c (q::r++[x])=(p++c::ye c (q::r))++c::x;rw [ih];simp
theorem sM (c:UInt8):∀ (A:List Bs),A≠[]→(∀ a∈A,∀ x∈a,x≠c)→zi c (ye c A)=A
 | [],h,_=>absurd rfl h
 | [p],_,h=>wo c p (h p (by simp))
 | p::q::r,_,h=>by
  show zi c (p++c::ye c (q::r))=_;rw [vF c _ p (h p (by simp)),sM c (q::r) (by simp) (fun a ha=>h a (List.mem_cons_of_mem _ ha))]
def vt (l:Bs):Option Nat:=if 1≤l.length∧l.length≤4∧zR 16 l=true then some (xP 16 l 0) else none
theorem UI:∀ (l:Bs) (n k:Nat),zR 16 l=true→n<16 ^ k→xP 16 l n<16 ^ (k+l.length)
 | [],n,k,_,h=>by simpa [xP] using h
 | b::r,n,k,ha,h=>by
  have h1:yD b<16:=by
   have:=(List.all_eq_true.1 ha) b (List.mem_cons_self ..);exact of_decide_eq_true this
  have h2:zR 16 r=true:=by
   unfold zR at ha ⊢;rw [List.all_cons,Bool.and_eq_true] at ha;exact ha.2
  have h3:n*16+yD b<16 ^ (k+1):=by rw [Nat.pow_succ];omega
  have:=UI r (n*16+yD b) (k+1) h2 h3;rw [xP,List.length_cons,←Nat.add_assoc,Nat.add_right_comm];exact this
theorem PE {l:Bs} {g:Nat} (h:vt l=some g):g<65536:=by
 unfold vt at h;split at h
 ·rename_i hc;cases h;have h1:=UI l 0 0 hc.2.2 (by decide);have h2:(16:Nat) ^ (0+l.length)≤16 ^ 4:=Nat.pow_le_pow_right (by decide) (by omega);omega
 cases h
def xS (last:Bool):List Bs→List Nat→Option (List Nat)
 | [],acc=>some acc
 | x::r,acc=>match vt x with
  | some g=>xS last r (acc++[g])
  | none=>if (yS x).2=true∧last=true∧r=[] then some (acc++[(yS x).1 / 65536,(yS x).1 % 65536]) else none
def yH (l:Bs) (last:Bool):Option (List Nat):=if l=[] then some [] else xS last (zi 58 l) []
theorem U0 {o:Option Nat} (h:∀ v,o=some v→v<4294967296):(vh o).1<4294967296:=by
 cases o with
 | none=>exact by decide
 | some v=>exact h v rfl
theorem US:∀ (L:List Bs) (v k:Nat),v<256 ^ k→∀ u,vw L v=some u→u<256 ^ (k+L.length)
 | [],v,k,h,u,e=>by simp [vw] at e;subst e;simpa using h
 | p::r,v,k,h,u,e=>by
  unfold vw at e;cases hp:sF p with
  | none=>rw [hp] at e;cases e
  | some n =>
   rw [hp] at e;have hn:=UR hp;have:=US r (v*256+n) (k+1) (by rw [Nat.pow_succ];omega) u e;rw [List.length_cons,←Nat.add_assoc,Nat.add_right_comm];exact this
theorem pK (l:Bs):(yS l).1<4294967296:=by
 unfold yS;split
 ·rename_i h4;refine U0 fun v hv=> ?_;have:=US _ 0 0 (by decide) v hv;rw [h4] at this;exact this
 exact by decide
theorem Ww (last:Bool):∀ (L:List Bs) (acc:List Nat),(∀ x∈acc,x<65536)→∀ y,xS last L acc=some y→∀ x∈y,x<65536
 | [],acc,h,y,e=>by simp [xS] at e;subst e;exact h
 | p::r,acc,h,y,e=>by
  unfold xS at e;cases hp:vt p with
  | some g =>
   rw [hp] at e;refine Ww last r (acc++[g]) ?_ y e;intro x hx;rcases List.mem_append.1 hx with hx | hx
   ·exact h x hx
   simp at hx;subst hx;exact PE hp
  | none =>
   rw [hp] at e;simp only at e;split at e
   ·cases e;have:=pK p;intro x hx;rcases List.mem_append.1 hx with hx | hx
    ·exact h x hx
    simp at hx;rcases hx with rfl | rfl<;>omega
   cases e
theorem gj {l:Bs} {last:Bool} {y:List Nat} (h:yH l last=some y):∀ x∈y,x<65536:=by
 unfold yH at h;split at h
 ·cases h;simp
 exact Ww last _ [] (by simp) y h
theorem ZU (last:Bool):∀ (L:List Bs) (acc:List Nat) (y:List Nat),xS last L acc=some y→y.length≤acc.length+L.length+1
 | [],acc,y,e=>by simp [xS] at e;subst e;omega
 | p::r,acc,y,e=>by
  unfold xS at e;cases hp:vt p with
  | some g =>
   rw [hp] at e;have:=ZU last r (acc++[g]) y e;simp at this ⊢;omega
  | none =>
   rw [hp] at e;simp only at e;split at e
   ·cases e;simp<;>omega
   cases e
def xT:Bs→Option (Bs × Bs)
 | []=>none
 | b::r=>if b=58∧r.head? =some 58 then some ([],r.drop 1) else match xT r with
  | some p=>some (b::p.1,p.2)
  | none=>none
def te (a:Bs):Option (Bs × Bs)→Option (Bs × Bs)
 | some p=>some (a++p.1,p.2)
 | none=>none
theorem ZV (o:Option (Bs × Bs)):te [] o=o:=by cases o<;>rfl
theorem rb (a b:Bs) (o:Option (Bs × Bs)):te a (te b o)=te (a++b) o:=by cases o<;>simp [te]
theorem tR (b:UInt8) (r:Bs) (h:¬ (b=58∧r.head? =some 58)):xT (b::r)=te [b] (xT r):=by
 rw [xT,if_neg h];cases xT r<;>rfl
theorem rj (t:Bs):∀ a:Bs,(∀ x∈a,x≠58)→xT (a++t)=te a (xT t)
 | [],_=>(ZV _).symm
 | b::a,h=>by
  rw [List.cons_append,tR b _ (fun e=>h b (List.mem_cons_self ..) e.1),rj t a (fun x hx=>h x (List.mem_cons_of_mem _ hx)),rb];rfl
theorem Tq (r:Bs):xT (58::58::r)=some ([],r):=by
 rw [xT,if_pos ⟨rfl,rfl⟩];try rfl
def QU (L:List Bs):Prop:=∀ a∈L,a≠[]∧∀ x∈a,x≠58
theorem ZT (q:Bs) (L:List Bs) (t:Bs) (hq:q≠[]):(ye 58 (q::L)++t).head? =q.head? :=by
 cases q with
 | nil=>exact absurd rfl hq
 | cons b q=>cases L<;>rfl
theorem Z2 (r:Bs):∀ L:List Bs,QU L→xT (ye 58 L++58::58::r)=some (ye 58 L,r)
 | [],_=>Tq r
 | [p],h=>by
  show xT (p++58::58::r)=_;rw [rj _ p (h p (by simp)).2,Tq];simp [te,ye]
 | p::q::L,h=>by
  have ih:=Z2 r (q::L) (fun a ha=>h a (List.mem_cons_of_mem _ ha));have hq:=h q (by simp);show xT ((p++58::ye 58 (q::L))++58::58::r)=_;rw [List.append_assoc,rj _ p (h p (by simp)).2,List.cons_append,tR,ih]
  ·simp [te,ye]
  rintro ⟨_,e⟩;rw [ZT q L _ hq.1] at e;exact hq.2 58 (by cases q with | nil=>exact absurd rfl hq.1 | cons b q=>simp at e;simp [e]) rfl
theorem Z1:∀ L:List Bs,QU L→xT (ye 58 L)=none
 | [],_=>rfl
 | [p],h=>by
  have:=rj [] p (h p (by simp)).2;rw [List.append_nil] at this;show xT p=none;rw [this];rfl
 | p::q::L,h=>by
  have ih:=Z1 (q::L) (fun a ha=>h a (List.mem_cons_of_mem _ ha));have hq:=h q (by simp);show xT (p++58::ye 58 (q::L))=_;rw [rj _ p (h p (by simp)).2,tR,ih]
  ·rfl
  rintro ⟨_,e⟩;have:=ZT q L [] hq.1;rw [List.append_nil] at this;rw [this] at e;exact hq.2 58 (by cases q with | nil=>exact absurd rfl hq.1 | cons b q=>simp at e;simp [e]) rfl
theorem tQ:∀ {l:Bs} {p:Bs × Bs},xT l=some p→l=p.1++58::58::p.2
 | [],p,h=>by cases h
 | b::r,p,h=>by
  rw [xT] at h;split at h
  ·rename_i hc;cases h;obtain ⟨rfl,h2⟩:=hc;cases r with
   | nil=>cases h2
   | cons c r=>simp at h2;subst h2;rfl
  cases hr:xT r with
  | none=>rw [hr] at h;cases h
  | some q =>
   rw [hr] at h;cases h;show b::r=_;rw [tQ hr];rfl
def xG (l:Bs):Option (List Nat):=match xT l with
 | none=>match yH l true with
  | some x=>if x.length=8 then some x else none
  | none=>none
 | some p=>match yH p.1 false,yH p.2 true with
  | some x,some y=>if x.length+y.length≤7 then some (x++(List.replicate (8 - x.length - y.length) 0++y)) else none
  | _,_=>none
def TA (a:List Nat):Prop:=a.length=8∧∀ x∈a,x<65536
theorem uZ {l:Bs} {a:List Nat} (h:xG l=some a):TA a:=by
 unfold xG at h;split at h
 ·split at h
  ·rename_i x hx;split at h
   ·rename_i h8;cases h;exact ⟨h8,gj hx⟩
   cases h
  cases h
 split at h
 ·rename_i x y hx hy;split at h
  ·rename_i h7;cases h;refine ⟨by simp;omega,?_⟩;intro z hz;rcases List.mem_append.1 hz with hz | hz
   ·exact gj hx z hz
   rcases List.mem_append.1 hz with hz | hz
   ·rw [List.mem_replicate] at hz;omega
   exact gj hy z hz
  cases h
 cases h
def Xx:Option (List Nat)→List Nat × Bool
 | some a=>(a,true)
 | none=>([0,0,0,0,0,0,0,0],false)
def xJ (g:Nat):Bs:=wO 16 g
def wd:List Nat→Nat
 | []=>0
 | x::r=>if x=0 then wd r+1 else 0
theorem UU:∀ l:List Nat,wd l≤l.length
 | []=>Nat.le_refl _
 | x::r=>by
  unfold wd;have:=UU r;split<;>simp<;>omega
theorem Zr:∀ l:List Nat,l.take (wd l)=List.replicate (wd l) 0
 | []=>rfl
 | x::r=>by
  unfold wd;split
  ·rename_i h;subst h;rw [List.take_succ_cons,Zr r,List.replicate_succ]
  rfl
def xz:List Nat→Nat→Nat × Nat→Nat × Nat
 | [],_,b=>b
 | x::r,i,b=>xz r (i+1) (if b.2<wd (x::r) then (i,wd (x::r)) else b)
def Tz (a:List Nat) (b:Nat × Nat):Prop:=b.1+b.2≤a.length∧(a.drop b.1).take b.2=List.replicate b.2 0
theorem gJ (a:List Nat):∀ (l:List Nat) (i:Nat) (b:Nat × Nat),a.drop i=l→i+l.length=a.length→Tz a b→Tz a (xz l i b)
 | [],i,b,_,_,h=>h
 | x::r,i,b,hd,hl,h=>by
  unfold xz;refine gJ a r (i+1) _ ?_ (by simp at hl;omega) ?_
  ·rw [←List.drop_drop,hd];rfl
  split
  ·refine ⟨?_,?_⟩
   ·have:=UU (x::r);simp at hl this ⊢;omega
   show (a.drop i).take _=_;rw [hd,Zr]
  exact h
def yu (l:List Nat):Bs:=ye 58 (l.map xJ)
def SC (l:List Nat) (z:Nat × Nat):Bs:=if z.2<2 then yu l else yu (l.take z.1)++58::58::yu (l.drop (z.1+z.2))
def vM (l:List Nat):Bs:=SC l (xz l 0 (0,0))
theorem Jo:yD 58=99:=by decide
theorem uK (g:Nat):xJ g≠[]∧∀ x∈xJ g,x≠58:=⟨WL 16 g,PM 16 (by decide) (by decide) g 58 Jo⟩
theorem pC (l:List Nat):QU (l.map xJ):=by
 intro a ha;obtain ⟨g,_,rfl⟩:=List.mem_map.1 ha;exact uK g
theorem tN (g:Nat) (h:g<65536):(xJ g).length≤4:=WK 16 (by decide) 4 g h (by decide)
theorem SA (g:Nat) (h:g<65536):vt (xJ g)=some g:=by
 unfold vt;rw [if_pos ⟨List.length_pos_iff.2 (WL 16 g),tN g h,SR 16 (by decide) (by decide) g⟩];exact congrArg some (Zf 16 (by decide) (by decide) (g+1) g (by omega))
theorem gn (last:Bool):∀ (l acc:List Nat),(∀ x∈l,x<65536)→xS last (l.map xJ) acc=some (acc++l)
 | [],acc,_=>by simp [xS]
 | g::l,acc,h=>by
  rw [List.map_cons,xS,SA g (h g (List.mem_cons_self ..))];simp only;rw [gn last l _ (fun x hx=>h x (List.mem_cons_of_mem _ hx))];simp
theorem RR (q:Bs) (L:List Bs) (hq:q≠[]):ye 58 (q::L)≠[]:=by
 cases q with
 | nil=>exact absurd rfl hq
 | cons b q=>cases L<;>simp [ye]
theorem s5 (last:Bool) (l:List Nat) (h:∀ x∈l,x<65536):yH (yu l) last=some l:=by
 unfold yH yu;cases l with
 | nil=>rfl
 | cons g l =>
  have hne:ye 58 ((g::l).map xJ)≠[]:=RR _ _ (uK g).1;rw [if_neg hne,sM 58 _ (by simp) (fun a ha=>(pC (g::l) a ha).2),gn last _ [] h];rfl
theorem Xs (a:List Nat) (z:Nat × Nat) (h:Tz a z):a=a.take z.1++(List.replicate z.2 0++a.drop (z.1+z.2)):=by
 rw [←h.2,←List.drop_drop,List.take_append_drop,List.take_append_drop]
theorem rF (a:List Nat):Tz a (xz a 0 (0,0)):=gJ a a 0 (0,0) rfl (by simp) ⟨by simp,by simp⟩
theorem VU (a:List Nat) (h:TA a):xG (vM a)=some a:=by
 have hg:=rF a;unfold vM SC;generalize xz a 0 (0,0)=z at hg;split
 ·unfold xG;have:xT (yu a)=none:=Z1 _ (pC a);rw [this];simp only;rw [s5 true a h.2];simp [h.1]
 rename_i hz;unfold xG;have:xT (yu (a.take z.1)++58::58::yu (a.drop (z.1+z.2)))=some (yu (a.take z.1),yu (a.drop (z.1+z.2))):=Z2 _ _ (pC _);rw [this];simp only;rw [s5 false _ (fun x hx=>h.2 x (List.mem_of_mem_take hx)),s5 true _ (fun x hx=>h.2 x (List.mem_of_mem_drop hx))];simp only;have h1:=hg.1;have h8:=h.1;have hl1:(a.take z.1).length=z.1:=by rw [List.length_take];omega
 have hl2:(a.drop (z.1+z.2)).length=8 - (z.1+z.2):=by rw [List.length_drop];omega
 rw [hl1,hl2,if_pos (by omega)]
 congr 1
 have e:8 - z.1 - (8 - (z.1+z.2))=z.2:=by omega
 rw [e];exact (Xs a z hg).symm
theorem wb:∀ l:List Nat,(∀ x∈l,x<65536)→(yu l).length≤5*l.length
 | [],_=>by simp [yu,ye]
 | [g],h=>by
  have:=tN g (h g (by simp));show (xJ g).length≤_;simp;omega
 | g::k::l,h=>by
  have ih:=wb (k::l) (fun x hx=>h x (List.mem_cons_of_mem _ hx));have:=tN g (h g (by simp));show (xJ g++58::yu (k::l)).length≤_;simp at ih ⊢;omega
theorem pi (a:List Nat) (h:TA a):(vM a).length≤44:=by
 have hg:=rF a;have h8:=h.1;unfold vM SC;generalize xz a 0 (0,0)=z at hg;have h1:=hg.1;split
 ·have:=wb a h.2;omega
 have e1:=wb (a.take z.1) (fun x hx=>h.2 x (List.mem_of_mem_take hx));have e2:=wb (a.drop (z.1+z.2)) (fun x hx=>h.2 x (List.mem_of_mem_drop hx));rw [List.length_take] at e1;rw [List.length_drop] at e2;simp;omega
def hxI (b:UInt8):Int:=if 48≤b.toNat∧b.toNat≤57 then (b.toNat:Int) - 48 else if 97≤b.toNat∧b.toNat≤102 then (b.toNat:Int) - 97+10 else if 65≤b.toNat∧b.toNat≤70 then (b.toNat:Int) - 65+10 else -1
theorem pQ (b:UInt8):(48≤b.toNat∧b.toNat≤57∧hxI b=(b.toNat:Int) - 48)∨(97≤b.toNat∧b.toNat≤102∧hxI b=(b.toNat:Int) - 97+10)∨(65≤b.toNat∧b.toNat≤70∧hxI b=(b.toNat:Int) - 65+10)∨(¬ (48≤b.toNat∧b.toNat≤57)∧¬ (97≤b.toNat∧b.toNat≤102)∧¬ (65≤b.toNat∧b.toNat≤70)∧hxI b= -1):=by
 unfold hxI;split
 ·omega
 split
 ·omega
 split<;>omega
theorem sm (b:UInt8): -1≤hxI b∧hxI b<16:=by have:=pQ b;omega
def pctV:Bs→Option Bs
 | []=>some []
 | b::r =>
  if b≠37 then (pctV r).map (b::·)
  else match r with
   | x::y::q=>if hxI x<0∨hxI y<0 then none else (pctV q).map (UInt8.ofNat (16*hxI x+hxI y).toNat::·)
   | _=>none
theorem qc {b:UInt8} {r:Bs} (h:b≠37):pctV (b::r)=(pctV r).map (b::·):=by
 rw [pctV.eq_def];simp only;rw [if_pos h]
theorem XM {x y:UInt8} {q:Bs} (hx:¬ hxI x<0) (hy:¬ hxI y<0):pctV (37::x::y::q)=(pctV q).map (UInt8.ofNat (16*hxI x+hxI y).toNat::·):=by
 rw [pctV.eq_def];simp only;rw [if_neg (by simp),if_neg (by rintro (h | h)<;>contradiction)]
theorem kB {x y:UInt8} {q:Bs} (h:hxI x<0∨hxI y<0):pctV (37::x::y::q)=none:=by
 rw [pctV.eq_def];simp only;rw [if_neg (by simp),if_pos h]
theorem tX {r:Bs} (h:r.length<2):pctV (37::r)=none:=by
 match r,h with
 | [],_=>rw [pctV.eq_def];simp
 | [x],_=>rw [pctV.eq_def];simp
def sG (o r:Bs):Option Bs:=(pctV r).map (o++·)
theorem kC {b:UInt8} {o r:Bs} (h:b≠37):sG o (b::r)=sG (o++[b]) r:=by
 unfold sG;rw [qc h];cases pctV r<;>simp
theorem XN {x y:UInt8} {o q:Bs} (hx:¬ hxI x<0) (hy:¬ hxI y<0):sG o (37::x::y::q)=sG (o++[UInt8.ofNat (16*hxI x+hxI y).toNat]) q:=by
 unfold sG;rw [XM hx hy];cases pctV q<;>simp
theorem XO (o:Bs):sG o []=some o:=by simp [sG,pctV]
theorem ry {o r:Bs} (h:pctV r=none):sG o r=none:=by rw [sG,h];rfl
theorem qJ:∀ (n:Nat) (l o:Bs),l.length≤n→pctV l=some o→o.length≤l.length
 | _,[],o,_,h=>by simp [pctV] at h;subst h;simp
 | 0,b::r,o,hn,h=>by simp at hn
 | n+1,b::r,o,hn,h=>by
  simp only [List.length_cons] at hn;by_cases hb:b=37
  ·subst hb
   match r,h,hn with
   | [],h,_=>rw [tX (by simp)] at h;cases h
   | [x],h,_=>rw [tX (by simp)] at h;cases h
   | x::y::q,h,hn =>
    by_cases hxy:hxI x<0∨hxI y<0
    ·rw [kB hxy] at h;cases h
    rw [XM (fun e=>hxy (.inl e)) (fun e=>hxy (.inr e))] at h;cases hq:pctV q with
    | none=>rw [hq] at h;cases h
    | some z =>
     rw [hq] at h;cases h;have:=qJ n q z (by simp at hn;omega) hq;simp;omega
  rw [qc hb] at h;cases hr:pctV r with
  | none=>rw [hr] at h;cases h
  | some z =>
   rw [hr] at h;cases h;have:=qJ n r z (by omega) hr;simp;omega
def okB (b:UInt8):Bool:=decide ((48≤b.toNat∧b.toNat≤57)∨(97≤b.toNat∧b.toNat≤102)∨b.toNat=58)
theorem RB (d:Nat) (h:d<16):okB (uL d)=true:=by
 have:∀ d:Fin 16,okB (uL d.1)=true:=by decide
 exact this ⟨d,h⟩
theorem XY (g:Nat):∀ x∈xJ g,okB x=true:=by
 intro x hx;obtain ⟨d,hd,rfl⟩:=gD 16 (by decide) (by decide) (g+1) g (by omega) x hx;exact RB d hd
theorem rA:∀ l:List Nat,∀ x∈yu l,okB x=true
 | [],x,h=>by simp [yu,ye] at h
 | [g],x,h=>XY g x h
 | g::k::l,x,h=>by
  have h:x∈xJ g++58::yu (k::l):=h;rcases List.mem_append.1 h with h | h
  ·exact XY g x h
  rcases List.mem_cons.1 h with rfl | h
  ·decide
  exact rA (k::l) x h
theorem RC (l:List Nat):∀ x∈vM l,okB x=true:=by
 unfold vM SC;generalize xz l 0 (0,0)=z;intro x hx;split at hx
 ·exact rA _ x hx
 rcases List.mem_append.1 hx with hx | hx
 ·exact rA _ x hx
 rcases List.mem_cons.1 hx with rfl | hx
 ·decide
 rcases List.mem_cons.1 hx with rfl | hx
 ·decide
 exact rA _ x hx
def vg:List Nat→Nat→Int × Nat→Int × Nat
 | [],_,b=>b
 | x::r,i,b=>vg r (i+1) (if b.2<wd (x::r) then ((i:Int),wd (x::r)) else b)
def QV (b:Nat × Nat) (c:Int × Nat):Prop:=(b.2≤1∧c=(-1,1))∨(2≤b.2∧c=((b.1:Int),b.2))
theorem Ya:∀ (l:List Nat) (i:Nat) (b:Nat × Nat) (c:Int × Nat),QV b c→QV (xz l i b) (vg l i c)
 | [],i,b,c,h=>h
 | x::r,i,b,c,h=>by
  unfold xz vg;apply Ya r (i+1);rcases h with ⟨h1,rfl⟩ | ⟨h1,rfl⟩
  ·simp only;by_cases h2:2≤wd (x::r)
   ·rw [if_pos (by omega),if_pos (by omega)];exact .inr ⟨h2,rfl⟩
   rw [if_neg (by omega:¬ 1<wd (x::r))];split
   ·exact .inl ⟨by simp only;omega,rfl⟩
   exact .inl ⟨h1,rfl⟩
  simp only;split
  ·exact .inr ⟨by simp only;omega,rfl⟩
  exact .inr ⟨h1,rfl⟩
theorem UA (l:List Nat):QV (xz l 0 (0,0)) (vg l 0 (-1,1)):=Ya l 0 (0,0) (-1,1) (.inl ⟨by simp,rfl⟩)
theorem Ue (l:List Nat) (g:Nat) (h:l≠[]):yu (l++[g])=yu l++58::xJ g:=by
 unfold yu;rw [List.map_append];exact ql 58 (xJ g) (l.map xJ) (by simpa using h)
theorem k8:∀ l:List Nat,l≠[]→∃ c,(yu l).getLast? =some c∧c≠58
 | [],h=>absurd rfl h
 | [g],_=>by
  obtain ⟨c,hc⟩:∃ c,(xJ g).getLast? =some c:=by
   cases hg:xJ g with
   | nil=>exact absurd hg (uK g).1
   | cons a r=>exact ⟨(a::r).getLast (by simp),List.getLast?_eq_some_getLast (by simp)⟩
  exact ⟨c,hc,(uK g).2 c (List.mem_of_getLast? hc)⟩
 | g::k::l,_=>by
  obtain ⟨c,hc,h⟩:=k8 (k::l) (by simp);refine ⟨c,?_,h⟩;show (xJ g++58::yu (k::l)).getLast? =some c;rw [List.getLast?_append,List.getLast?_cons,hc];rfl
def rJ (l:Bs):Bs × Bs × Bool:=match xT l with
 | some p=>(p.1,p.2,true)
 | none=>(l,[],false)
theorem pre2 (b:UInt8) (r:Bs):([58,58]:Bs).isPrefixOf (b::r)=true↔b=58∧r.head? =some 58:=by
 cases r with
 | nil =>
  show ((58==b)&&false)=true↔b=58∧(none:Option UInt8)=some 58;rw [Bool.and_false];exact ⟨fun h=>absurd h (by decide),fun h=>absurd h.2 (by decide)⟩
 | cons c r =>
  show ((58==b)&&((58==c)&&true))=true↔b=58∧some c=some 58;rw [Bool.and_true,Bool.and_eq_true,beq_iff_eq,beq_iff_eq];exact ⟨fun h=>⟨h.1.symm,by rw [h.2]⟩,fun h=>⟨h.1.symm,(Option.some.inj h.2).symm⟩⟩
theorem ga:∀ l:Bs,Lib.index l [58,58]=match xT l with | some p=>(p.1.length:Int) | none=> -1
 | []=>rfl
 | b::r=>by
  have ih:=ga r;rw [Lib.index,xT];by_cases h:b=58∧r.head? =some 58
  ·rw [if_pos ((pre2 b r).2 h),if_pos h];rfl
  rw [if_neg (fun e=>h ((pre2 b r).1 e)),if_neg h,ih];cases xT r with
  | none=>rfl
  | some p =>
   simp only;rw [if_neg (by simp<;>omega)];simp
theorem Qq (l:Bs):Lib.cut l [58,58]=rJ l:=by
 unfold Lib.cut rJ;rw [ga];cases h:xT l with
 | none=>rfl
 | some p =>
  have e:=tQ h;simp only;rw [if_pos (by omega)];have e1:((p.1.length:Nat):Int).toNat=p.1.length:=by omega
  rw [e1];have e2:l.take p.1.length=p.1:=by rw [e];simp
  have e3:l.drop (p.1.length+([58,58]:Bs).length)=p.2:=by
   rw [e,←List.drop_drop];simp
  rw [e2,e3]
theorem Qt (l:Bs):(rJ l).1.length≤l.length∧(rJ l).2.1.length≤l.length:=by
 unfold rJ;cases h:xT l with
 | none=>simp
 | some p =>
  have e:=congrArg List.length (tQ h);simp at e;simp only;omega
theorem XQ (l:Bs):xG l=match yH (rJ l).1 (!(rJ l).2.2),yH (rJ l).2.1 true with
  | some x,some y=>if ((rJ l).2.2=false∧x.length+y.length=8)∨((rJ l).2.2=true∧x.length+y.length≤7) then some (x++(List.replicate (8 - x.length - y.length) 0++y)) else none
  | _,_=>none:=by
 unfold xG rJ;cases h:xT l with
 | none =>
  have e:yH [] true=some []:=rfl;simp only [Bool.not_false,e];cases yH l true with
  | none=>rfl
  | some x =>
   simp only;by_cases h8:x.length=8
   ·rw [if_pos h8,if_pos (by simp [h8])];simp [h8]
   rw [if_neg h8,if_neg (by simp;exact h8)]
 | some p =>
  simp only [Bool.not_true];cases yH p.1 false with
  | none=>rfl
  | some x =>
   cases yH p.2 true with
   | none=>rfl
   | some y=>simp
def pJ:Nat→Bs→List Nat
 | 0,_=>[]
 | n+1,l=>if l=[] then [] else (Lib.decodeL l).1::pJ n (l.drop (Lib.decodeL l).2)
def xD (l:Bs):List Nat:=pJ l.length l
theorem qD:∀ n,pJ n []=[]
 | 0=>rfl
 | _+1=>by simp [pJ]
theorem Zx:∀ (n m:Nat) (l:Bs),l.length≤n→l.length≤m→pJ n l=pJ m l
 | 0,m,l,hn,_=>by
  have:l=[]:=List.eq_nil_of_length_eq_zero (by omega);subst this;rw [qD,qD]
 | n+1,0,l,_,hm=>by
  have:l=[]:=List.eq_nil_of_length_eq_zero (by omega);subst this;rw [qD,qD]
 | n+1,m+1,l,hn,hm=>by
  unfold pJ;by_cases hne:l=[]
  ·simp [hne]
  have hw:=Lib.decodeL_width l;have hl:0<l.length:=List.length_pos_iff.2 hne;rw [if_neg hne,if_neg hne,Zx n m (l.drop (Lib.decodeL l).2) (by rw [List.length_drop];omega) (by rw [List.length_drop];omega)]
theorem XH:xD []=[]:=rfl
theorem ww {l:Bs} (hne:l≠[]):xD l=(Lib.decodeL l).1::xD (l.drop (Lib.decodeL l).2):=by
 have hl:0<l.length:=List.length_pos_iff.2 hne;have hw:=Lib.decodeL_width l;obtain ⟨n,hn⟩:∃ n,l.length=n+1:=⟨l.length - 1,by omega⟩;unfold xD;rw [hn];show (if l=[] then [] else _)=_;rw [if_neg hne,Zx n (l.drop (Lib.decodeL l).2).length _ (by rw [List.length_drop];omega) (Nat.le_refl _)]
theorem XG:∀ (n:Nat) (l:Bs),(pJ n l).length≤n
 | 0,_=>Nat.le_refl _
 | n+1,l=>by
  unfold pJ;split
  ·simp
  have:=XG n (l.drop (Lib.decodeL l).2);simp only [List.length_cons];omega
theorem qE (l:Bs):(xD l).length≤l.length:=XG _ _
theorem UZ:∀ (n:Nat) (l:Bs),∀ p∈pJ n l,p≤1114111
 | 0,_,p,h=>by cases h
 | n+1,l,p,h=>by
  unfold pJ at h;split at h
  ·cases h
  rcases List.mem_cons.1 h with rfl | h
  ·exact Lib.decodeL_rune l
  exact UZ n _ p h
theorem Pf (l:Bs):∀ p∈xD l,p≤1114111:=UZ _ _
def rp (l:Bs):Bool:=l.all fun b=>decide (b.toNat<128)
theorem ku:∀ l:Bs,rp l=true→(xD l).length=l.length
 | [],_=>rfl
 | b::r,h=>by
  unfold rp at h;simp only [List.all_cons,Bool.and_eq_true,decide_eq_true_eq] at h;rw [ww (by simp),Lib.decodeL_ascii b r h.1];simp only [List.drop_succ_cons,List.drop_zero,List.length_cons];rw [ku r h.2]
theorem YD:∀ (n:Nat) (l:Bs),l.length≤n→Lib.validD l=true→rp l=false→(xD l).length<l.length
 | _,[],_,_,h=>by simp [rp] at h
 | 0,_::_,h,_,_=>by simp at h
 | n+1,b::r,hn,hv,ha=>by
  simp only [List.length_cons] at hn;by_cases hb:b.toNat<128
  ·have ha2:rp r=false:=by
    unfold rp at ha ⊢;simp only [List.all_cons,KZ7 hb,Bool.true_and] at ha;exact ha
   rw [Lib.validD_cons b r hb] at hv;have:=YD n r (by omega) hv ha2;rw [ww (by simp),Lib.decodeL_ascii b r hb];simp only [List.drop_succ_cons,List.drop_zero,List.length_cons];omega
  rw [Lib.validD_step _ (by simp)] at hv;have hw:=Lib.decodeL_width (b::r);have hle:=Lib.decodeL_le (b::r) (by simp);have h2:2≤(Lib.decodeL (b::r)).2:=by
   split at hv
   ·cases hv
   rename_i hne;rcases Nat.lt_or_ge (Lib.decodeL (b::r)).2 2 with h | h
   ·exfalso;have h1:(Lib.decodeL (b::r)).2=1:=by omega
    apply hne;refine ⟨?_,h1⟩;rw [Lib.decodeL_N] at h1 ⊢;have h0:((b::r).getD 0 0).toNat=b.toNat:=rfl;rw [h0] at h1 ⊢
    revert h1
    unfold Lib.decodeN;rw [if_neg hb]
    repeat' split
    all_goals simp
   exact h
  have:=qE ((b::r).drop (Lib.decodeL (b::r)).2);rw [ww (by simp)];simp only [List.length_cons,List.length_drop] at this hle ⊢;omega
theorem uX (s:ByteArray):∀ (f pos:Nat),Lib.runeCountFrom s f pos=(pJ f ((un s).drop pos)).length
 | 0,_=>rfl
 | f+1,pos=>by
  have hlen:(un s).length=s.size:=zb s;unfold Lib.runeCountFrom pJ;by_cases hp:pos<s.size
  ·have hne:(un s).drop pos≠[]:=by
    intro e;have:=congrArg List.length e;rw [List.length_drop] at this;simp at this;omega
   rw [if_pos hp,if_neg hne,uX s f,List.drop_drop];have:Lib.decodeL ((un s).drop pos)=Utf8.decode s pos:=Lib.decodeL_drop s pos;rw [this];simp only [List.length_cons];omega
  have hne:(un s).drop pos=[]:=List.drop_eq_nil_of_le (by omega);rw [if_neg hp,if_pos hne];rfl
theorem gS (s:ByteArray):Lib.runeCount s=(xD (un s)).length:=by
 have:=uX s s.size 0;rw [List.drop_zero] at this;unfold Lib.runeCount xD;rw [zb];exact this
def xnP:Bs:=[120,110,45,45]
def xQ (l:Bs):Option Bs :=
 if Lib.validD l=false then none
 else if 256<(xD l).length then none
 else match sx (xD (zt l)) with
  | none=>none
  | some c=>if ya (xnP++c)=true then some (xnP++c) else none
theorem qx {x y:Bs} (h:xQ x=some y):ya y=true:=by
 unfold xQ at h;split at h
 ·cases h
 split at h
 ·cases h
 split at h
 ·cases h
 split at h
 ·rename_i h2;cases h;exact h2
 cases h
def xj:List Nat:=[0,0,0,0,0,0,0,0]
structure HostP where
 kind:Nat
 name:Bs
 v4:Nat
 v6:List Nat
deriving DecidableEq
def zk:HostP:=⟨0,[],0,xj⟩
def x8 (l:Bs):Option Bs:=if 256<l.length then none else if ya (zt l)=true then some (zt l) else none
def yx (l:Bs):Option Bs:=if rp l=true then x8 l else xQ l
theorem qw {l:Bs} (h:rp l=true):yx l=x8 l:=if_pos h
def xL (l:Bs):Bs:=Lib.trimSuffix l [46]
def x9:List Bs→Option (List Bs)
 | []=>some []
 | x::r=>match yx x with
  | none=>none
  | some y=>(x9 r).map (y::·)
def Y8 (n:Bs):Option HostP:=if 253<n.length then none else if yq n=true then none else some ⟨1,n,0,xj⟩
def SE (s:Bs):Option HostP:=match x9 (zi 46 s) with
 | none=>none
 | some l=>Y8 (ye 46 l)
def vk (s:Bs):Option HostP:=if yq s=true then (if (xw s).2=true then some ⟨2,[],(xw s).1,xj⟩ else none) else SE s
def rV (l:Bs):Option HostP:=if l.getLast? =some 93 then (xG ((l.take (l.length - 1)).drop 1)).map (fun v=>⟨3,[],0,v⟩) else none
def yY (l:Bs):Option HostP :=
 if 1024<l.length then none
 else if l.head? =some 91 then rV l
 else match pctV l with
  | none=>none
  | some t=>vk (xL t)
def zT (h:HostP):Bool:=match h.kind with
 | 1=>zJ h.name&&decide (h.v4=0)&&decide (h.v6=xj)
 | 2=>decide (h.name=[])&&decide (h.v6=xj)
 | 3=>decide (h.name=[])&&decide (h.v4=0)
 | _=>false
def yf (h:HostP):Bs:=if zT h=true then (match h.kind with
 | 1=>h.name
 | 2=>vJ h.v4
 | _=>91::(vM h.v6++[93])) else []
def yQ:Bs:=[104,116,116,112]
def zG:Bs:=[104,116,116,112,115]
def bWs:Bs:=[119,115]
def rK:Bs:=[119,115,115]
structure UrlP where
 scheme:Bs
 user:Bs
 host:HostP
 port:Int
 rest:Bs
deriving DecidableEq
def zu:UrlP:=⟨[],[],zk,0,[]⟩
def zv (s:Bs):Int:=if s=yQ∨s=bWs then 80 else if s=zG∨s=rK then 443 else -1
theorem yr (s:Bs):(zv s=80∧(s=yQ∨s=bWs))∨(zv s=443∧(s=zG∨s=rK))∨(zv s= -1∧¬ (s=yQ∨s=bWs)∧¬ (s=zG∨s=rK)):=by
 unfold zv;by_cases h:s=yQ∨s=bWs
 ·rw [if_pos h];exact .inl ⟨rfl,h⟩
 rw [if_neg h];by_cases h2:s=zG∨s=rK
 ·rw [if_pos h2];exact .inr (.inl ⟨rfl,h2⟩)
 rw [if_neg h2];exact .inr (.inr ⟨rfl,h,h2⟩)
def zY (b:UInt8):Bool:=sk b||wi b
def wI (b:UInt8):Bool:=zY b||decide (b∈([48,49,50,51,52,53,54,55,56,57,43,45,46]:Bs))
def xq:Bs→Bool
 | []=>false
 | b::r=>zY b&&r.all wI
def xB (b:UInt8):Bool:=decide (b.toNat≤32∨b.toNat=127)
def tF:Bs→Int→Option Int
 | [],n=>some n
 | b::r,n=>if zI b=true then tF r (min (10*max n 0+((b.toNat:Int) - 48)) 65536) else none
def vz (l:Bs):Option Int:=match tF l (-1) with
 | none=>none
 | some n=>if n<65536 then some n else none
def yC (a:Bs):Option (Bs × Bs) :=
 if a.head? =some 91 then (if Lib.indexByte a 93<0 then none else some (a.take ((Lib.indexByte a 93).toNat+1),a.drop ((Lib.indexByte a 93).toNat+1)))
 else if Lib.indexByte a 58<0 then some (a,[]) else some (a.take (Lib.indexByte a 58).toNat,a.drop (Lib.indexByte a 58).toNat)
def wE (a:Bs):Bs × Bs:=if zo 64 a<0 then ([],a) else (a.take (zo 64 a).toNat,a.drop ((zo 64 a).toNat+1))
def vl (u:UrlP) (name tail:Bs):Option UrlP :=
 if tail≠[]∧tail.head? ≠some 58 then none
 else match yY name with
  | none=>none
  | some h=>match vz (tail.drop 1) with
   | none=>none
   | some p=>some { u with host:=h,port:=if p=zv u.scheme then u.port else p }
def xr (u:UrlP) (a:Bs):Option UrlP:=match yC (wE a).2 with
 | none=>none
 | some (n,t)=>vl { u with user:=(wE a).1 } n t
def xU (r:Bs):Nat:=if Lib.indexAny r [47,63,35]<0 then r.length else (Lib.indexAny r [47,63,35]).toNat
def vj (r:Bs):Bs:=if r.head? =some 47 then r else 47::r
def xX (s rest:Bs):Option UrlP :=
 if zv s<0 then some ⟨s,[],zk,-1,rest⟩
 else if rest.take 2=[47,47] then xr ⟨s,[],zk,-1,vj ((rest.drop 2).drop (xU (rest.drop 2)))⟩ ((rest.drop 2).take (xU (rest.drop 2)))
 else none
def yG (l:Bs):Option UrlP :=
 if l.any xB=true then none
 else if Lib.indexByte l 58<0 then none
 else if xq (l.take (Lib.indexByte l 58).toNat)=true then xX (zt (l.take (Lib.indexByte l 58).toNat)) (l.drop ((Lib.indexByte l 58).toNat+1))
 else none
def sI (l:Bs):Option UrlP:=if 2048<l.length then none else yG l
def xd (u:UrlP):Bs :=
 if zv u.scheme<0 then u.scheme++58::u.rest
 else u.scheme++([58,47,47]++((if u.user=[] then [] else u.user++[64])++(yf u.host++((if u.port= -1 then [] else 58::Lib.itoa u.port)++u.rest))))
def yR (u:UrlP):Bool:=decide (yG (xd u)=some u)
def yW (u:UrlP):Bs:=if yR u=true then xd u else []
def yp (s:Bs):Bs:=if s=yQ then zG else rK
def yd (u:UrlP):UrlP:=if zv u.scheme=80 then ⟨yp u.scheme,u.user,u.host,if u.port=zv (yp u.scheme) then -1 else u.port,u.rest⟩ else u
def gM:Bs:=[102,105,108,101]
def sC:Bs:=[97,98,111,117,116]
def Tw:Bs:=[100,97,116,97]
def ro:Bs:=[98,108,97,110,107]
def th:Bs:=[115,114,99,100,111,99]
def QN:Bs:=[108,111,99,97,108,104,111,115,116]
def ta (h:HostP):Bool:=zT h&&(match h.kind with
 | 2=>decide (h.v4 / 16777216=127)
 | 3=>decide (h.v6=[0,0,0,0,0,0,0,1])
 | _=>xM QN h.name)
def yv (u:UrlP):Bool:=yR u&&(
 if u.scheme=zG∨u.scheme=rK∨u.scheme=gM then true
 else if u.scheme=sC then decide (u.rest=ro∨u.rest=th)
 else decide (0<zv u.scheme)&&ta u.host)
end Hs
namespace Go.Proofs.YtjbciamhhfcdoaaGreatDoor
open Go.RowKit Hs
theorem zF (s:ByteArray) (l:Bs):(s.toList==l)=decide (un s=l):=by
 rw [zl];by_cases h:un s=l<;>simp [h]
theorem rq (s:ByteArray) (w:World):Calls Tryz.prog 86 #[.string s] w fun e w'=>e= .returned (.int .i64 (zv (un s)))∧w=w':=by
 have hc:=yr (un s);obtain ⟨v,hv⟩:=KZ6 (zv (un s));rw [←hv] at hc ⊢;clear hv;rcases hc with ⟨rfl,h | h⟩ | ⟨rfl,h | h⟩ | ⟨rfl,h1,h2⟩
 ·have ebHttp:(s.toList==[104,116,116,112])=true:=(zF s _).trans (by rw [h];decide);have ebWs:(s.toList==[119,115])=false:=(zF s _).trans (by rw [h];decide);have ebHttps:(s.toList==[104,116,116,112,115])=false:=(zF s _).trans (by rw [h];decide);have ebWss:(s.toList==[119,115,115])=false:=(zF s _).trans (by rw [h];decide);clear h;go_enter Tryz.func86,Tryz.ntmps86
  go_wp2;go_ret;exact ⟨rfl,rfl⟩
 ·have ebHttp:(s.toList==[104,116,116,112])=false:=(zF s _).trans (by rw [h];decide);have ebWs:(s.toList==[119,115])=true:=(zF s _).trans (by rw [h];decide);have ebHttps:(s.toList==[104,116,116,112,115])=false:=(zF s _).trans (by rw [h];decide);have ebWss:(s.toList==[119,115,115])=false:=(zF s _).trans (by rw [h];decide);clear h;go_enter Tryz.func86,Tryz.ntmps86
  go_wp2;go_ret;exact ⟨rfl,rfl⟩
 ·have ebHttp:(s.toList==[104,116,116,112])=false:=(zF s _).trans (by rw [h];decide);have ebWs:(s.toList==[119,115])=false:=(zF s _).trans (by rw [h];decide);have ebHttps:(s.toList==[104,116,116,112,115])=true:=(zF s _).trans (by rw [h];decide);have ebWss:(s.toList==[119,115,115])=false:=(zF s _).trans (by rw [h];decide);clear h;go_enter Tryz.func86,Tryz.ntmps86
  go_wp2;go_ret;exact ⟨rfl,rfl⟩
 ·have ebHttp:(s.toList==[104,116,116,112])=false:=(zF s _).trans (by rw [h];decide);have ebWs:(s.toList==[119,115])=false:=(zF s _).trans (by rw [h];decide);have ebHttps:(s.toList==[104,116,116,112,115])=false:=(zF s _).trans (by rw [h];decide);have ebWss:(s.toList==[119,115,115])=true:=(zF s _).trans (by rw [h];decide);clear h;go_enter Tryz.func86,Tryz.ntmps86
  go_wp2;go_ret;exact ⟨rfl,rfl⟩
 have ebHttp:(s.toList==[104,116,116,112])=false:=(zF s _).trans (KZ8 (fun e=>h1 (.inl e)));have ebWs:(s.toList==[119,115])=false:=(zF s _).trans (KZ8 (fun e=>h1 (.inr e)));have ebHttps:(s.toList==[104,116,116,112,115])=false:=(zF s _).trans (KZ8 (fun e=>h2 (.inl e)));have ebWss:(s.toList==[119,115,115])=false:=(zF s _).trans (KZ8 (fun e=>h2 (.inr e)));clear h1 h2;go_enter Tryz.func86,Tryz.ntmps86
 go_wp2;go_ret;exact ⟨rfl,rfl⟩
theorem tB (s:ByteArray) (w:World):Calls Tryz.prog 47 #[.string s] w fun e w'=>e= .returned (.bool (decide (0<zv (un s))))∧w=w':=by
 have hd:=rq s w;have HD:=KZ9 hd;clear hd;go_enter Tryz.func47,Tryz.ntmps47
 go_wp2_with fail
 refine HD.out.mono ?_;rintro e w1 ⟨rfl,rfl⟩;go_wp2;go_ret;exact ⟨rfl,rfl⟩
def X1 (l:Bs):Int × Bool:=match tF l (-1) with
 | none=>(0,false)
 | some n=>(n,decide (n<65536))
theorem VN (l:Bs):vz l=if (X1 l).2=true then some (X1 l).1 else none:=by
 unfold vz X1;cases tF l (-1) with
 | none=>rfl
 | some n=>simp
set_option maxRecDepth 20000
set_option maxHeartbeats 4000000
theorem S5 (s:ByteArray) (w:World) (hs:s.size≤100000000):Calls Tryz.prog 175 #[.string s] w fun e w'=>e= .returned (.tuple #[.int .i64 (X1 (un s)).1,.bool (X1 (un s)).2])∧w=w':=by
 have hlen:(un s).length=s.size:=zb s;obtain ⟨l,hl⟩:=KZ6 (un s);have hdef:X1 l=match tF l (-1) with
  | none=>(0,false)
  | some n=>(n,decide (n<65536)):=rfl
 obtain ⟨R,hR⟩:=KZ6 (X1 l);rw [←hl] at hlen ⊢;rw [←hR] at hdef ⊢;have HL:=KZ9 hl;have HDEF:=KZ9 hdef;have HLEN:=KZ9 hlen;clear hl hdef hlen hR;go_enter Tryz.func175,Tryz.ntmps175
 go_wp2;go_loop [4,8] (fun nv iv=>∃ (k:Nat) (m:Int),iv= .int .i64 k∧nv= .int .i64 m∧k≤s.size∧ -1≤m∧m≤65536∧Hid (tF l (-1)=tF (l.drop k) m)) (fun _ iv=>s.size - (intOf iv).toNat)
 case atStart=>exact ⟨0,-1,rfl,rfl,by omega,by omega,by omega,KZ9 (by rw [List.drop_zero])⟩
 case round =>
  obtain ⟨k,m,rfl,rfl,hk,hm1,hm2,hst⟩:=hrel;by_cases hlt:k<s.size
  ·have hkl:k<l.length:=by rw [HLEN.out];exact hlt
   have hx:l[k]=s[k]:=by
    have:=HL.out;subst this;exact zL s k hlt
   have hst2:=hst.out;rw [List.drop_eq_getElem_cons hkl,hx,tF] at hst2;have hb256:=(s[k]).toNat_lt;have hdg:zI s[k]=decide (48≤(s[k]).toNat∧(s[k]).toNat≤57):=rfl;rw [hdg] at hst2;obtain ⟨x,hx2⟩:=KZ6 ((s[k]).toNat);have cs:(s[k].toNat:Int)=(x:Int):=by rw [hx2]
   rw [←hx2] at hst2 hb256;clear hdg hx hx2 hst;by_cases hd:48≤x∧x≤57
   ·rw [if_pos (KZ7 hd)] at hst2;obtain ⟨m2,hm⟩:=KZ6 (min (10*max m 0+((x:Int) - 48)) 65536);rw [←hm] at hst2;have HST:=KZ9 hst2;have hmm:m2=min (10*max m 0+((x:Int) - 48)) 65536∧ -1≤m2∧m2≤65536:=⟨hm,by omega,by omega⟩;clear hst2;go_wp2
    all_goals try omega
    all_goals
     go_round
     case rel=>exact ⟨k+1,m2,by go_num,by go_num,by omega,by omega,by omega,HST⟩
     case measure=>simp [intOf];omega
   rw [if_neg (by simpa using hd)] at hst2;have hfin:=HDEF.out;rw [hst2] at hfin;have HFIN:=KZ9 hfin;clear hst2 hfin HDEF;go_wp2
   all_goals try omega
   all_goals
    go_ret2;rw [HFIN.out];exact ⟨rfl,rfl⟩
  have hfin:=HDEF.out;have hst2:=hst.out;rw [List.drop_of_length_le (by rw [HLEN.out];omega),tF] at hst2;rw [hst2] at hfin;have HFIN:Hid (R=(m,decide (m<65536))):=KZ9 hfin;clear hst hst2 hfin;obtain ⟨q,hq⟩:=KZ6 (decide (m<65536));rw [←hq] at HFIN;have HQ:=KZ9 hq;clear hq;clear HDEF;go_wp2
  all_goals try omega
  go_ret2;rw [HFIN.out];exact ⟨by rw [HQ.out];rfl,rfl⟩
end Go.Proofs.YtjbciamhhfcdoaaGreatDoor
namespace Hs
open Go
def wD (cs:Bs):Bs→Nat
 | []=>0
 | b::r=>if cs.contains b=true then 0 else wD cs r+1
theorem jz (cs:Bs):∀ l:Bs,wD cs l≤l.length
 | []=>Nat.le_refl _
 | b::r=>by
  have ih:=jz cs r;rw [wD];split
  ·omega
  simp only [List.length_cons];omega
theorem Wn (cs:Bs):∀ l:Bs,wD cs l=if Lib.indexAny l cs<0 then l.length else (Lib.indexAny l cs).toNat
 | []=>rfl
 | b::r=>by
  have ih:=Wn cs r;have hg:=Lib.indexAny_ge cs r;rw [wD,Lib.indexAny];by_cases hb:cs.contains b=true
  ·rw [if_pos hb,if_pos hb];rfl
  rw [if_neg hb,if_neg hb,ih];by_cases hm:Lib.indexAny r cs= -1
  ·rw [hm];rfl
  have h2:(Lib.indexAny r cs== -1)=false:=by rw [beq_eq_false_iff_ne];exact hm
  have h3:¬ (Lib.indexAny r cs<0):=by omega
  have h4:¬ (Lib.indexAny r cs+1<0):=by omega
  rw [h2,if_neg h3];simp only [Bool.false_eq_true,if_false];rw [if_neg h4];omega
theorem Su (r:Bs):xU r=wD [47,63,35] r:=by unfold xU;rw [Wn]
theorem gb (c:UInt8):∀ l:Bs,wD [c] l=if Lib.indexByte l c<0 then l.length else (Lib.indexByte l c).toNat
 | []=>rfl
 | b::r=>by
  have ih:=gb c r;have hg:=Lib.indexByte_ge r c;rw [wD,Lib.indexByte];by_cases hb:b=c
  ·subst hb;simp
  have h1:(b==c)=false:=by simpa using hb
  have h0:¬ ([c].contains b=true):=by simpa using hb
  rw [if_neg h0,h1,ih];by_cases hm:Lib.indexByte r c= -1
  ·rw [hm];rfl
  have h2:(Lib.indexByte r c== -1)=false:=by rw [beq_eq_false_iff_ne];exact hm
  have h3:¬ (Lib.indexByte r c<0):=by omega
  have h4:¬ (Lib.indexByte r c+1<0):=by omega
  rw [h2,if_neg h3];simp only [Bool.false_eq_true,if_false];rw [if_neg h4];omega
theorem YX (a:Bs):yC a=if a.head? =some 91 then (if a.length<wD [93] a+1 then none else some (a.take (wD [93] a+1),a.drop (wD [93] a+1))) else some (a.take (wD [58] a),a.drop (wD [58] a)):=by
 have h93:=gb 93 a;have h58:=gb 58 a;have hlt:=jz [93] a;have lt:∀ l:Bs,Lib.indexByte l 93<l.length:=by
  intro l
  induction l with
  | nil=>simp [Lib.indexByte]
  | cons b r ih =>
   rw [Lib.indexByte];split
   ·simp
   split<;>simp<;>omega
 have hl:=lt a;unfold yC;by_cases hh:a.head? =some 91
 ·rw [if_pos hh,if_pos hh];by_cases hn:Lib.indexByte a 93<0
  ·rw [if_pos hn] at h93;rw [if_pos hn,if_pos (by omega)]
  rw [if_neg hn] at h93;rw [if_neg hn,if_neg (by omega),h93]
 rw [if_neg hh,if_neg hh];by_cases hn:Lib.indexByte a 58<0
 ·rw [if_pos hn] at h58;rw [if_pos hn,h58];simp
 rw [if_neg hn] at h58;rw [if_neg hn,h58]
def scn:Bs→Nat→Option Nat
 | [],_=>none
 | b::r,k=>if b=58∧0<k then some k else if zY b=true∨(0<k∧wI b=true) then scn r (k+1) else none
theorem UT:∀ (l:Bs) (k:Nat),0<k→scn l k=if Lib.indexByte l 58<0 then none else if (l.take (Lib.indexByte l 58).toNat).all wI=true then some (k+(Lib.indexByte l 58).toNat) else none
 | [],k,_=>rfl
 | b::r,k,hk=>by
  have ih:=UT r (k+1) (by omega);have hg:=Lib.indexByte_ge r 58;rw [scn,Lib.indexByte];by_cases hb:b=58
  ·subst hb;rw [if_pos ⟨rfl,hk⟩];simp
  have h1:(b==58)=false:=by simpa using hb
  rw [if_neg (fun h=>hb h.1),h1];have hor:(zY b=true∨(0<k∧wI b=true))↔wI b=true:=by
   constructor
   ·rintro (h | ⟨_,h⟩)
    ·unfold wI;rw [h];rfl
    exact h
   intro h;exact .inr ⟨hk,h⟩
  simp only [Bool.false_eq_true,if_false];by_cases hs:wI b=true
  ·rw [if_pos (hor.2 hs),ih];by_cases hm:Lib.indexByte r 58= -1
   ·rw [hm];rfl
   have h2:(Lib.indexByte r 58== -1)=false:=by rw [beq_eq_false_iff_ne];exact hm
   have h3:¬ (Lib.indexByte r 58<0):=by omega
   have h4:¬ (Lib.indexByte r 58+1<0):=by omega
   have h5:(Lib.indexByte r 58+1).toNat=(Lib.indexByte r 58).toNat+1:=by omega
   rw [if_neg h3,h2];simp only [Bool.false_eq_true,if_false];rw [if_neg h4,h5,List.take_succ_cons,List.all_cons,hs,Bool.true_and];by_cases hall:(r.take (Lib.indexByte r 58).toNat).all wI=true
   ·rw [if_pos hall,if_pos hall];congr 1;omega
   rw [if_neg hall,if_neg hall]
  rw [if_neg (fun h=>hs (hor.1 h))];by_cases hm:Lib.indexByte r 58= -1
  ·rw [hm];rfl
  have h2:(Lib.indexByte r 58== -1)=false:=by rw [beq_eq_false_iff_ne];exact hm
  have h4:¬ (Lib.indexByte r 58+1<0):=by omega
  have h5:(Lib.indexByte r 58+1).toNat=(Lib.indexByte r 58).toNat+1:=by omega
  rw [h2];simp only [Bool.false_eq_true,if_false];have hs2:wI b=false:=by simpa using hs
  rw [if_neg h4,h5,List.take_succ_cons,List.all_cons,hs2];simp
theorem TO (l:Bs):scn l 0=if Lib.indexByte l 58<0 then none else if xq (l.take (Lib.indexByte l 58).toNat)=true then some (Lib.indexByte l 58).toNat else none:=by
 cases l with
 | nil=>rfl
 | cons b r =>
  have ih:=UT r 1 (by omega);have hg:=Lib.indexByte_ge r 58;rw [scn,Lib.indexByte,if_neg (by omega)];by_cases hb:b=58
  ·subst hb;rw [if_neg (by decide)];simp [xq]
  have h1:(b==58)=false:=by simpa using hb
  rw [h1];have hor:(zY b=true∨(0<0∧wI b=true))↔zY b=true:=by simp
  simp only [Bool.false_eq_true,if_false];by_cases hm:Lib.indexByte r 58= -1
  ·rw [hm] at ih;rw [ih,hm];simp
  have h2:(Lib.indexByte r 58== -1)=false:=by rw [beq_eq_false_iff_ne];exact hm
  have h3:¬ (Lib.indexByte r 58<0):=by omega
  have h4:¬ (Lib.indexByte r 58+1<0):=by omega
  have h5:(Lib.indexByte r 58+1).toNat=(Lib.indexByte r 58).toNat+1:=by omega
  rw [if_neg h3] at ih;rw [h2];simp only [Bool.false_eq_true,if_false];rw [if_neg h4,h5,List.take_succ_cons];show _=if (zY b&&(r.take (Lib.indexByte r 58).toNat).all wI)=true then _ else _
  by_cases hs:zY b=true
  ·rw [if_pos (hor.2 hs),ih,hs,Bool.true_and];by_cases hall:(r.take (Lib.indexByte r 58).toNat).all wI=true
   ·rw [if_pos hall,if_pos hall];congr 1;omega
   rw [if_neg hall,if_neg hall]
  rw [if_neg (fun h=>hs (hor.1 h))];have hs2:zY b=false:=by simpa using hs
  rw [hs2];simp
def uH:Bs→Int→Option Int
 | [],n=>some n
 | b::r,n=>if zI b=true then uH r (min (n*10+((b.toNat:Int) - 48)) 1048576) else none
theorem kM:∀ (l:Bs) (n m:Int),0≤n→n≤1048576→max m 0=min n 65536→ -1≤m→m≤65536→(l=[]→0≤m)→(uH l n).map (fun x=>min x 65536)=tF l m
 | [],n,m,h0,h1,h2,h3,h4,h5=>by
  have:=h5 rfl;rw [uH,tF,Option.map_some]
  congr 1
  omega
 | b::r,n,m,h0,h1,h2,h3,h4,_=>by
  rw [uH,tF];by_cases hd:zI b=true
  ·rw [if_pos hd,if_pos hd];have hb:48≤b.toNat∧b.toNat≤57:=by
    unfold zI at hd
    simpa using hd
   exact kM r _ _ (by omega) (by omega) (by omega) (by omega) (by omega) (fun _=>by omega)
  rw [if_neg hd,if_neg hd];rfl
theorem qR:∀ (l:Bs) (n x:Int),0≤n→n≤1048576→uH l n=some x→0≤x∧x≤1048576
 | [],n,x,h0,h1,h=>by
  rw [uH] at h;cases h;exact ⟨h0,h1⟩
 | b::r,n,x,h0,h1,h=>by
  rw [uH] at h;split at h
  ·rename_i hd;have hb:48≤b.toNat∧b.toNat≤57:=by
    unfold zI at hd
    simpa using hd
   exact qR r _ x (by omega) (by omega) h
  cases h
theorem T1 (l:Bs) (h:l≠[]):vz l=match uH l 0 with
  | none=>none
  | some n=>if n>65535 then none else some n:=by
 have hk:=kM l 0 (-1) (by omega) (by omega) (by omega) (by omega) (by omega) (fun e=>absurd e h);have hbd:=qR l 0;unfold vz;rw [←hk];cases hn:uH l 0 with
 | none=>rfl
 | some x =>
  have hb:=hbd x (by omega) (by omega) hn;simp only [Option.map_some];by_cases hx:x>65535
  ·rw [if_pos hx,if_neg (by omega)]
  rw [if_neg hx,if_pos (by omega)]
  congr 1
  omega
end Hs
namespace Hs
open Go Go.RowKit
def yg (W:World):Type:={ w':World // Below W.heap.size W w' }
instance (W:World):Nonempty (yg W):=⟨⟨W,Below.refl _ _⟩⟩
theorem zM {P:Program} {id:Nat} {Q:Exit→Act→World→Prop} {a:Act} {w:World} (W:World) {l:List Oper} (hm:P.follows .mixedOrders=true) (hB:Region.lexB .any l.toArray=true) (h0:Below W.heap.size W w)
  (h:wpQuiet P l.toArray (fun w'=>∃ x:yg W,w'=x.1) (fun a'=>∀ w',(∃ x:yg W,w'=x.1)→Q .normal a' w') l a):(Code.region id l.toArray true).wp P Q a w :=
 wp_region_quiet (C:=fun w'=>∃ x:yg W,w'=x.1) hm hB ⟨⟨_,h0.drew⟩,rfl⟩ (by simpa using h)
theorem Calls.later {P:Program} {f:FuncId} {args:Array Value} {W:World} {x:yg W} {v:Value} (h:Calls P f args x.1 fun e w'=>e= .returned v∧Below x.1.heap.size x.1 w'):Calls P f args x.1 fun e w''=>e= .returned v∧∃ y:yg W,w''=y.1 :=
 h.mono fun _ w' ⟨he,hb⟩=>⟨he,⟨w',x.2.trans (hb.mono x.2.size)⟩,rfl⟩
end Hs
namespace Go.Proofs.YtjbciamhhfcdoaaGreatDoor
open Go.RowKit Hs
set_option maxHeartbeats 500000
theorem Zc (b:UInt8) (n:Int) (h:n=(b.toNat:Int)) (w:World):Calls Tryz.prog 221 #[.int .u8 n] w fun e w'=>e= .returned (.bool (Td b))∧w=w':=by
 subst h;go_enter Tryz.func221,Tryz.ntmps221
 go_wp2
 all_goals
  go_ret;refine ⟨uD ?_,rfl⟩;first | (refine QK ?_;omega) | (refine Uz ?_;omega) | (refine Jv ?_;omega) | (refine UD ?_;omega) | (refine Uy ?_;omega)
theorem wQ (b:UInt8) (n:Int) (h:n=(b.toNat:Int)) (w:World):Calls Tryz.prog 190 #[.int .u8 n] w fun e w'=>e= .returned (.bool (wR b))∧w=w':=by
 subst h;go_enter Tryz.func190,Tryz.ntmps190
 go_wp2_with ((go_at_call 221;refine (Zc b _ rfl _).mono ?_;rintro e w' ⟨rfl,rfl⟩))
 all_goals
  go_ret;refine ⟨uD ?_,rfl⟩
  (try simp only [Td,zI,beq_iff_eq,beq_eq_false_iff_ne,ne_eq,decide_eq_true_eq,decide_eq_false_iff_not] at *)
  first | (refine QK ?_;omega) | (refine Uz ?_;omega) | (refine Jv ?_;omega) | (refine UD ?_;omega) | (refine Uy ?_;omega)
end Go.Proofs.YtjbciamhhfcdoaaGreatDoor
