/- What the proof of TopClock uses, part Clk01. -/
import Derived.Handy
import Derived.WalkSpells
import Derived.WalkLawsBesides
import Derived.WalkSmall
import Derived.Lib.Hide
import Derived.BigQuiet
import Derived.BigGuardPart
import Derived.Deep.QuietTactic
import Derived.StillTailTactics
import Derived.Laws.AppendOwnNone
import Derived.Test.YtbnnlkdhpifpeaaGreatDoorRows
import Derived.Deep.RegionLaw
import Derived.Lib.SmallJoins
import Derived.Lib.SplitLaws
import Derived.Lib.ItoaNum
import Derived.Lib.Hide
theorem KZ9 {p : Prop} (h : p) : Go.RowKit.Hid p := Go.Lib.hid h
theorem KZ8 {p : Prop} [i : Decidable p] (h : ¬p) : decide p = false := decide_eq_false h
theorem KZ7 {p : Prop} [i : Decidable p] (h : p) : decide p = true := decide_eq_true h
theorem KZ6.{u} {a : Sort u} (e : a) : ∃ x, x = e := ⟨e, rfl⟩
set_option linter.unusedSimpArgs false
set_option linter.unusedVariables false
namespace Hs
open Go
abbrev Bs:=List UInt8
def mk (l:Bs):ByteArray:=⟨l.toArray⟩
def un (s:ByteArray):Bs:=s.data.toList
@[simp] theorem zk (l:Bs):un (mk l)=l:=by simp [un,mk]
@[simp] theorem x8 (s:ByteArray):mk (un s)=s:=by cases s;simp [un,mk]
@[simp] theorem zi (l:Bs):(mk l).size=l.length:=by simp [mk,ByteArray.size]
@[simp] theorem za (s:ByteArray):(un s).length=s.size:=by cases s;simp [un,ByteArray.size]
theorem zy (s:ByteArray):s.toList=un s:=_root_.Go.ByteArray.toList_eq s
theorem Rj {a b:ByteArray} (h:un a=un b):a=b:=by rw [←x8 a,←x8 b,h]
theorem YZ (a b:ByteArray):un (a++b)=un a++un b:=by simp [un,ByteArray.data_append]
theorem toList_mk' (l:Bs):(mk l).toList=l:=by rw [zy,zk]
theorem yU (a b:Bs):mk (a++b)=mk a++mk b:=Rj (by rw [zk,YZ,zk,zk])
theorem pi {a b:ByteArray} (h:un a=un b):a=b:=by rw [←x8 a,←x8 b,h]
theorem zR (s:ByteArray) (k:Nat) (h:k<s.size):(un s)[k]'(by simpa using h)=s[k]:=rfl
theorem xj (s:ByteArray) (a b:Nat):un (s.extract a b)=((un s).drop a).take (b - a):=by
 simp [un,ByteArray.data_extract,List.extract_eq_take_drop]
theorem yT (a b:ByteArray):un (a++b)=un a++un b:=by simp [un,ByteArray.data_append]
def zF (b:UInt8):Bool:=decide (48≤b.toNat∧b.toNat≤57)
def yM (b:UInt8):Bool:=decide (b.toNat=32∨b.toNat=9)
def qL (b:UInt8):Bool:=decide (b.toNat=32∨b.toNat=9∨b.toNat=10∨b.toNat=12∨b.toNat=13)
def rf (b:UInt8):Bool:=decide (65≤b.toNat∧b.toNat≤90)
def R1 (b:UInt8):Bool:=decide (97≤b.toNat∧b.toNat≤122)
def wh (b:UInt8):Bool:=decide (b.toNat=33∨b.toNat=35∨b.toNat=36∨b.toNat=37∨b.toNat=38∨b.toNat=39∨b.toNat=42∨b.toNat=43∨b.toNat=45∨b.toNat=46∨b.toNat=94∨b.toNat=95∨b.toNat=96∨b.toNat=124∨b.toNat=126∨(97≤b.toNat∧b.toNat≤122)∨(65≤b.toNat∧b.toNat≤90)∨(48≤b.toNat∧b.toNat≤57))
def ub (b:UInt8):UInt8:=if rf b then b+32 else b
def zt (l:Bs):Bs:=l.map ub
@[simp] theorem x6 (l:Bs):(zt l).length=l.length:=by simp [zt]
theorem bm (a b:Bs):zt (a++b)=zt a++zt b:=by simp [zt]
theorem XJ (l:Bs) (k:Nat) (h:k<l.length):zt (l.take (k+1))=zt (l.take k)++[ub l[k]]:=by
 rw [List.take_succ_eq_append_getElem h,bm];rfl
def uT:Bs→Bs
 | []=>[]
 | b::r=>if yM b then uT r else b::r
def vV (l:Bs):Bs:=(uT l.reverse).reverse
def sh (l:Bs):Bs:=vV (uT l)
def uQ (l:Bs):Bool:= !l.isEmpty&&l.all zF
def yX:Bs→Bs→List Bs
 | cur,[]=>if cur.isEmpty then [] else [cur]
 | cur,b::r=>if qL b then (if cur.isEmpty then yX [] r else cur::yX [] r) else yX (cur++[b]) r
def Wq (l:Bs):List Bs:=yX [] l
def seg (l:Bs) (fr k:Nat):Bs:=(l.drop fr).take (k - fr)
theorem Ty (l:Bs) (fr k:Nat) (h:fr≤k) (hk:k<l.length):seg l fr (k+1)=seg l fr k++[l[k]]:=by
 unfold seg;have hd:k - fr<(l.drop fr).length:=by simp;omega
 have e:k+1 - fr=k - fr+1:=by omega
 rw [e,List.take_succ_eq_append_getElem hd]
 congr 2
 simp only [List.getElem_drop]
 congr 1
 omega
@[simp] theorem Zn (l:Bs) (k:Nat):seg l k k=[]:=by simp [seg]
theorem rZ (l:Bs) (fr k:Nat) (h:fr≤k) (hk:k≤l.length):(seg l fr k).length=k - fr:=by simp [seg];omega
theorem gT (l:Bs) (fr k:Nat) (h:fr≤k) (hk:k≤l.length):(seg l fr k).isEmpty=decide (fr=k):=by
 have:=rZ l fr k h hk;rw [Bool.eq_iff_iff,List.isEmpty_iff,decide_eq_true_eq,←List.length_eq_zero_iff];omega
theorem jI (s:ByteArray) (a b:Nat):un (s.extract a b)=seg (un s) a b:=xj s a b
theorem yQ (s:ByteArray) (a b:Nat):s.extract a b=mk (seg (un s) a b):=by rw [←jI,x8]
theorem jX (l:Bs) (k:Nat):seg l k l.length=l.drop k:=by unfold seg;exact List.take_of_length_le (by simp)
theorem jW (l:Bs) (k:Nat):seg l 0 k=l.take k:=by simp [seg]
theorem bY (l:Bs) (h:0<l.length) (hb:yM l[0]=true):uT l=uT (l.drop 1):=by
 match l,h with
 | b::r,_=>simp only [List.getElem_cons_zero] at hb;simp [uT,hb]
theorem VK (l:Bs) (h:0<l.length) (hb:yM l[0]=false):uT l=l:=by
 match l,h with
 | b::r,_=>simp only [List.getElem_cons_zero] at hb;simp [uT,hb]
theorem jK (l:Bs) (b:UInt8):vV (l++[b])=if yM b then vV l else l++[b]:=by
 unfold vV;rw [List.reverse_append];simp only [List.reverse_cons,List.reverse_nil,List.nil_append,List.cons_append,uT];split<;>simp
theorem rJ (l:Bs) (h:0<l.length):l=l.take (l.length - 1)++[l[l.length - 1]]:=by
 have:=List.take_succ_eq_append_getElem (l:=l) (i:=l.length - 1) (by omega);rw [←this];rw [List.take_of_length_le (by omega)]
theorem pK (l:Bs) (h:0<l.length) (hb:yM (l[l.length - 1])=true):vV l=vV (l.take (l.length - 1)):=by
 conv=>lhs;rw [rJ l h]
 rw [jK,if_pos hb]
theorem gP (l:Bs) (h:0<l.length) (hb:yM (l[l.length - 1])=false):vV l=l:=by
 conv=>lhs;rw [rJ l h]
 rw [jK,if_neg (by simp [hb])];exact (rJ l h).symm
theorem gm (l:Bs) (fr k:Nat) (h:fr≤k) (hk:k<l.length) (hs:qL l[k]=false) :
  yX (seg l fr k) (l.drop k)=yX (seg l fr (k+1)) (l.drop (k+1)):=by
 rw [List.drop_eq_getElem_cons hk,Ty l fr k h hk];simp [yX,hs]
theorem jE (l:Bs) (fr k:Nat) (h:fr≤k) (hk:k<l.length) (hs:qL l[k]=true) :
  yX (seg l fr k) (l.drop k)=(if fr<k then [seg l fr k] else [])++yX [] (l.drop (k+1)):=by
 rw [List.drop_eq_getElem_cons hk];have e:=gT l fr k h (by omega);by_cases hlt:fr<k
 ·have:decide (fr=k)=false:=by simp;omega
  rw [this] at e;simp [yX,hs,hlt,e]
 have:decide (fr=k)=true:=by simp;omega
 rw [this] at e;simp [yX,hs,hlt,e]
theorem dX (l:Bs) (fr:Nat) (h:fr≤l.length) :
  yX (seg l fr l.length) (l.drop l.length)=(if fr<l.length then [seg l fr l.length] else []):=by
 have e:=gT l fr l.length h (by omega);rw [List.drop_length];by_cases hlt:fr<l.length
 ·have:decide (fr=l.length)=false:=by simp;omega
  rw [this] at e;simp [yX,hlt,e]
 have:decide (fr=l.length)=true:=by simp;omega
 rw [this] at e;simp [yX,hlt,e]
def WordsTo (l:Bs) (D:List Bs) (fr k:Nat):Prop:=(k≤l.length→D++yX (seg l fr k) (l.drop k)=Wq l)∧(k=l.length+1→D=Wq l)
theorem WordsTo.start (l:Bs):WordsTo l [] 0 0:=⟨fun _=>by simp [Wq],fun h=>by omega⟩
theorem WordsTo.char {l:Bs} {D:List Bs} {fr k:Nat} (h:WordsTo l D fr k) (hf:fr≤k) (hk:k<l.length) (hs:qL l[k]=false):WordsTo l D fr (k+1) :=
 ⟨fun _=>by rw [←gm l fr k hf hk hs];exact h.1 (by omega),fun e=>by omega⟩
theorem WordsTo.cut {l:Bs} {D:List Bs} {fr k:Nat} (h:WordsTo l D fr k) (hf:fr≤k) (hk:k≤l.length) (hs:∀ hk':k<l.length,qL l[k]=true) :
  WordsTo l (D++(if fr<k then [seg l fr k] else [])) (k+1) (k+1):=by
 have h1:=h.1 hk;refine ⟨fun hk'=> ?_,fun e=> ?_⟩
 ·rw [jE l fr k hf (by omega) (hs (by omega))] at h1;rw [Zn,List.append_assoc];exact h1
 have e':k=l.length:=by omega
 subst e';rw [dX l fr hf] at h1;exact h1
theorem S8 (l:Bs) (p:UInt8→Bool) (k:Nat) (hk:k<l.length):(l.drop k).all p=(p l[k]&&(l.drop (k+1)).all p):=by
 rw [List.drop_eq_getElem_cons hk,List.all_cons]
theorem zB (l:Bs) (p:UInt8→Bool) (k:Nat) (hk:k<l.length) (b:Bool) (h:p l[k]=b):(l.drop k).all p=(b&&(l.drop (k+1)).all p):=by
 rw [S8 l p k hk,h]
end Hs
namespace Hs
open Go Go.RowKit
theorem gb {p:Prop} [Decidable p] (h:p):true=decide p:=(KZ7 h).symm
theorem qn {p:Prop} [Decidable p] (h:¬ p):false=decide p:=(KZ8 h).symm
theorem Wj {p q:Prop} [Decidable p] [Decidable q] (h:p↔q):decide p=decide q:=by simp [h]
theorem qo {a b:Int} {q:Prop} [Decidable q] (h:a=b↔q):(a==b)=decide q:=by rw [Bool.eq_iff_iff];simp [h]
theorem qm {a b:Int} {q:Prop} [Decidable q] (h:a≠b↔q):(a != b)=decide q:=by rw [Bool.eq_iff_iff];simp [←h]
theorem yH {a b:Bool} (h:a=b):Ending.returned (.bool a)= .returned (.bool b):=by rw [h]
theorem xz {k:IntKind} {a b:Int} (h:a=b):Ending.returned (.int k a)= .returned (.int k b):=by rw [h]
theorem jr {a b:ByteArray} (h:un a=un b):Ending.returned (.string a)= .returned (.string b):=by rw [pi h]
theorem wj {W w1:World} (hb:Below W.heap.size W w1):(∀ b o,b<W.heap.size→w1.cell? ⟨b,o,none⟩=W.cell? ⟨b,o,none⟩)∧(∀ b o,b<W.heap.size→w1.frozen? ⟨b,o,none⟩=W.frozen? ⟨b,o,none⟩) :=
 ⟨fun b o h=>hb.cell (p:=⟨b,o,none⟩) h,fun b o h=>hb.frozen (p:=⟨b,o,none⟩) h⟩
def Row (w:World) (v:Value) (size n:Nat) (xs:List Value):Prop :=
 xs.length=n*size∧∃ a cap,v= .slice a n cap∧n≤cap∧cap≤maxLen ∧
  (n=0∨∃ b off,a=some ⟨b,off,none⟩∧b<w.heap.size∧∀ j u,xs[j]? =some u→w.cell? ⟨b,off+j,none⟩=some u)
theorem Row.below {w w':World} {v:Value} {size n:Nat} {xs:List Value} (h:Row w v size n xs) (hb:Below w.heap.size w w'):Row w' v size n xs:=by
 obtain ⟨hl,a,cap,hv,hn,hm,h⟩:=h;refine ⟨hl,a,cap,hv,hn,hm,h.imp id ?_⟩;rintro ⟨b,off,ha,hlt,hc⟩;exact ⟨b,off,ha,by have:=hb.size;omega,fun j u hj=>((wj hb).1 b (off+j) hlt).trans (hc j u hj)⟩
theorem Row.nil (w:World) (size:Nat):Row w (.slice none 0 0) size 0 [] :=
 ⟨by simp,none,0,rfl,Nat.le_refl _,by simp [maxLen],.inl rfl⟩
theorem Row.owned {w:World} {base:Nat} {e:TypeId} {size n:Nat} {v:Value} {xs:List Value} (h:w.ownsRow base e size v n xs):Row w v size n xs:=by
 have hl:=h.1;rcases h.2 with ⟨rfl,rfl⟩ | ⟨g,cap,cur,rfl,hb,hg,hn,hm,hs,ht⟩
 ·exact ⟨hl,none,0,rfl,Nat.le_refl _,by simp [maxLen],.inl rfl⟩
 refine ⟨hl,_,cap,rfl,hn,hm,.inr ⟨g,0,rfl,(Array.getElem?_eq_some_iff.1 hg).1,fun j u hj=> ?_⟩⟩;have:=h.cells (g:=g) rfl j u hj;have hadd:(⟨g,0,none⟩:Addr).add j=⟨g,j,none⟩:=by unfold Addr.add;split<;>simp_all
 rw [hadd] at this
 simpa using this
def zc (l:Bs):List Value:=l.map fun b=> .int .u8 (b.toNat:Int)
@[simp] theorem zX (l:Bs):(zc l).length=l.length:=by simp [zc]
theorem zz (a b:Bs):zc (a++b)=zc a++zc b:=by simp [zc]
theorem yP {P:Program} {w:World} {v:Value} {n:Nat} {l:Bs} (h:Row w v 1 n (zc l)) {src dst e:TypeId}
  (hs:P.underlying src=some (.slice e)) (he:P.underlying e=some (.int .u8)) (hd:P.underlying dst=some .string) :
  (convert src dst v).run P w= .ok (.string (mk l)) w:=by
 obtain ⟨hl,a,cap,rfl,hn,hm,h⟩:=h;have hn':n=l.length:=by simpa using hl.symm
 subst hn';rcases h with h0 | ⟨b,off,rfl,hlt,hc⟩
 ·have:l=[]:=List.eq_nil_of_length_eq_zero h0;subst this;rw [run_convert_bytes_string w src dst e a _ cap hs he hd];cases a with
  | none=>simp [Conv.bytesToString,mk];rfl
  | some a=>exact run_bytesToString w a 0 cap [] (by simp [loadCells,loadCellsFrom])
 refine run_convert_bytes_back w src dst e ⟨b,off,none⟩ cap l hs he hd ?_;intro j hj;have:=hc j (.int .u8 (l[j].toNat:Int)) (by simp [zc,List.getElem?_eq_getElem hj]);have hadd:(⟨b,off,none⟩:Addr).add j=⟨b,off+j,none⟩:=by unfold Addr.add;split<;>simp_all
 rw [hadd];exact this
def scells (l:List Bs):List Value:=l.map fun t=> .string (mk t)
@[simp] theorem Rc (l:List Bs):(scells l).length=l.length:=by simp [scells]
theorem vf (a b:List Bs):scells (a++b)=scells a++scells b:=by simp [scells]
def Strs (w:World) (v:Value) (l:List Bs):Prop:=Row w v 1 l.length (scells l)
theorem Strs.below {w w':World} {v:Value} {l:List Bs} (h:Strs w v l) (hb:Below w.heap.size w w'):Strs w' v l:=Row.below h hb
theorem Strs.open {w:World} {v:Value} {l:List Bs} (h:Strs w v l):∃ a cap,v= .slice a l.length cap∧l.length≤cap∧cap≤maxLen ∧
  ∀ (hn:0<l.length),∃ b off,a=some ⟨b,off,none⟩∧b<w.heap.size∧∀ j (hj:j<l.length),w.cell? ⟨b,off+j,none⟩=some (.string (mk l[j])):=by
 obtain ⟨hl,a,cap,rfl,hn,hm,h⟩:=h;refine ⟨a,cap,rfl,hn,hm,fun h0=> ?_⟩;rcases h with h | ⟨b,off,ha,hlt,hc⟩
 ·omega
 exact ⟨b,off,ha,hlt,fun j hj=>hc j _ (by simp [scells,List.getElem?_eq_getElem hj])⟩
def uH:Value→Nat | .string s=>s.size | _=>0
theorem Tq (w:World) (l:List ByteArray) (T:TypeId) (h:l.length≤maxLen):Strs (w.alloc (.cells (l.map Value.string).toArray T)) (.slice (some ⟨w.heap.size,0,none⟩) l.length l.length) (l.map un):=by
 refine ⟨by simp,some ⟨w.heap.size,0,none⟩,l.length,by simp,by simp,h,.inr ⟨w.heap.size,0,rfl,by simp,fun j u hj=> ?_⟩⟩;rw [Nat.zero_add,World.cell?_alloc_mark]
 simpa [scells,Function.comp_def] using hj
end Hs
namespace Hs
open Go
def pv (b:UInt8):Nat:=if 97≤b.toNat∧b.toNat≤122 then b.toNat - 97 else if 65≤b.toNat∧b.toNat≤90 then b.toNat - 65 else if 48≤b.toNat∧b.toNat≤57 then b.toNat - 48+26 else 99
theorem kk (b:UInt8):(97≤b.toNat∧b.toNat≤122∧pv b=b.toNat - 97)∨(65≤b.toNat∧b.toNat≤90∧pv b=b.toNat - 65)∨(48≤b.toNat∧b.toNat≤57∧pv b=b.toNat - 48+26)∨(¬ (97≤b.toNat∧b.toNat≤122)∧¬ (65≤b.toNat∧b.toNat≤90)∧¬ (48≤b.toNat∧b.toNat≤57)∧pv b=99):=by
 unfold pv;split
 ·omega
 split
 ·omega
 split<;>omega
theorem QG {b:UInt8} (h:pv b≠99):pv b<36:=by have:=kk b;omega
def pvI (b:UInt8):Int:=if pv b=99 then -1 else (pv b:Int)
def pd (d:Nat):UInt8:=if d<26 then UInt8.ofNat (97+d) else UInt8.ofNat (22+d)
theorem TV (d:Nat) (h:d<36):(((pd d).toNat:Nat):Int)=if d<26 then ((97+d:Nat):Int) else ((22+d:Nat):Int):=by
 have:∀ d:Fin 36,(pd d.1).toNat=if d.1<26 then 97+d.1 else 22+d.1:=by decide
 have:=this ⟨d,h⟩;simp only at this;rw [this];split<;>rfl
def thr (k bias:Nat):Nat:=max 1 (min 26 (36*(k+1) - bias))
theorem xT (k bias:Nat):1≤thr k bias∧thr k bias≤26:=by unfold thr;omega
def xO (e k:Nat):Nat:=if h:455<e then xO (e / 35) (k+36) else k+36*e / (e+38)
termination_by e
decreasing_by exact Nat.div_lt_self (by omega) (by omega)
theorem qp {e k:Nat} (h:455<e):xO e k=xO (e / 35) (k+36):=by rw [xO,dif_pos h]
theorem vQ {e k:Nat} (h:¬ 455<e):xO e k=k+36*e / (e+38):=by rw [xO,dif_neg h]
def xw (delta count:Nat) (first:Bool):Nat:=xO ((if first=true then delta / 700 else delta / 2)+(if first=true then delta / 700 else delta / 2) / count) 0
theorem dV:∀ (j e k:Nat),e<456*35 ^ j→xO e k≤k+36*j+36
 | 0,e,k,h=>by
  rw [vQ (by simp at h;omega)];have:36*e / (e+38)≤36:=by
   apply Nat.le_of_lt_succ;rw [Nat.div_lt_iff_lt_mul (by omega)];omega
  omega
 | j+1,e,k,h=>by
  by_cases hb:455<e
  ·rw [qp hb];have:=dV j (e / 35) (k+36) (by rw [Nat.pow_succ,←Nat.mul_assoc] at h;exact Nat.div_lt_of_lt_mul (by rw [Nat.mul_comm];exact h));omega
  rw [vQ hb];have:36*e / (e+38)≤36:=by
   apply Nat.le_of_lt_succ;rw [Nat.div_lt_iff_lt_mul (by omega)];omega
  omega
theorem vT (delta count:Nat) (first:Bool) (h:delta≤1099511627776):xw delta count first≤324:=by
 unfold xw;have h1:(if first=true then delta / 700 else delta / 2)≤549755813888:=by split<;>omega
 generalize (if first=true then delta / 700 else delta / 2)=d at h1;have h2:d / count≤d:=Nat.div_le_self _ _;have h3:(35:Nat) ^ 8=2251875390625:=by decide
 have:=dV 8 (d+d / count) 0 (by omega);omega
def xX (n:Nat):Bool:=decide (n≤1114111∧(n<55296∨57343<n))
def wE:Bs→Nat→Nat→Nat→Nat→Option (Nat × Bs)
 | [],_,_,_,_=>none
 | b::r,i,w,k,bias =>
  if pv b=99 then none
  else if 1099511627776<i+pv b*w then none
  else if pv b<thr k bias then some (i+pv b*w,r)
  else if 1099511627776<w*(36 - thr k bias) then none
  else wE r (i+pv b*w) (w*(36 - thr k bias)) (k+1) bias
theorem tF:∀ (l:Bs) (i w k bias:Nat) (p:Nat × Bs),wE l i w k bias=some p→p.2.length<l.length∧i≤p.1∧p.1≤1099511627776
 | [],i,w,k,bias,p,h=>by cases h
 | b::r,i,w,k,bias,p,h=>by
  unfold wE at h;split at h
  ·cases h
  split at h
  ·cases h
  split at h
  ·cases h;simp;omega
  split at h
  ·cases h
  have:=tF r _ _ _ _ p h;simp;omega
def yE (l:List Nat) (i n:Nat):List Nat:=l.take i++n::l.drop i
theorem xZ (l:List Nat) (i n:Nat):(yE l i n).length=l.length+1:=by simp [yE];omega
def pE:Nat→Bs→Nat→Nat→Nat→Bool→List Nat→Option (List Nat)
 | _,[],_,_,_,_,pts=>some pts
 | 0,_::_,_,_,_,_,_=>none
 | fuel+1,b::r,n,i,bias,first,pts=>match wE (b::r) i 1 0 bias with
  | none=>none
  | some p=>if xX (n+p.1 / (pts.length+1))=false then none
   else if 256<pts.length+1 then none
   else pE fuel p.2 (n+p.1 / (pts.length+1)) (p.1 % (pts.length+1)+1) (xw (p.1 - i) (pts.length+1) first) false (yE pts (p.1 % (pts.length+1)) (n+p.1 / (pts.length+1)))
theorem dQ:∀ (f g:Nat) (l:Bs) (n i bias:Nat) (first:Bool) (pts:List Nat),l.length≤f→l.length≤g→pE f l n i bias first pts=pE g l n i bias first pts
 | _,_,[],_,_,_,_,_,_,_=>by simp [pE]
 | 0,_,b::r,_,_,_,_,_,h,_=>by simp at h
 | f+1,0,b::r,_,_,_,_,_,_,h=>by simp at h
 | f+1,g+1,b::r,n,i,bias,first,pts,hf,hg=>by
  unfold pE;cases hn:wE (b::r) i 1 0 bias with
  | none=>rfl
  | some p =>
   have:=(tF _ _ _ _ _ p hn).1;simp only [List.length_cons] at this hf hg;simp only;rw [dQ f g p.2 _ _ _ _ _ (by omega) (by omega)]
def ro (l:Bs) (n i bias:Nat) (first:Bool) (pts:List Nat):Option (List Nat):=pE l.length l n i bias first pts
theorem YD (n i bias:Nat) (first:Bool) (pts:List Nat):ro [] n i bias first pts=some pts:=by simp [ro,pE]
theorem tf {l:Bs} (h0:l≠[]) {n i bias:Nat} {first:Bool} {pts:List Nat} (h:wE l i 1 0 bias=none):ro l n i bias first pts=none:=by
 cases l with
 | nil=>exact absurd rfl h0
 | cons b r=>simp only [ro,List.length_cons,pE,h]
theorem dR {l:Bs} {n i bias:Nat} {first:Bool} {pts:List Nat} {p:Nat × Bs} (h:wE l i 1 0 bias=some p):ro l n i bias first pts=if xX (n+p.1 / (pts.length+1))=false then none else if 256<pts.length+1 then none else ro p.2 (n+p.1 / (pts.length+1)) (p.1 % (pts.length+1)+1) (xw (p.1 - i) (pts.length+1) first) false (yE pts (p.1 % (pts.length+1)) (n+p.1 / (pts.length+1))):=by
 cases l with
 | nil=>simp [wE] at h
 | cons b r =>
  have hs:=(tF _ _ _ _ _ p h).1;simp only [List.length_cons] at hs;simp only [ro,List.length_cons,pE,h];rw [dQ r.length p.2.length p.2 _ _ _ _ _ (by omega) (Nat.le_refl _)]
def xL:Bs→Int
 | []=> -1
 | b::r=>if 0≤xL r then xL r+1 else if b=45 then 0 else -1
theorem vP:∀ l:Bs,-1≤xL l∧xL l<l.length
 | []=>by simp [xL]
 | b::r=>by
  have:=vP r;unfold xL;split
  ·simp;omega
  split<;>simp<;>omega
def vw (l:Bs):Bs × Bs:=if 0<xL l then (l.take (xL l).toNat,l.drop ((xL l).toNat+1)) else ([],l)
theorem SM (l:Bs):(vw l).1.length+(vw l).2.length≤l.length:=by
 have:=vP l;unfold vw;split
 ·simp;omega
 simp
def wR (l:Bs):Option (List Nat) :=
 if 1024<l.length then none
 else if l.any (fun b=>decide (128≤b.toNat))=true then none
 else if 256<(vw l).1.length then none
 else ro (vw l).2 128 0 72 true ((vw l).1.map UInt8.toNat)
def wQ (q k bias:Nat):Bs:=if h:q<thr k bias then [pd q] else pd (thr k bias+(q - thr k bias) % (36 - thr k bias))::wQ ((q - thr k bias) / (36 - thr k bias)) (k+1) bias
termination_by q
decreasing_by
 have h1:=xT k bias
 have h2:=Nat.div_le_self (q - thr k bias) (36 - thr k bias)
 omega
theorem ui {q k bias:Nat} (h:q<thr k bias):wQ q k bias=[pd q]:=by rw [wQ,dif_pos h]
theorem qR {q k bias:Nat} (h:¬ q<thr k bias):wQ q k bias=pd (thr k bias+(q - thr k bias) % (36 - thr k bias))::wQ ((q - thr k bias) / (36 - thr k bias)) (k+1) bias:=by rw [wQ,dif_neg h]
theorem uj:∀ (j q k bias:Nat),q<10 ^ j→(wQ q k bias).length≤j+1
 | 0,q,k,bias,h=>by
  have:=xT k bias;rw [ui (by simp at h;omega)];simp
 | j+1,q,k,bias,h=>by
  by_cases hs:q<thr k bias
  ·rw [ui hs];simp
  have h1:=xT k bias;rw [qR hs,List.length_cons];have h2:(q - thr k bias) / (36 - thr k bias)<10 ^ j:=by
   apply Nat.div_lt_of_lt_mul;rw [Nat.pow_succ] at h;have h3:10 ^ j*10≤(36 - thr k bias)*10 ^ j:=by rw [Nat.mul_comm];exact Nat.mul_le_mul_right _ (by omega)
   omega
  have:=uj j _ (k+1) bias h2;omega
def zr (n b0:Nat):List Nat→Bs→Nat→Nat→Nat→Bs × Nat × Nat × Nat
 | [],out,delta,bias,done=>(out,delta,bias,done)
 | p::r,out,delta,bias,done =>
  if p<n then zr n b0 r out (delta+1) bias done
  else if p=n then zr n b0 r (out++wQ delta 0 bias) 0 (xw delta (done+1) (decide (done=b0))) (done+1)
  else zr n b0 r out delta bias done
def zv (n D:Nat):List Nat→Nat
 | []=>D
 | p::r=>if n≤p then min p (zv n D r) else zv n D r
def qi (pts:List Nat) (b0:Nat):Nat→Nat→Bs→Nat→Nat→Nat→Bs
 | 0,_,out,_,_,_=>out
 | f+1,n,out,delta,bias,done =>
  if pts.length≤done then out
  else qi pts b0 f (zv n 1114112 pts+1)
   (zr (zv n 1114112 pts) b0 pts out (delta+(zv n 1114112 pts - n)*(done+1)) bias done).1
   ((zr (zv n 1114112 pts) b0 pts out (delta+(zv n 1114112 pts - n)*(done+1)) bias done).2.1+1)
   (zr (zv n 1114112 pts) b0 pts out (delta+(zv n 1114112 pts - n)*(done+1)) bias done).2.2.1
   (zr (zv n 1114112 pts) b0 pts out (delta+(zv n 1114112 pts - n)*(done+1)) bias done).2.2.2
def zA (pts:List Nat):Bs:=(pts.filter (fun p=>decide (p<128))).map UInt8.ofNat
def se (pts:List Nat):Option Bs :=
 if 256<pts.length then none
 else if pts.all xX=false then none
 else some (qi pts (zA pts).length pts.length 128 (zA pts++if (zA pts).length=0 then [] else [45]) 0 72 (zA pts).length)
def below (n:Nat) (l:List Nat):Nat:=(l.filter (fun p=>decide (p<n))).length
def uP (n:Nat) (l:List Nat):Nat:=(l.filter (fun p=>decide (p=n))).length
theorem wZ (n:Nat):∀ l:List Nat,below (n+1) l=below n l+uP n l
 | []=>rfl
 | p::r=>by
  have ih:=wZ n r;unfold below uP at *;simp only [List.filter_cons];by_cases h1:p<n
  ·rw [if_pos (by simp;omega),if_pos (by simpa using h1),if_neg (by simp;omega)];simp only [List.length_cons];omega
  by_cases h2:p=n
  ·rw [if_pos (by simp;omega),if_neg (by simpa using h1),if_pos (by simpa using h2)];simp only [List.length_cons];omega
  rw [if_neg (by simp;omega),if_neg (by simpa using h1),if_neg (by simpa using h2)];exact ih
theorem sO (n:Nat) (l:List Nat):below n l≤l.length:=List.length_filter_le _ _
theorem gd {n m:Nat} (hnm:n≤m):∀ l:List Nat,(∀ p∈l,n≤p→m≤p)→below m l=below n l
 | [],_=>rfl
 | p::r,h=>by
  have ih:=gd hnm r (fun q hq=>h q (List.mem_cons_of_mem _ hq));have hp:=h p (List.mem_cons_self ..);unfold below at *;simp only [List.filter_cons];by_cases h1:p<n
  ·rw [if_pos (by simp;omega),if_pos (by simpa using h1)];simp only [List.length_cons];omega
  rw [if_neg (by simp;omega),if_neg (by simpa using h1)];exact ih
theorem kG (n D:Nat):∀ l:List Nat,∀ p∈l,n≤p→zv n D l≤p
 | [],p,h,_=>by cases h
 | q::r,p,h,hn=>by
  unfold zv;rcases List.mem_cons.1 h with rfl | h
  ·rw [if_pos hn];omega
  have:=kG n D r p h hn;split<;>omega
theorem ZU (n D:Nat) (hD:n≤D):∀ l:List Nat,n≤zv n D l
 | []=>hD
 | q::r=>by
  have:=ZU n D hD r;unfold zv;split<;>omega
theorem tI (n D:Nat):∀ l:List Nat,(∀ p∈l,n≤p→D<p)→zv n D l=D
 | [],_=>rfl
 | q::r,h=>by
  have ih:=tI n D r (fun p hp=>h p (List.mem_cons_of_mem _ hp));have hq:=h q (List.mem_cons_self ..);unfold zv;rw [ih];split
  ·have:=hq (by assumption);omega
  rfl
theorem dA (n D:Nat):∀ l:List Nat,(∃ p∈l,n≤p∧p≤D)→zv n D l∈l∨zv n D l=D
 | [],h=>by obtain ⟨p,hp,_⟩:=h;cases hp
 | q::r,h=>by
  unfold zv;by_cases hr:∃ p∈r,n≤p∧p≤D
  ·have ih:=dA n D r hr;split
   ·rcases Nat.le_total q (zv n D r) with hh | hh
    ·rw [Nat.min_eq_left hh];exact .inl (List.mem_cons_self ..)
    rw [Nat.min_eq_right hh];rcases ih with h1 | h1
    ·exact .inl (List.mem_cons_of_mem _ h1)
    exact .inr h1
   rcases ih with h1 | h1
   ·exact .inl (List.mem_cons_of_mem _ h1)
   exact .inr h1
  have hD:zv n D r=D:=tI n D r (fun p hp hn=>by
   rcases Nat.lt_or_ge D p with h1 | h1
   ·exact h1
   exact absurd ⟨p,hp,hn,h1⟩ hr)
  rw [hD];split
  ·rcases Nat.le_total q D with hh | hh
   ·rw [Nat.min_eq_left hh];exact .inl (List.mem_cons_self ..)
   rw [Nat.min_eq_right hh];exact .inr rfl
  exact .inr rfl
theorem uM (n D E:Nat):∀ l:List Nat,(∃ p∈l,n≤p)→(∀ p∈l,p≤D∧p≤E)→zv n D l=zv n E l
 | [],h,_=>by obtain ⟨p,hp,_⟩:=h;cases hp
 | q::r,h,hl=>by
  unfold zv;by_cases hr:∃ p∈r,n≤p
  ·rw [uM n D E r hr (fun p hp=>hl p (List.mem_cons_of_mem _ hp))]
  have hq:n≤q:=by
   obtain ⟨p,hp,hn⟩:=h;rcases List.mem_cons.1 hp with rfl | hp
   ·exact hn
   exact absurd ⟨p,hp,hn⟩ hr
  have e1:zv n D r=D:=tI n D r (fun p hp hn=>absurd ⟨p,hp,hn⟩ hr);have e2:zv n E r=E:=tI n E r (fun p hp hn=>absurd ⟨p,hp,hn⟩ hr);have:=hl q (List.mem_cons_self ..);rw [if_pos hq,if_pos hq,e1,e2,Nat.min_eq_left this.1,Nat.min_eq_left this.2]
theorem dN {n:Nat}:∀ {l:List Nat},below n l<l.length→∃ p∈l,n≤p
 | [],h=>by simp [below] at h
 | q::r,h=>by
  by_cases hq:n≤q
  ·exact ⟨q,List.mem_cons_self ..,hq⟩
  have:below n r<r.length:=by
   unfold below at h ⊢;rw [List.filter_cons,if_pos (by simp;omega)] at h
   simpa using h
  obtain ⟨p,hp,hn⟩:=dN this;exact ⟨p,List.mem_cons_of_mem _ hp,hn⟩
theorem wW {n:Nat}:∀ {l:List Nat},n∈l→0<uP n l
 | [],h=>by cases h
 | q::r,h=>by
  unfold uP;rw [List.filter_cons];rcases List.mem_cons.1 h with rfl | h
  ·rw [if_pos (by simp)];simp
  have:=wW h;unfold uP at this;split
  ·simp
  exact this
theorem zN (n b0:Nat):∀ (l:List Nat) (out:Bs) (delta bias done:Nat),(zr n b0 l out delta bias done).2.2.2=done+uP n l
 | [],out,delta,bias,done=>rfl
 | p::r,out,delta,bias,done=>by
  unfold zr uP;rw [List.filter_cons];by_cases h1:p<n
  ·rw [if_pos h1,zN n b0 r,if_neg (by simp;omega)];rfl
  rw [if_neg h1];by_cases h2:p=n
  ·rw [if_pos h2,zN n b0 r,if_pos (by simpa using h2),List.length_cons];show done+1+uP n r=_;unfold uP;omega
  rw [if_neg h2,zN n b0 r,if_neg (by simpa using h2)];rfl
theorem vi (n b0:Nat):∀ (l:List Nat) (out:Bs) (delta bias done:Nat),(zr n b0 l out delta bias done).2.1≤delta+l.length∧(n∈l→(zr n b0 l out delta bias done).2.1≤l.length)
 | [],out,delta,bias,done=>⟨by simp [zr],by simp⟩
 | p::r,out,delta,bias,done=>by
  unfold zr;by_cases h1:p<n
  ·rw [if_pos h1];have ih:=vi n b0 r out (delta+1) bias done;refine ⟨by have:=ih.1;simp;omega,fun h=> ?_⟩;rcases List.mem_cons.1 h with h | h
   ·omega
   have:=ih.2 h;simp;omega
  rw [if_neg h1];by_cases h2:p=n
  ·rw [if_pos h2];have ih:=vi n b0 r (out++wQ delta 0 bias) 0 (xw delta (done+1) (decide (done=b0))) (done+1);refine ⟨by have:=ih.1;simp;omega,fun h=>by have:=ih.1;simp;omega⟩
  rw [if_neg h2];have ih:=vi n b0 r out delta bias done;refine ⟨by have:=ih.1;simp;omega,fun h=> ?_⟩;rcases List.mem_cons.1 h with h | h
  ·exact absurd h.symm h2
  have:=ih.2 h;simp;omega
structure EncSt (pts:List Nat) (b0:Nat) (R:Bs) (n:Nat) (out:Bs) (delta bias done:Nat):Prop where
 rest:∃ f,R=qi pts b0 f n out delta bias done∧pts.length≤done+f
 count:done=below n pts
 small:delta≤257
 fits:out.length≤257+11*done
 low:bias≤324
theorem EncSt.fin {pts:List Nat} {b0:Nat} {R:Bs} {n:Nat} {out:Bs} {delta bias done:Nat} (h:EncSt pts b0 R n out delta bias done) (hd:pts.length≤done):R=out:=by
 obtain ⟨f,hf,_⟩:=h.rest;cases f with
 | zero=>rw [hf];rfl
 | succ f=>rw [hf,qi,if_pos hd]
theorem EncSt.more {pts:List Nat} {b0:Nat} {R:Bs} {n:Nat} {out:Bs} {delta bias done:Nat} (h:EncSt pts b0 R n out delta bias done) (hd:done<pts.length) (hp:∀ p∈pts,p≤1114111) :
  n≤zv n 1114112 pts∧zv n 1114112 pts≤1114111∧zv n 1114112 pts∈pts∧below (zv n 1114112 pts) pts=done∧∃ p∈pts,n≤p:=by
 have hc:=h.count;obtain ⟨p,hm,hn⟩:=dN (n:=n) (l:=pts) (by omega);have h1:=kG n 1114112 pts p hm hn;have h2:=hp p hm;have h3:=dA n 1114112 pts ⟨p,hm,hn,by omega⟩;have h4:zv n 1114112 pts∈pts:=by
  rcases h3 with h | h
  ·exact h
  omega
 have h5:=ZU n 1114112 (by omega) pts;exact ⟨h5,by omega,h4,by rw [hc];exact gd h5 pts (fun q hq hnq=>kG n 1114112 pts q hq hnq),p,hm,hn⟩
theorem EncSt.next {pts:List Nat} {b0:Nat} {R:Bs} {n:Nat} {out:Bs} {delta bias done:Nat} (h:EncSt pts b0 R n out delta bias done) (hd:done<pts.length) (hl:pts.length≤256) (hp:∀ p∈pts,p≤1114111) (S:Bs × Nat × Nat × Nat)
  (hS:S=zr (zv n 1114112 pts) b0 pts out (delta+(zv n 1114112 pts - n)*(done+1)) bias done) (hout:S.1.length≤257+11*S.2.2.2) (hbias:S.2.2.1≤324):EncSt pts b0 R (zv n 1114112 pts+1) S.1 (S.2.1+1) S.2.2.1 S.2.2.2:=by
 obtain ⟨h1,h2,h3,h4,_⟩:=h.more hd hp;obtain ⟨f,hf,hlen⟩:=h.rest;have hdone:S.2.2.2=done+uP (zv n 1114112 pts) pts:=by rw [hS,zN]
 have hpos:=wW h3;refine ⟨?_,?_,?_,hout,hbias⟩
 ·cases f with
  | zero=>omega
  | succ f =>
   refine ⟨f,?_,by omega⟩;rw [hf,qi,if_neg (by omega),←hS]
 ·rw [hdone,wZ,h4]
 have:=(vi (zv n 1114112 pts) b0 pts out (delta+(zv n 1114112 pts - n)*(done+1)) bias done).2 h3;rw [←hS] at this;omega
theorem dO (pts:List Nat) (hl:pts.length≤256):EncSt pts (zA pts).length (qi pts (zA pts).length pts.length 128 (zA pts++if (zA pts).length=0 then [] else [45]) 0 72 (zA pts).length) 128 (zA pts++if (zA pts).length=0 then [] else [45]) 0 72 (zA pts).length:=by
 have hb:(zA pts).length=below 128 pts:=by unfold zA below;rw [List.length_map]
 have hle:=sO 128 pts;refine ⟨⟨pts.length,rfl,by omega⟩,hb,by omega,?_,by omega⟩;split<;>simp<;>omega
theorem tT {n b0 p:Nat} {r:List Nat} {out:Bs} {delta bias done:Nat} (h:p<n):zr n b0 (p::r) out delta bias done=zr n b0 r out (delta+1) bias done:=by rw [zr,if_pos h]
theorem tV {n b0 p:Nat} {r:List Nat} {out:Bs} {delta bias done:Nat} (h:p=n):zr n b0 (p::r) out delta bias done=zr n b0 r (out++wQ delta 0 bias) 0 (xw delta (done+1) (decide (done=b0))) (done+1):=by rw [zr,if_neg (by omega),if_pos h]
theorem tU {n b0 p:Nat} {r:List Nat} {out:Bs} {delta bias done:Nat} (h:n<p):zr n b0 (p::r) out delta bias done=zr n b0 r out delta bias done:=by rw [zr,if_neg (by omega),if_neg (by omega)]
end Hs
namespace Go.Proofs.YtbnnlkdhpifpeaaGreatDoor
open Go.RowKit Hs
theorem V9 (b:UInt8) (w:World):Calls Tryz.prog 107 #[.int .u8 (b.toNat:Int)] w fun e w'=>e= .returned (.int .i64 (pvI b))∧w=w':=by
 have hc:=kk b;have hb:=b.toNat_lt;have hv:Hid (pvI b=if pv b=99 then -1 else (pv b:Int)):=KZ9 rfl;obtain ⟨x,hx⟩:=KZ6 b.toNat;rw [←hx] at hc hb ⊢;obtain ⟨v,hvv⟩:=KZ6 (pv b);rw [←hvv] at hc hv;clear hx hvv;rcases hc with ⟨h1,h2,h3⟩ | ⟨h1,h2,h3⟩ | ⟨h1,h2,h3⟩ | ⟨h1,h2,h3,h4⟩
 ·have hr:=KZ9 (show pvI b=(x:Int) - 97 by rw [hv.out,if_neg (by omega)];omega);clear hv h3;go_enter Tryz.func107,Tryz.ntmps107
  go_wp2
  all_goals try omega
  go_ret;rw [hr.out];exact ⟨rfl,rfl⟩
 ·have hr:=KZ9 (show pvI b=(x:Int) - 65 by rw [hv.out,if_neg (by omega)];omega);clear hv h3;go_enter Tryz.func107,Tryz.ntmps107
  go_wp2
  all_goals try omega
  go_ret;rw [hr.out];exact ⟨rfl,rfl⟩
 ·have hr:=KZ9 (show pvI b=(x:Int) - 48+26 by rw [hv.out,if_neg (by omega)];omega);clear hv h3;go_enter Tryz.func107,Tryz.ntmps107
  go_wp2
  all_goals try omega
  go_ret;rw [hr.out];exact ⟨rfl,rfl⟩
 have hr:=KZ9 (show pvI b= -1 by rw [hv.out,if_pos (by omega)]);clear hv h4;go_enter Tryz.func107,Tryz.ntmps107
 go_wp2
 all_goals try omega
 all_goals
  go_ret;rw [hr.out];exact ⟨rfl,rfl⟩
theorem sY (d:Nat) (w:World) (hd:d<36):Calls Tryz.prog 111 #[.int .i64 (d:Int)] w fun e w'=>e= .returned (.int .u8 ((pd d).toNat:Int))∧w=w':=by
 have hv:=KZ9 (TV d hd);by_cases h:d<26
 ·have g1:decide ((d:Int)<26)=true:=KZ7 (by omega);go_enter Tryz.func111,Tryz.ntmps111
  go_wp2
  all_goals try omega
  go_ret;rw [hv.out,if_pos h];exact ⟨by go_num,rfl⟩
 have g1:decide ((d:Int)<26)=false:=KZ8 (by omega);go_enter Tryz.func111,Tryz.ntmps111
 go_wp2
 all_goals try omega
 go_ret;rw [hv.out,if_neg h];exact ⟨by go_num,rfl⟩
theorem g9 (n:Nat) (w:World) (hn:n≤1152921504606846976):Calls Tryz.prog 110 #[.int .i64 (n:Int)] w fun e w'=>e= .returned (.bool (xX n))∧w=w':=by
 have hv:Hid (xX n=decide (n≤1114111∧(n<55296∨57343<n))):=KZ9 rfl;have hc:(n≤1114111∧n<55296)∨(n≤1114111∧55296≤n∧n≤57343)∨(n≤1114111∧57343<n)∨1114111<n:=by omega
 have g0:decide ((0:Int)≤(n:Int))=true:=KZ7 (by omega);rcases hc with ⟨h1,h2⟩ | ⟨h1,h2,h3⟩ | ⟨h1,h2⟩ | h1
 ·have g1:decide ((n:Int)≤1114111)=true:=KZ7 (by omega);have g2:decide ((n:Int)<55296)=true:=KZ7 (by omega);go_enter Tryz.func110,Tryz.ntmps110
  go_wp2
  all_goals try omega
  go_ret;rw [hv.out,KZ7 (by omega)];exact ⟨rfl,rfl⟩
 ·have g1:decide ((n:Int)≤1114111)=true:=KZ7 (by omega);have g2:decide ((n:Int)<55296)=false:=KZ8 (by omega);have g3:decide ((57343:Int)<(n:Int))=false:=KZ8 (by omega);go_enter Tryz.func110,Tryz.ntmps110
  go_wp2
  all_goals try omega
  go_ret;rw [hv.out,KZ8 (by omega)];exact ⟨rfl,rfl⟩
 ·have g1:decide ((n:Int)≤1114111)=true:=KZ7 (by omega);have g2:decide ((n:Int)<55296)=false:=KZ8 (by omega);have g3:decide ((57343:Int)<(n:Int))=true:=KZ7 (by omega);go_enter Tryz.func110,Tryz.ntmps110
  go_wp2
  all_goals try omega
  go_ret;rw [hv.out,KZ7 (by omega)];exact ⟨rfl,rfl⟩
 have g1:decide ((n:Int)≤1114111)=false:=KZ8 (by omega);go_enter Tryz.func110,Tryz.ntmps110
 go_wp2
 all_goals try omega
 go_ret;rw [hv.out,KZ8 (by omega)];exact ⟨rfl,rfl⟩
set_option maxHeartbeats 1600000
theorem pr (delta count:Nat) (first:Bool) (w:World) (hd:delta≤1099511627776) (hc0:0<count) (hc:count≤1048576):Calls Tryz.prog 109 #[.int .i64 (delta:Int),.int .i64 (count:Int),.bool first] w fun e w'=>e= .returned (.int .i64 (xw delta count first))∧w=w':=by
 have hv:Hid (xw delta count first=xO ((if first=true then delta / 700 else delta / 2)+(if first=true then delta / 700 else delta / 2) / count) 0):=KZ9 rfl;have h1:(if first=true then delta / 700 else delta / 2)≤549755813888:=by split<;>omega
 obtain ⟨d0,hd0⟩:=KZ6 ((if first=true then delta / 700 else delta / 2));rw [←hd0] at hv h1;have h2:d0 / count≤d0:=Nat.div_le_self _ _;obtain ⟨q,hq⟩:=KZ6 (d0 / count);rw [←hq] at hv h2;have hqi:(d0:Int) / (count:Int)=(q:Int):=by rw [hq];exact (Int.natCast_ediv d0 count).symm
 have hqt:(d0:Int).tdiv (count:Int)=(q:Int):=by rw [Int.tdiv_eq_ediv_of_nonneg (by omega)];exact hqi
 have hcz:((count:Int)==0)=false:=by simp;omega
 have hcn:(count:Int)≠0:=by omega
 have h35:d0+q<456*35 ^ 8:=by
  have:(35:Nat) ^ 8=2251875390625:=by decide
  omega
 have H35:=KZ9 h35;clear hq h35;cases first
 all_goals
  simp only [if_true,Bool.false_eq_true,if_false] at hd0
  (first | have hdi:(delta:Int) / 700=(d0:Int):=by omega | have hdi:(delta:Int) / 2=(d0:Int):=by omega)
  (first | have hdt:(delta:Int).tdiv 700=(d0:Int):=by rw [Int.tdiv_eq_ediv_of_nonneg (by omega)];exact hdi | have hdt:(delta:Int).tdiv 2=(d0:Int):=by rw [Int.tdiv_eq_ediv_of_nonneg (by omega)];exact hdi)
  clear hd0;go_enter Tryz.func109,Tryz.ntmps109
  go_wp2
  all_goals try omega
  go_loop [0,7] (fun dv kv=>∃ e k:Nat,dv= .int .i64 e∧kv= .int .i64 k∧e≤1099511627776∧k≤288∧Hid (xO (d0+q) 0=xO e k)∧Hid (∃ j,e<456*35 ^ j∧k+36*j≤288)) (fun dv _=>(intOf dv).toNat)
  case atStart=>exact ⟨d0+q,0,by go_num,rfl,by omega,by omega,KZ9 rfl,KZ9 ⟨8,H35.out,by omega⟩⟩
  case round =>
   obtain ⟨e,k,rfl,rfl,he,hk,hst,hj⟩:=hrel;by_cases hlt:455<e
   ·have g1:decide ((455:Int)<(e:Int))=true:=KZ7 (by omega);have hst2:Hid (xO (d0+q) 0=xO (e / 35) (k+36)):=KZ9 (by rw [hst.out,qp hlt]);have hj2:Hid (∃ j,e / 35<456*35 ^ j∧k+36+36*j≤288):=KZ9 (by
     obtain ⟨j,h1,h2⟩:=hj.out;cases j with
     | zero=>simp at h1;omega
     | succ j=>exact ⟨j,by rw [Nat.pow_succ,←Nat.mul_assoc] at h1;exact Nat.div_lt_of_lt_mul (by rw [Nat.mul_comm];exact h1),by omega⟩)
    have hk2:k+36≤288:=by obtain ⟨j,_,h⟩:=hj2.out;omega
    clear hst hj;go_wp2
    all_goals try omega
    go_round
    case rel=>exact ⟨e / 35,k+36,by go_num,by go_num,by omega,hk2,hst2,hj2⟩
    case measure=>simp [intOf];omega
   have g1:decide ((455:Int)<(e:Int))=false:=KZ8 (by omega);obtain ⟨r,hr⟩:=KZ6 (36*e / (e+38));have hfin:Hid (xw delta count _=k+r):=KZ9 (by rw [hv.out,hst.out,vQ hlt,hr]);have hri:36*(e:Int) / ((e:Int)+38)=(r:Int):=by rw [hr];push_cast;rfl
   have hrt:(36*(e:Int)).tdiv ((e:Int)+38)=(r:Int):=by rw [Int.tdiv_eq_ediv_of_nonneg (by omega)];exact hri
   have hr36:r≤36:=by
    rw [hr];apply Nat.le_of_lt_succ;rw [Nat.div_lt_iff_lt_mul (by omega)];omega
   have hez:(e:Int)+38≠0:=by omega
   clear hst hj hr;go_wp2
   all_goals try omega
   go_ret;rw [hfin.out];exact ⟨by go_num,rfl⟩
theorem gL (b:UInt8) (n:Int) (h:n=(b.toNat:Int)) (w:World):Calls Tryz.prog 214 #[.int .u8 n] w fun e w'=>e= .returned (.bool (zF b))∧w=w':=by
 subst h;go_enter Tryz.func214,Tryz.ntmps214
 go_wp2
 all_goals
  go_ret;refine ⟨yH ?_,rfl⟩;first | (refine gb ?_;omega) | (refine qn ?_;omega) | (refine Wj ?_;omega) | (refine qo ?_;omega) | (refine qm ?_;omega)
theorem yS (b:UInt8) (n:Int) (h:n=(b.toNat:Int)) (w:World):Calls Tryz.prog 146 #[.int .u8 n] w fun e w'=>e= .returned (.bool (yM b))∧w=w':=by
 subst h;go_enter Tryz.func146,Tryz.ntmps146
 go_wp2
 all_goals
  go_ret;refine ⟨yH ?_,rfl⟩;first | (refine gb ?_;omega) | (refine qn ?_;omega) | (refine Wj ?_;omega) | (refine qo ?_;omega) | (refine qm ?_;omega)
theorem vl (b:UInt8) (n:Int) (h:n=(b.toNat:Int)) (w:World):Calls Tryz.prog 145 #[.int .u8 n] w fun e w'=>e= .returned (.bool (wh b))∧w=w':=by
 subst h;go_enter Tryz.func145,Tryz.ntmps145
 go_wp2_with ((go_at_call 214;refine (gL b _ rfl _).mono ?_;rintro e w' ⟨rfl,rfl⟩))
 all_goals
  go_ret;refine ⟨yH ?_,rfl⟩
  (try simp only [yM,zF,beq_iff_eq,beq_eq_false_iff_ne,ne_eq,decide_eq_true_eq,decide_eq_false_iff_not] at *)
  first | (refine gb ?_;omega) | (refine qn ?_;omega) | (refine Wj ?_;omega) | (refine qo ?_;omega) | (refine qm ?_;omega)
theorem yD:(Tryz.prog.info? 5).map (fun i=>(i.zero,i.size,i.bytes))=some (some (.int .u8 0),1,1):=by kernel_rfl
theorem R3:(Tryz.prog.info? 9).map (fun i=>(i.zero,i.size,i.bytes))=some (some (.string ByteArray.empty),1,16):=by kernel_rfl
theorem XI (s:ByteArray) (k:Nat) (hk:k<s.size) (x:Int) (hx:(65≤(s[k].toNat:Int)∧(s[k].toNat:Int)≤90∧x=(s[k].toNat:Int)+32)∨(¬ (65≤(s[k].toNat:Int)∧(s[k].toNat:Int)≤90)∧x=(s[k].toNat:Int))) :
  zc (zt ((un s).take k))++[.int .u8 x]=zc (zt ((un s).take (k+1))):=by
 have e:x=((ub s[k]).toNat:Int):=by
  have h:(s[k]+32).toNat=(s[k].toNat+32) % 256:=UInt8.toNat_add s[k] 32;rcases hx with ⟨h1,h2,rfl⟩ | ⟨h1,rfl⟩
  ·have e:ub s[k]=s[k]+32:=by unfold ub rf;rw [if_pos (by rw [decide_eq_true_eq];omega)]
   rw [e,h];omega
  have e:ub s[k]=s[k]:=by unfold ub rf;rw [if_neg (by rw [decide_eq_true_eq];omega)]
  rw [e]
 subst e;rw [XJ (un s) k (by simpa using hk),zz];rfl
theorem yw (s:ByteArray) (w:World) (hs:s.size≤100000000):Calls Tryz.prog 80 #[.string s] w fun e w'=>e= .returned (.string (mk (zt (un s))))∧Below w.heap.size w w':=by
 obtain ⟨iB0,iB⟩:=info_parts yD;go_enter Tryz.func80,Tryz.ntmps80
 go_wp2_with (at_make;refine wpList_make_own _ rfl _ _ 34 rfl w.heap.size 5 iB0 (.int .u8 0) 1 Tryz.underlying34 iB.1 iB.2.1 iB.2.2.1 .i64 .i64 _ s.size rfl rfl (by omega) (by rw [iB.2.2.2];omega) (by unfold maxLen;omega) (Nat.le_refl _) ?_;intro w0 hown0 hgrow0)
 go_loopw [3,11] (fun v i wr=>∃ k:Nat,k≤s.size∧i= .int .i64 k∧wr.ownsRow w.heap.size 5 1 v k (zc (zt ((un s).take k)))∧Below w.heap.size w wr)
  (fun _ i _=>s.size - (intOf i).toNat)
 case atStart=>exact ⟨0,Nat.zero_le _,rfl,hown0,(Below.refl _ _).grown hgrow0 (Nat.le_refl _) (fun k h=>by cases h)⟩
 case round =>
  obtain ⟨k,hk,rfl,hown,hnx⟩:=hrel;have hsize:=hnx.size;by_cases hlt:k<s.size
  ·go_wp2_with (at_builtin;refine wpList_append_own _ rfl (.tmp 25) (.tmp 27) 34 rfl (w.heap.size) 5 iB0 (.int .u8 0) 1 1 Tryz.underlying34 iB.1 iB.2.1 iB.2.2.1 iB.2.2.2 rfl (by decide) _ _ _ rfl (hown.alloc _) ⟨wr.heap.size,0,none⟩ 1 1 [_] rfl rfl (cell_one_new _ _ _) (by intro u hu;simp at hu;subst hu;rfl) (by unfold maxLen;omega) (by omega) (by simp;omega) ?_;intro v1 w1 hown1 hgrow1 hnil1)
   all_goals
    go_roundw
    case rel =>
     refine ⟨k+1,by omega,by go_num,?_,(hnx.alloc (by omega) _).grown hgrow1 (by simp;omega) (fun j hj=>(hown.lt j hj).1)⟩;have e:=hown1;rw [XI s k hlt] at e
     ·exact e
     omega
    case measure=>simp [intOf];omega
  obtain rfl:k=s.size:=by omega
  rw [List.take_of_length_le (by simp)] at hown;have hcv:=yP (P:=Tryz.prog) (Row.owned hown) (src:=34) (dst:=9) Tryz.underlying34 Tryz.underlying5 Tryz.underlying9;go_wp2;go_ret;exact ⟨rfl,hnx⟩
theorem jo (a b:ByteArray) (w:World) (ha:a.size≤100000000) (hb:b.size≤100000000):Calls Tryz.prog 148 #[.string a,.string b] w fun e w'=>e= .returned (.bool (zt (un a)==zt (un b)))∧Below w.heap.size w w':=by
 go_enter Tryz.func148,Tryz.ntmps148
 go_wp2_with fail
 refine (yw a _ ha).mono ?_;rintro e w1 ⟨rfl,hb1⟩;go_wp2_with fail
 refine (yw b _ hb).mono ?_;rintro e w2 ⟨rfl,hb2⟩;go_wp2_with fail
 go_ret;exact ⟨yH (by simp [zy]),hb1.trans (hb2.mono hb1.size)⟩
theorem Wl (s:ByteArray) (w:World) (hs:s.size≤100000000):Calls Tryz.prog 81 #[.string s] w fun e w'=>e= .returned (.string (mk (sh (un s))))∧w=w':=by
 go_enter Tryz.func81,Tryz.ntmps81
 go_wp2;go_loop [0] (fun v=>∃ t:ByteArray,v= .string t∧t.size≤s.size∧Hid (uT (un t)=uT (un s))) (fun v=>uH v)
 case atStart=>exact ⟨s,rfl,Nat.le_refl _,rfl⟩
 case round =>
  obtain ⟨t,rfl,hts,ht⟩:=hrel;by_cases h0:0<t.size
  ·have h0':0<(un t).length:=by simpa using h0
   cases hb:yM (t[0]'h0)
   ·have hn:=KZ9 (VK (un t) h0' hb);go_wp2_with (go_at_call 146;refine (yS _ _ rfl _).mono ?_;rintro e w' ⟨rfl,rfl⟩)
    have hstart:Hid (vV (un t)=sh (un s)):=by
     have e1:=ht.out;have e2:=hn.out;show vV (un t)=vV (uT (un s));rw [←e1,e2]
    clear hb ht hn;go_loop [0] (fun v=>∃ u:ByteArray,v= .string u∧u.size≤s.size∧Hid (vV (un u)=sh (un s))) (fun v=>uH v)
    case atStart=>exact ⟨t,rfl,hts,hstart⟩
    case round =>
     obtain ⟨u,rfl,hus,hu⟩:=hrel;by_cases h1:0<u.size
     ·have h1':0<(un u).length:=by simpa using h1
      have hlast:(un u)[(un u).length - 1]'(by omega)=u[u.size - 1]'(by omega):=by simp only [za];rfl
      cases hc:yM (u[u.size - 1]'(by omega))
      ·have hn:=KZ9 (gP (un u) h1' (by rw [hlast];exact hc));clear hlast;go_wp2_with (go_at_call 146;refine (yS _ _ rfl _).mono ?_;rintro e w' ⟨rfl,rfl⟩)
       go_ret;exact ⟨jr (by rw [zk,←hu.out,hn.out]),rfl⟩
      have hn:=KZ9 (pK (un u) h1' (by rw [hlast];exact hc));clear hlast;go_wp2_with (go_at_call 146;refine (yS _ _ rfl _).mono ?_;rintro e w' ⟨rfl,rfl⟩)
      go_round
      case rel=>exact ⟨_,rfl,by rw [ByteArray.size_extract];omega,by rw [yQ,zk,jW,←hu.out,hn.out,za];rfl⟩
      case measure=>simp only [uH,ByteArray.size_extract];omega
     go_wp2;go_ret;have hz:un u=[]:=List.eq_nil_of_length_eq_zero (by rw [za];omega);exact ⟨jr (by rw [zk,←hu.out,hz];rfl),rfl⟩
   have hn:=KZ9 (bY (un t) h0' hb);go_wp2_with (go_at_call 146;refine (yS _ _ rfl _).mono ?_;rintro e w' ⟨rfl,rfl⟩)
   go_round
   case rel=>exact ⟨_,rfl,by rw [ByteArray.size_extract];omega,by rw [yQ,zk,←za,jX,←ht.out,hn.out];rfl⟩
   case measure=>simp only [uH,ByteArray.size_extract];omega
  have hz:un t=[]:=List.eq_nil_of_length_eq_zero (by rw [za];omega);have hstart:Hid (vV (un t)=sh (un s)):=by
   have e1:=ht.out;show vV (un t)=vV (uT (un s));rw [←e1,hz];rfl
  clear hz ht;go_wp2;go_loop [0] (fun v=>∃ u:ByteArray,v= .string u∧u.size≤s.size∧Hid (vV (un u)=sh (un s))) (fun v=>uH v)
  case atStart=>exact ⟨t,rfl,hts,hstart⟩
  case round =>
   obtain ⟨u,rfl,hus,hu⟩:=hrel;by_cases h1:0<u.size
   ·have h1':0<(un u).length:=by simpa using h1
    have hlast:(un u)[(un u).length - 1]'(by omega)=u[u.size - 1]'(by omega):=by simp only [za];rfl
    cases hc:yM (u[u.size - 1]'(by omega))
    ·have hn:=KZ9 (gP (un u) h1' (by rw [hlast];exact hc));clear hlast;go_wp2_with (go_at_call 146;refine (yS _ _ rfl _).mono ?_;rintro e w' ⟨rfl,rfl⟩)
     go_ret;exact ⟨jr (by rw [zk,←hu.out,hn.out]),rfl⟩
    have hn:=KZ9 (pK (un u) h1' (by rw [hlast];exact hc));clear hlast;go_wp2_with (go_at_call 146;refine (yS _ _ rfl _).mono ?_;rintro e w' ⟨rfl,rfl⟩)
    go_round
    case rel=>exact ⟨_,rfl,by rw [ByteArray.size_extract];omega,by rw [yQ,zk,jW,←hu.out,hn.out,za];rfl⟩
    case measure=>simp only [uH,ByteArray.size_extract];omega
   go_wp2;go_ret;have hz:un u=[]:=List.eq_nil_of_length_eq_zero (by rw [za];omega);exact ⟨jr (by rw [zk,←hu.out,hz];rfl),rfl⟩
end Go.Proofs.YtbnnlkdhpifpeaaGreatDoor
namespace Hs
open Go Go.RowKit
def zo (l:List Nat):List Value:=l.map fun (n:Nat)=> .int .i64 (n:Int)
@[simp] theorem uO (l:List Nat):(zo l).length=l.length:=by simp [zo]
theorem uL (a b:List Nat):zo (a++b)=zo a++zo b:=by simp [zo]
def Nums (w:World) (v:Value) (l:List Nat):Prop:=Row w v 1 l.length (zo l)
theorem Nums.open {w:World} {v:Value} {l:List Nat} (h:Nums w v l):∃ a cap,v= .slice a l.length cap∧l.length≤cap∧cap≤maxLen ∧
  ∀ (hn:0<l.length),∃ b off,a=some ⟨b,off,none⟩∧b<w.heap.size∧∀ j (hj:j<l.length),w.cell? ⟨b,off+j,none⟩=some (.int .i64 (l[j]:Int)):=by
 obtain ⟨hl,a,cap,rfl,hn,hm,h⟩:=h;refine ⟨a,cap,rfl,hn,hm,fun h0=> ?_⟩;rcases h with h | ⟨b,off,ha,hlt,hc⟩
 ·omega
 exact ⟨b,off,ha,hlt,fun j hj=>hc j _ (by simp [zo,List.getElem?_eq_getElem hj])⟩
theorem yk {w:World} {base:Nat} {e:TypeId} {size n:Nat} {v:Value} {xs:List Value} (h:w.ownsRow base e size v n xs):∃ a cap,v= .slice a n cap:=by
 rcases h.2 with ⟨rfl,rfl⟩ | ⟨g,cap,cur,rfl,_⟩
 ·exact ⟨none,0,rfl⟩
 exact ⟨_,cap,rfl⟩
theorem sP {l:List Nat} {p:Nat} (h:p<128):zA (l++[p])=zA l++[UInt8.ofNat p]:=by
 unfold zA;rw [List.filter_append,List.map_append]
 congr 1
 rw [List.filter_cons,if_pos (by simpa using h)];rfl
theorem sQ {l:List Nat} {p:Nat} (h:¬ p<128):zA (l++[p])=zA l:=by
 unfold zA;rw [List.filter_append,List.map_append,List.filter_cons,if_neg (by simpa using h)];simp
theorem YN (p:Nat) (h:p<256):(((UInt8.ofNat p).toNat:Nat):Int)=(p:Int):=by
 rw [UInt8.toNat_ofNat',Nat.mod_eq_of_lt h]
theorem vh {n D p:Nat} {r:List Nat} (h:n≤p):zv n D (p::r)=min p (zv n D r):=by rw [zv,if_pos h]
theorem vg {n D p:Nat} {r:List Nat} (h:¬ n≤p):zv n D (p::r)=zv n D r:=by rw [zv,if_neg h]
theorem uF (l:List Nat) (h:l.all xX=true):∀ p∈l,p≤1114111:=by
 intro p hp;have:=List.all_eq_true.1 h p hp;exact (of_decide_eq_true this).1
theorem Yy (l:List Nat) (f:Nat→Bool) (k:Nat) (h:k<l.length):(l.drop k).all f=(f l[k]&&(l.drop (k+1)).all f):=by
 rw [List.drop_eq_getElem_cons h,List.all_cons]
end Hs
namespace Go.Proofs.YtbnnlkdhpifpeaaGreatDoor
open Go.RowKit Hs
theorem uK (k bias:Nat) (w:World) (hk:k≤2000000000) (hb:bias≤1048576):Calls Tryz.prog 108 #[.int .i64 (k:Int),.int .i64 (bias:Int)] w fun e w'=>e= .returned (.int .i64 (thr k bias))∧w=w':=by
 have h1:=KZ9 (show (thr k bias:Int)=max 1 (min 26 (36*((k:Int)+1) - (bias:Int))) by unfold thr;omega);go_enter Tryz.func108,Tryz.ntmps108
 go_wp2
 all_goals try omega
 all_goals
  go_ret;rw [h1.out];refine ⟨congrArg Ending.returned ?_,rfl⟩;show Value.int .i64 _=Value.int .i64 _
  congr 1
  omega
set_option maxRecDepth 20000
set_option maxHeartbeats 16000000
theorem Xn (v:Value) (pts:List Nat) (w:World) (hst:Nums w v pts) (hl:pts.length≤100000) (hbig:∀ p∈pts,p≤1152921504606846976):Calls Tryz.prog 54 #[v] w fun e w'=>(∃ s c,e= .returned (.tuple #[.string s,.int .i64 c])∧((c=0∧se pts=some (un s))∨(c≠0∧s=⟨#[]⟩∧se pts=none)))∧Below w.heap.size w w':=by
 obtain ⟨iB0,iB⟩:=info_parts yD;have hdef:Hid (se pts=if 256<pts.length then none else if pts.all xX=false then none else some (qi pts (zA pts).length pts.length 128 (zA pts++if (zA pts).length=0 then [] else [45]) 0 72 (zA pts).length)):=KZ9 rfl;obtain ⟨a,c,rfl,hn,hm,hc⟩:=hst.open;unfold maxLen at hm;have HC:=KZ9 hc;have HBIG:=KZ9 hbig;clear hc hst hbig;obtain ⟨n,hn0⟩:∃ n,pts.length=n:=⟨_,rfl⟩;rw [hn0] at hn hl hdef ⊢;have HN:=KZ9 hn0;clear hn0;by_cases hlong:256<n
 ·have g1:decide ((256:Int)<(n:Int))=true:=KZ7 (by omega);have hend:Hid (se pts=none):=KZ9 (by rw [hdef.out,if_pos hlong]);clear hdef;go_enter Tryz.func54,Tryz.ntmps54
  go_wp2
  all_goals try omega
  go_ret2;exact ⟨⟨_,_,rfl,.inr ⟨by decide,rfl,hend.out⟩⟩,Below.refl _ _⟩
 have g1:decide ((256:Int)<(n:Int))=false:=KZ8 (by omega);have hdef2:=KZ9 (hdef.out.trans (if_neg hlong));clear hdef;go_enter Tryz.func54,Tryz.ntmps54
 go_wp2
 all_goals try omega
 go_loopw [4,5] (fun ov iv wr=>∃ (k m:Nat),iv= .int .i64 k∧k≤n∧m≤k∧wr.ownsRow w.heap.size 5 1 ov m (zc (zA (pts.take k)))∧Hid (pts.all xX=(pts.drop k).all xX)∧Below w.heap.size w wr) (fun _ iv _=>n - (intOf iv).toNat)
 case atStart=>exact ⟨0,0,rfl,by omega,by omega,World.ownsRow_nil _ _ _ _,KZ9 (by rw [List.drop_zero]),Below.refl _ _⟩
 case round =>
  obtain ⟨k,m,rfl,hk,hmk,hown,hall,hnx⟩:=hrel;have hsz:=hnx.size;by_cases hlt:k<n
  ·obtain ⟨b,off,rfl,hb1,hcell⟩:=HC.out (by rw [HN.out];omega);have hkl:k<pts.length:=by rw [HN.out];exact hlt
   have c0w:=hcell k hkl;have c0:=((wj hnx).1 b (off+k) hb1).trans c0w;have hp:=HBIG.out pts[k] (List.getElem_mem hkl);have htk:Hid (pts.take (k+1)=pts.take k++[pts[k]]):=KZ9 (List.take_succ_eq_append_getElem hkl);have hda:=Yy pts xX k hkl;obtain ⟨p,hpp⟩:=KZ6 (pts[k]);rw [←hpp] at c0 c0w hp htk hda;have hpt:=fun W=>g9 p W hp;obtain ⟨ok,hok⟩:=KZ6 (xX p);rw [←hok] at hda;simp only [←hok] at hpt;have HP:=KZ9 hpt;have c1:∀ o,(wr.alloc o).cell? ⟨b,off+k,none⟩=some (.int .i64 (p:Int)):=fun o=>((wj ((Below.refl wr.heap.size wr).alloc (Nat.le_refl _) o)).1 b (off+k) (by omega)).trans c0;clear hcell hpp hok hpt hkl c0w;cases ok
   ·have hend:Hid (se pts=none):=KZ9 (by rw [hdef2.out,hall.out,hda];rfl);clear hall hda;go_wp2_with fail
    refine (HP.out _).mono ?_;rintro e w2 ⟨rfl,rfl⟩;go_wp2
    all_goals try omega
    go_ret2;exact ⟨⟨_,_,rfl,.inr ⟨by decide,rfl,hend.out⟩⟩,hnx⟩
   have hall2:Hid (pts.all xX=(pts.drop (k+1)).all xX):=KZ9 (by rw [hall.out,hda,Bool.true_and]);clear hall hda;by_cases hp128:p<128
   ·have g2:decide ((p:Int)<128)=true:=KZ7 (by omega);have hbb:=YN p (by omega);go_wp2_with fail
    refine (HP.out _).mono ?_;rintro e w2 ⟨rfl,rfl⟩;go_wp2_with (first | (at_builtin;refine wpList_append_own _ rfl (.tmp 37) (.tmp 43) 34 rfl (w.heap.size) 5 iB0 (.int .u8 0) 1 1 Tryz.underlying34 iB.1 iB.2.1 iB.2.2.1 iB.2.2.2 rfl (by decide) _ _ _ rfl (hown.alloc _) ⟨wr.heap.size,0,none⟩ 1 1 [_] rfl rfl (cell_one_new _ _ _) (by intro u hu;simp at hu;subst hu;rfl) (by unfold maxLen;omega) (by omega) (by simp;omega) ?_;intro v1 w3 hown1 hgrow1 hnil1))
    all_goals try omega
    go_roundw
    case rel =>
     refine ⟨k+1,m+1,by go_num,by omega,by omega,?_,hall2,(hnx.alloc (by omega) _).grown hgrow1 (by simp;omega) (fun j hj=>(hown.lt j hj).1)⟩;rw [htk.out,sP hp128,zz];have e:zc [UInt8.ofNat p]=[.int .u8 (p:Int)]:=by show [Value.int .u8 _]=_;rw [hbb]
     rw [e];exact hown1
    case measure=>simp [intOf];omega
   have g2:decide ((p:Int)<128)=false:=KZ8 (by omega);go_wp2_with fail
   refine (HP.out _).mono ?_;rintro e w2 ⟨rfl,rfl⟩;go_wp2
   all_goals try omega
   go_roundw
   case rel=>exact ⟨k+1,m,by go_num,by omega,by omega,by rw [htk.out,sQ hp128];exact hown,hall2,hnx⟩
   case measure=>simp [intOf];omega
  skip
  have hk9:pts.take k=pts:=List.take_of_length_le (by rw [HN.out];omega);have hall9:pts.all xX=true:=by rw [hall.out,List.drop_of_length_le (by rw [HN.out];omega)];rfl
  have HOK:=KZ9 (uF pts hall9);rw [hk9] at hown;have hm9:m=(zA pts).length:=by have:=hown.1;simp at this;omega
  have hes0:=dO pts (by rw [HN.out];omega);have hdef3:se pts=some (qi pts (zA pts).length pts.length 128 (zA pts++if (zA pts).length=0 then [] else [45]) 0 72 (zA pts).length):=by rw [hdef2.out,hall9,HN.out];rfl
  obtain ⟨R,hR⟩:=KZ6 (qi pts (zA pts).length pts.length 128 (zA pts++if (zA pts).length=0 then [] else [45]) 0 72 (zA pts).length);rw [←hR] at hes0 hdef3;rw [←hm9] at hes0;have HR:=KZ9 hdef3;obtain ⟨a2,c2,rfl⟩:=yk hown;clear hall hall9 hk9 hdef2 hdef3 hR;rcases Nat.eq_zero_or_pos m with h0 | h0
  ·obtain ⟨OUT0,hO⟩:=KZ6 (zA pts++if m=0 then ([]:Bs) else [45]);rw [←hO] at hes0;have hOe:OUT0=zA pts:=by rw [hO,if_pos h0,List.append_nil]
   have HES:=KZ9 hes0;have HOWN0:=KZ9 (show wr.ownsRow w.heap.size 5 1 (.slice a2 m c2) OUT0.length (zc OUT0) by rw [hOe,←hm9];exact hown);have HNX0:=KZ9 hnx;have g2:decide ((0:Int)<(m:Int))=false:=KZ8 (by omega);have g2n:decide (0<m)=false:=KZ8 (by omega);have h00:m≤0:=by omega
   clear hO hOe hes0 hown hm9 h0 hnx;go_wp2
   all_goals try omega
   go_loopw [4,6,8,9,10] (fun ov dnv nv dv bv wr=>∃ (out:Bs) (dn nn dl bi:Nat),dnv= .int .i64 dn∧nv= .int .i64 nn∧dv= .int .i64 dl∧bv= .int .i64 bi∧dn≤n∧nn≤1114112∧dl≤257∧bi≤324∧out.length≤257+11*dn∧wr.ownsRow w.heap.size 5 1 ov out.length (zc out)∧Hid (EncSt pts m R nn out dl bi dn)∧Below w.heap.size w wr) (fun _ dnv _ _ _ _=>n - (intOf dnv).toNat)
   case atStart=>exact ⟨OUT0,m,128,0,72,rfl,rfl,rfl,rfl,by omega,by omega,by omega,by omega,HES.out.fits,HOWN0.out,HES,HNX0.out⟩
   case round =>
    obtain ⟨out,dn,nn,dl,bi,rfl,rfl,rfl,rfl,hdn,hnn,hdl,hbi,hol,hown,hes,hnx⟩:=hrel;by_cases hlt:dn<n
    ·have hmore:=hes.out.more (by rw [HN.out];exact hlt) HOK.out;obtain ⟨M,hM⟩:=KZ6 (zv nn 1114112 pts);rw [←hM] at hmore;obtain ⟨hm1,hm2,hm3,hm4,hm5⟩:=hmore;have hM30:zv nn 1073741824 pts=M:=by
      rw [hM];exact uM nn 1073741824 1114112 pts hm5 (fun p hp=>by have:=HOK.out p hp;omega)
     have HM3:=KZ9 hm3;have HST0:Hid (min 1073741824 (zv nn 1073741824 (pts.drop 0))=M):=KZ9 (by rw [List.drop_zero,hM30];omega);have HMM:=KZ9 hM;clear hm5 hm3 hm4 hM30 hM;go_wp2
     all_goals try omega
     go_loop [11,12] (fun lv iv=>∃ k L:Nat,iv= .int .i64 k∧k≤n∧lv= .int .i64 L∧L≤1073741824∧Hid (min L (zv nn 1073741824 (pts.drop k))=M)) (fun _ iv=>n - (intOf iv).toNat)
     case atStart=>exact ⟨0,1073741824,rfl,by omega,rfl,by omega,HST0⟩
     case round =>
      obtain ⟨k,L,rfl,hk,rfl,hL,hst⟩:=hrel;by_cases hkn:k<n
      ·obtain ⟨b,off,rfl,hb1,hcell⟩:=HC.out (by rw [HN.out];omega);have hkl:k<pts.length:=by rw [HN.out];exact hkn
       have c0:=((wj hnx).1 b (off+k) hb1).trans (hcell k hkl);have hp:=HOK.out pts[k] (List.getElem_mem hkl);have hd:Hid (pts.drop k=pts[k]::pts.drop (k+1)):=KZ9 (List.drop_eq_getElem_cons hkl);obtain ⟨p,hpp⟩:=KZ6 (pts[k]);rw [←hpp] at c0 hp hd;clear hcell hpp hkl;by_cases hge:nn≤p
       ·have g2:decide ((nn:Int)≤(p:Int))=true:=KZ7 (by omega);obtain ⟨L2,hL2⟩:=KZ6 (min L p);have hmin:min (L:Int) (p:Int)=(L2:Int):=by omega
        have hst2:Hid (min L2 (zv nn 1073741824 (pts.drop (k+1)))=M):=KZ9 (by rw [←hst.out,hd.out,vh hge,hL2,Nat.min_assoc]);have hL2b:L2≤1073741824:=by omega
        have HL2:=KZ9 hL2;clear hst hL2;go_wp2
        all_goals try omega
        go_round
        case rel=>exact ⟨k+1,L2,by go_num,by omega,(by have:=HL2.out;congr 1<;>split<;>omega),hL2b,hst2⟩
        case measure=>simp [intOf];omega
       have g2:decide ((nn:Int)≤(p:Int))=false:=KZ8 (by omega);have hst2:Hid (min L (zv nn 1073741824 (pts.drop (k+1)))=M):=KZ9 (by rw [←hst.out,hd.out,vg hge]);clear hst;go_wp2
       all_goals try omega
       go_round
       case rel=>exact ⟨k+1,L,by go_num,by omega,rfl,hL,hst2⟩
       case measure=>simp [intOf];omega
      have hLM:L=M:=by
       have h1:=hst.out;rw [List.drop_of_length_le (by rw [HN.out];omega),zv] at h1;omega
      have HLM:=KZ9 hLM;have hL1:nn≤L:=by omega
      have hL2:L≤1114111:=by omega
      obtain ⟨Q,hQ⟩:=KZ6 ((L - nn)*(dn+1));have hQb:Q≤300000000:=by
       rw [hQ];exact Nat.le_trans (Nat.mul_le_mul (show L - nn≤1114111 by omega) (show dn+1≤257 by omega)) (by decide)
      have hmul:((L:Int) - (nn:Int))*((dn:Int)+1)=(Q:Int):=by
       rw [hQ,show (L:Int) - (nn:Int)=((L - nn:Nat):Int) by omega,show (dn:Int)+1=((dn+1:Nat):Int) by omega];rfl
      obtain ⟨S,hS⟩:=KZ6 (zr L m pts out (dl+Q) bi dn);have hSd:S.2.2.2≤n:=by
       rw [hS,zN,hLM];have h1:=hes.out.more (by rw [HN.out];exact hlt) HOK.out;rw [←HMM.out] at h1;have h2:=wZ M pts;have h3:=sO (M+1) pts;rw [HN.out] at h3;omega
      have hSN:Hid (S=zr (zv nn 1114112 pts) m pts out (dl+(zv nn 1114112 pts - nn)*(dn+1)) bi dn):=KZ9 (by rw [hS,←HMM.out,hQ,hLM]);have HP0:Hid (zr L m (pts.drop 0) out (dl+Q) bi dn=S):=KZ9 (by rw [List.drop_zero,hS]);have hSm:dn<S.2.2.2:=by
       rw [hS,zN];have:=wW HM3.out;rw [hLM];omega
      have hdl2:dl+Q≤300000300:=by omega
      have hSB:=KZ9 hSm;clear hst hQ hLM hS hSm;go_wp2
      all_goals try omega
      go_loopw [4,6,9,10,13] (fun ov dnv dv bv iv wr=>∃ (out:Bs) (dn dl bi k:Nat),dnv= .int .i64 dn∧dv= .int .i64 dl∧bv= .int .i64 bi∧iv= .int .i64 k∧k≤n∧dl≤300000300+k∧bi≤324∧out.length≤257+11*dn∧wr.ownsRow w.heap.size 5 1 ov out.length (zc out)∧Hid (zr L m (pts.drop k) out dl bi dn=S)∧Below w.heap.size w wr) (fun _ _ _ _ iv _=>n - (intOf iv).toNat)
      case atStart=>exact ⟨out,dn,dl+Q,bi,0,rfl,by go_num,rfl,rfl,by omega,by omega,by omega,by omega,hown,HP0,hnx⟩
      case round =>
       obtain ⟨out,dn,dl,bi,k,rfl,rfl,rfl,rfl,hk,hdl,hbi,hol,hown,hst4,hnx⟩:=hrel;have hsz:=hnx.size;have hdn:dn≤n:=by
        have h1:=zN L m (pts.drop k) out dl bi dn;rw [hst4.out] at h1;omega
       by_cases hkn:k<n
       ·obtain ⟨b,off,rfl,hb1,hcell⟩:=HC.out (by rw [HN.out];omega);have hkl:k<pts.length:=by rw [HN.out];exact hkn
        have c0:=((wj hnx).1 b (off+k) hb1).trans (hcell k hkl);have hp:=HOK.out pts[k] (List.getElem_mem hkl);have hdrop:Hid (pts.drop k=pts[k]::pts.drop (k+1)):=KZ9 (List.drop_eq_getElem_cons hkl);obtain ⟨p,hpp⟩:=KZ6 (pts[k]);rw [←hpp] at c0 hp hdrop;clear hcell hpp hkl;rcases Nat.lt_trichotomy p L with hpl | hpl | hpl
        ·have g2:decide ((p:Int)<(L:Int))=true:=KZ7 (by omega);have g3:((p:Int) != (L:Int))=true:=by simp;omega
         have hst5:Hid (zr L m (pts.drop (k+1)) out (dl+1) bi dn=S):=KZ9 (by rw [←hst4.out,hdrop.out,tT hpl]);clear hst4;go_wp2
         all_goals try omega
         go_roundw
         case rel=>exact ⟨out,dn,dl+1,bi,k+1,rfl,by go_num,rfl,by go_num,by omega,by omega,by omega,by omega,hown,hst5,hnx⟩
         case measure=>simp [intOf];omega
        ·have hpL:=KZ9 hpl;have hpl1:p≤L:=by omega
         have hpl2:L≤p:=by omega
         have g2:decide ((p:Int)<(L:Int))=false:=KZ8 (by omega);have g3:((p:Int) != (L:Int))=false:=by simp;omega
         clear hpl;have hS5:Hid (out++wQ dl 0 bi=out++wQ dl 0 bi):=KZ9 rfl;have hlen5:=uj 9 dl 0 bi (by omega);obtain ⟨T5,hT5⟩:=KZ6 (out++wQ dl 0 bi);have hT5l:T5.length≤257+11*dn+10:=by rw [hT5,List.length_append];omega
         have HT5:=KZ9 hT5;go_wp2
         all_goals try omega
         go_loopw [4,14,15] (fun ov qv kv wr=>∃ (o5:Bs) (q5 k5:Nat),qv= .int .i64 q5∧kv= .int .i64 k5∧q5+k5≤300001000∧wr.ownsRow w.heap.size 5 1 ov o5.length (zc o5)∧Hid (T5=o5++wQ q5 k5 bi)∧Below w.heap.size w wr) (fun _ qv _ _=>(intOf qv).toNat)
         case atStart=>exact ⟨out,dl,0,rfl,rfl,by omega,hown,HT5,hnx⟩
         case round =>
          obtain ⟨o5,q5,k5,rfl,rfl,hqk,hown,hst5,hnx⟩:=hrel;have hsz:=hnx.size;have hol:o5.length≤257+11*dn+10:=by have:=congrArg List.length hst5.out;rw [List.length_append] at this;omega
          have htb:=xT k5 bi;have ht:=fun W=>uK k5 bi W (by omega) (by omega);have hES:=@ui q5 k5 bi;have hEB:=@qR q5 k5 bi;obtain ⟨t,htt⟩:=KZ6 (thr k5 bi);rw [←htt] at htb hES hEB;simp only [←htt] at ht;have HT:=KZ9 ht;clear htt ht;by_cases hqt:q5<t
          ·have g8:decide ((t:Int)≤(q5:Int))=false:=KZ8 (by omega);have hfin:=hES hqt;have hdg:=fun W=>sY q5 W (by omega);obtain ⟨f,hff⟩:=KZ6 (decide (dn=m));have hfi:((dn:Int)==(m:Int))=f:=by rw [hff,Bool.eq_iff_iff];simp;omega
           have had:=fun W=>pr dl (dn+1) f W (by omega) (by omega) (by omega);rw [Int.natCast_add] at had;have hal:=vT dl (dn+1) f (by omega);obtain ⟨b2,hb2⟩:=KZ6 (xw dl (dn+1) f);simp only [←hb2] at had;rw [←hb2] at hal;have hnext:Hid (zr L m (pts.drop (k+1)) T5 0 b2 (dn+1)=S):=KZ9 (by rw [←hst4.out,hdrop.out,tV hpL.out,←HT5.out,hb2,hff]);have hT5e:Hid (T5=o5++[pd q5]):=KZ9 (by rw [hst5.out,hfin]);have HD:=KZ9 hdg;have HAD:=KZ9 had;clear hdg had hff hb2 hfin hES hEB;go_wp2_with fail
           refine (HT.out _).mono ?_;rintro e w2 ⟨rfl,rfl⟩;go_wp2_with fail
           all_goals try omega
           refine (HD.out _).mono ?_;rintro e w2 ⟨rfl,rfl⟩;go_wp2_with (first | (at_builtin;refine wpList_append_own _ rfl (.tmp 134) (.tmp 137) 34 rfl (w.heap.size) 5 iB0 (.int .u8 0) 1 1 Tryz.underlying34 iB.1 iB.2.1 iB.2.2.1 iB.2.2.2 rfl (by decide) _ _ _ rfl (hown.alloc _) ⟨wr.heap.size,0,none⟩ 1 1 [_] rfl rfl (cell_one_new _ _ _) (by intro u hu;simp at hu;subst hu;rfl) (by unfold maxLen;omega) (by omega) (by simp;omega) ?_;intro v1 w3 hown1 hgrow1 hnil1) | (go_at_call 109;refine (HAD.out _).mono ?_;rintro e w2 ⟨rfl,rfl⟩))
           all_goals try omega
           go_roundw
           case rel =>
            refine ⟨T5,dn+1,0,b2,k+1,by go_num,rfl,rfl,by go_num,by omega,by omega,by omega,by omega,?_,hnext,(hnx.alloc (by omega) _).grown hgrow1 (by simp;omega) (fun j hj=>(hown.lt j hj).1)⟩;rw [hT5e.out,zz,List.length_append];exact hown1
           case measure=>simp [intOf];omega
          have g8:decide ((t:Int)≤(q5:Int))=true:=KZ7 (by omega);have hbig:=hEB hqt;obtain ⟨r,hr⟩:=KZ6 ((q5 - t) % (36 - t));obtain ⟨q6,hq6⟩:=KZ6 ((q5 - t) / (36 - t));rw [←hr,←hq6] at hbig;have hr36:r<36 - t:=by rw [hr];exact Nat.mod_lt _ (by omega)
          have hq6l:q6≤q5 - t:=by rw [hq6];exact Nat.div_le_self _ _
          have e1:((q5:Int) - (t:Int))=((q5 - t:Nat):Int):=by omega
          have e2:(36:Int) - (t:Int)=((36 - t:Nat):Int):=by omega
          have hri:((q5:Int) - (t:Int)) % (36 - (t:Int))=(r:Int):=by rw [e1,e2,hr];rfl
          have hrt:((q5:Int) - (t:Int)).tmod (36 - (t:Int))=(r:Int):=by rw [Int.tmod_eq_emod_of_nonneg (by omega)];exact hri
          have hdi:((q5:Int) - (t:Int)) / (36 - (t:Int))=(q6:Int):=by rw [e1,e2,hq6];rfl
          have hdt:((q5:Int) - (t:Int)).tdiv (36 - (t:Int))=(q6:Int):=by rw [Int.tdiv_eq_ediv_of_nonneg (by omega)];exact hdi
          have hz36:(36:Int) - (t:Int)≠0:=by omega
          have hdg:=fun W=>sY (t+r) W (by omega);simp only [Int.natCast_add] at hdg;have HD:=KZ9 hdg;have hst6:Hid (T5=(o5++[pd (t+r)])++wQ q6 (k5+1) bi):=KZ9 (by rw [hst5.out,hbig,List.append_assoc];rfl);clear hdg hr hq6 e1 e2 hst5 hbig hES hEB;go_wp2_with fail
          refine (HT.out _).mono ?_;rintro e w2 ⟨rfl,rfl⟩;go_wp2_with fail
          all_goals try omega
          refine (HT.out _).mono ?_;rintro e w2 ⟨rfl,rfl⟩;go_wp2_with fail
          all_goals try omega
          refine (HD.out _).mono ?_;rintro e w2 ⟨rfl,rfl⟩;go_wp2_with (first | (at_builtin;refine wpList_append_own _ rfl (.tmp 114) (.tmp 124) 34 rfl (w.heap.size) 5 iB0 (.int .u8 0) 1 1 Tryz.underlying34 iB.1 iB.2.1 iB.2.2.1 iB.2.2.2 rfl (by decide) _ _ _ rfl (hown.alloc _) ⟨wr.heap.size,0,none⟩ 1 1 [_] rfl rfl (cell_one_new _ _ _) (by intro u hu;simp at hu;subst hu;rfl) (by unfold maxLen;omega) (by omega) (by simp;omega) ?_;intro v1 w3 hown1 hgrow1 hnil1))
          all_goals try omega
          go_roundw
          case rel =>
           refine ⟨o5++[pd (t+r)],q6,k5+1,rfl,by go_num,by omega,?_,hst6,(hnx.alloc (by omega) _).grown hgrow1 (by simp;omega) (fun j hj=>(hown.lt j hj).1)⟩;rw [zz,List.length_append];exact hown1
          case measure=>simp [intOf];omega
        have g2:decide ((p:Int)<(L:Int))=false:=KZ8 (by omega);have g3:((p:Int) != (L:Int))=true:=by simp;omega
        have hst5:Hid (zr L m (pts.drop (k+1)) out dl bi dn=S):=KZ9 (by rw [←hst4.out,hdrop.out,tU hpl]);clear hst4;go_wp2
        all_goals try omega
        go_roundw
        case rel=>exact ⟨out,dn,dl,bi,k+1,rfl,rfl,rfl,by go_num,by omega,by omega,by omega,by omega,hown,hst5,hnx⟩
        case measure=>simp [intOf];omega
       have hSe:(out,dl,bi,dn)=S:=by rw [←hst4.out,List.drop_of_length_le (by rw [HN.out];omega)];rfl
       have hnext:=hes.out.next (by rw [HN.out];exact hlt) (by rw [HN.out];omega) HOK.out S hSN.out (by rw [←hSe];exact hol) (by rw [←hSe];exact hbi);rw [←HMM.out,←HLM.out,←hSe] at hnext;have HNX:=KZ9 hnext;have hdl9:dl+1≤257:=hnext.small;have hSB2:=hSB.out;rw [←hSe] at hSB2;simp only at hSB2;clear hst4 hSe hnext;go_wp2
       all_goals try omega
       go_roundw
       case rel=>exact ⟨out,dn,L+1,dl+1,bi,rfl,by go_num,by go_num,rfl,by omega,by omega,hdl9,by omega,by omega,hown,HNX,hnx⟩
       case measure=>simp [intOf];omega
    have hend:Hid (R=out):=KZ9 (hes.out.fin (by rw [HN.out];omega));have hcv:=yP (P:=Tryz.prog) (Row.owned hown) (src:=34) (dst:=9) Tryz.underlying34 Tryz.underlying5 Tryz.underlying9;clear hes;go_wp2
    all_goals try omega
    go_ret2;exact ⟨⟨_,_,rfl,.inl ⟨rfl,by rw [HR.out,hend.out,zk]⟩⟩,hnx⟩
  obtain ⟨OUT0,hO⟩:=KZ6 (zA pts++if m=0 then ([]:Bs) else [45]);rw [←hO] at hes0;have hOe:OUT0=zA pts++[45]:=by rw [hO,if_neg (by omega)]
  have HES:=KZ9 hes0;have HOE:=KZ9 hOe;have HM9:=KZ9 hm9;have g2:decide ((0:Int)<(m:Int))=true:=KZ7 (by omega);have g2n:decide (0<m)=true:=KZ7 (by omega);clear hO hOe hes0 hm9;go_wp2_with (first | (at_builtin;refine wpList_append_own _ rfl (.tmp 51) (.tmp 52) 34 rfl (w.heap.size) 5 iB0 (.int .u8 0) 1 1 Tryz.underlying34 iB.1 iB.2.1 iB.2.2.1 iB.2.2.2 rfl (by decide) _ _ _ rfl (hown.alloc _) ⟨wr.heap.size,0,none⟩ 1 1 [_] rfl rfl (cell_one_new _ _ _) (by intro u hu;simp at hu;subst hu;rfl) (by unfold maxLen;omega) (by omega) (by simp;omega) ?_;intro v1 w3 hown1 hgrow1 hnil1))
  all_goals try omega
  have HNX0:=KZ9 ((hnx.alloc (by omega) _).grown hgrow1 (by simp;omega) (fun j hj=>(hown.lt j hj).1));have HOWN0:=KZ9 (show w3.ownsRow w.heap.size 5 1 v1 OUT0.length (zc OUT0) by rw [HOE.out,zz,List.length_append,←HM9.out];exact hown1);clear hown hown1 hgrow1 hnil1 hnx;go_loopw [4,6,8,9,10] (fun ov dnv nv dv bv wr=>∃ (out:Bs) (dn nn dl bi:Nat),dnv= .int .i64 dn∧nv= .int .i64 nn∧dv= .int .i64 dl∧bv= .int .i64 bi∧dn≤n∧nn≤1114112∧dl≤257∧bi≤324∧out.length≤257+11*dn∧wr.ownsRow w.heap.size 5 1 ov out.length (zc out)∧Hid (EncSt pts m R nn out dl bi dn)∧Below w.heap.size w wr) (fun _ dnv _ _ _ _=>n - (intOf dnv).toNat)
  case atStart=>exact ⟨OUT0,m,128,0,72,rfl,rfl,rfl,rfl,by omega,by omega,by omega,by omega,HES.out.fits,HOWN0.out,HES,HNX0.out⟩
  case round =>
   obtain ⟨out,dn,nn,dl,bi,rfl,rfl,rfl,rfl,hdn,hnn,hdl,hbi,hol,hown,hes,hnx⟩:=hrel;by_cases hlt:dn<n
   ·have hmore:=hes.out.more (by rw [HN.out];exact hlt) HOK.out;obtain ⟨M,hM⟩:=KZ6 (zv nn 1114112 pts);rw [←hM] at hmore;obtain ⟨hm1,hm2,hm3,hm4,hm5⟩:=hmore;have hM30:zv nn 1073741824 pts=M:=by
     rw [hM];exact uM nn 1073741824 1114112 pts hm5 (fun p hp=>by have:=HOK.out p hp;omega)
    have HM3:=KZ9 hm3;have HST0:Hid (min 1073741824 (zv nn 1073741824 (pts.drop 0))=M):=KZ9 (by rw [List.drop_zero,hM30];omega);have HMM:=KZ9 hM;clear hm5 hm3 hm4 hM30 hM;go_wp2
    all_goals try omega
    go_loop [11,12] (fun lv iv=>∃ k L:Nat,iv= .int .i64 k∧k≤n∧lv= .int .i64 L∧L≤1073741824∧Hid (min L (zv nn 1073741824 (pts.drop k))=M)) (fun _ iv=>n - (intOf iv).toNat)
    case atStart=>exact ⟨0,1073741824,rfl,by omega,rfl,by omega,HST0⟩
    case round =>
     obtain ⟨k,L,rfl,hk,rfl,hL,hst⟩:=hrel;by_cases hkn:k<n
     ·obtain ⟨b,off,rfl,hb1,hcell⟩:=HC.out (by rw [HN.out];omega);have hkl:k<pts.length:=by rw [HN.out];exact hkn
      have c0:=((wj hnx).1 b (off+k) hb1).trans (hcell k hkl);have hp:=HOK.out pts[k] (List.getElem_mem hkl);have hd:Hid (pts.drop k=pts[k]::pts.drop (k+1)):=KZ9 (List.drop_eq_getElem_cons hkl);obtain ⟨p,hpp⟩:=KZ6 (pts[k]);rw [←hpp] at c0 hp hd;clear hcell hpp hkl;by_cases hge:nn≤p
      ·have g2:decide ((nn:Int)≤(p:Int))=true:=KZ7 (by omega);obtain ⟨L2,hL2⟩:=KZ6 (min L p);have hmin:min (L:Int) (p:Int)=(L2:Int):=by omega
       have hst2:Hid (min L2 (zv nn 1073741824 (pts.drop (k+1)))=M):=KZ9 (by rw [←hst.out,hd.out,vh hge,hL2,Nat.min_assoc]);have hL2b:L2≤1073741824:=by omega
       have HL2:=KZ9 hL2;clear hst hL2;go_wp2
       all_goals try omega
       go_round
       case rel=>exact ⟨k+1,L2,by go_num,by omega,(by have:=HL2.out;congr 1<;>split<;>omega),hL2b,hst2⟩
       case measure=>simp [intOf];omega
      have g2:decide ((nn:Int)≤(p:Int))=false:=KZ8 (by omega);have hst2:Hid (min L (zv nn 1073741824 (pts.drop (k+1)))=M):=KZ9 (by rw [←hst.out,hd.out,vg hge]);clear hst;go_wp2
      all_goals try omega
      go_round
      case rel=>exact ⟨k+1,L,by go_num,by omega,rfl,hL,hst2⟩
      case measure=>simp [intOf];omega
     have hLM:L=M:=by
      have h1:=hst.out;rw [List.drop_of_length_le (by rw [HN.out];omega),zv] at h1;omega
     have HLM:=KZ9 hLM;have hL1:nn≤L:=by omega
     have hL2:L≤1114111:=by omega
     obtain ⟨Q,hQ⟩:=KZ6 ((L - nn)*(dn+1));have hQb:Q≤300000000:=by
      rw [hQ];exact Nat.le_trans (Nat.mul_le_mul (show L - nn≤1114111 by omega) (show dn+1≤257 by omega)) (by decide)
     have hmul:((L:Int) - (nn:Int))*((dn:Int)+1)=(Q:Int):=by
      rw [hQ,show (L:Int) - (nn:Int)=((L - nn:Nat):Int) by omega,show (dn:Int)+1=((dn+1:Nat):Int) by omega];rfl
     obtain ⟨S,hS⟩:=KZ6 (zr L m pts out (dl+Q) bi dn);have hSd:S.2.2.2≤n:=by
      rw [hS,zN,hLM];have h1:=hes.out.more (by rw [HN.out];exact hlt) HOK.out;rw [←HMM.out] at h1;have h2:=wZ M pts;have h3:=sO (M+1) pts;rw [HN.out] at h3;omega
     have hSN:Hid (S=zr (zv nn 1114112 pts) m pts out (dl+(zv nn 1114112 pts - nn)*(dn+1)) bi dn):=KZ9 (by rw [hS,←HMM.out,hQ,hLM]);have HP0:Hid (zr L m (pts.drop 0) out (dl+Q) bi dn=S):=KZ9 (by rw [List.drop_zero,hS]);have hSm:dn<S.2.2.2:=by
      rw [hS,zN];have:=wW HM3.out;rw [hLM];omega
     have hdl2:dl+Q≤300000300:=by omega
     have hSB:=KZ9 hSm;clear hst hQ hLM hS hSm;go_wp2
     all_goals try omega
     go_loopw [4,6,9,10,13] (fun ov dnv dv bv iv wr=>∃ (out:Bs) (dn dl bi k:Nat),dnv= .int .i64 dn∧dv= .int .i64 dl∧bv= .int .i64 bi∧iv= .int .i64 k∧k≤n∧dl≤300000300+k∧bi≤324∧out.length≤257+11*dn∧wr.ownsRow w.heap.size 5 1 ov out.length (zc out)∧Hid (zr L m (pts.drop k) out dl bi dn=S)∧Below w.heap.size w wr) (fun _ _ _ _ iv _=>n - (intOf iv).toNat)
     case atStart=>exact ⟨out,dn,dl+Q,bi,0,rfl,by go_num,rfl,rfl,by omega,by omega,by omega,by omega,hown,HP0,hnx⟩
     case round =>
      obtain ⟨out,dn,dl,bi,k,rfl,rfl,rfl,rfl,hk,hdl,hbi,hol,hown,hst4,hnx⟩:=hrel;have hsz:=hnx.size;have hdn:dn≤n:=by
       have h1:=zN L m (pts.drop k) out dl bi dn;rw [hst4.out] at h1;omega
      by_cases hkn:k<n
      ·obtain ⟨b,off,rfl,hb1,hcell⟩:=HC.out (by rw [HN.out];omega);have hkl:k<pts.length:=by rw [HN.out];exact hkn
       have c0:=((wj hnx).1 b (off+k) hb1).trans (hcell k hkl);have hp:=HOK.out pts[k] (List.getElem_mem hkl);have hdrop:Hid (pts.drop k=pts[k]::pts.drop (k+1)):=KZ9 (List.drop_eq_getElem_cons hkl);obtain ⟨p,hpp⟩:=KZ6 (pts[k]);rw [←hpp] at c0 hp hdrop;clear hcell hpp hkl;rcases Nat.lt_trichotomy p L with hpl | hpl | hpl
       ·have g2:decide ((p:Int)<(L:Int))=true:=KZ7 (by omega);have g3:((p:Int) != (L:Int))=true:=by simp;omega
        have hst5:Hid (zr L m (pts.drop (k+1)) out (dl+1) bi dn=S):=KZ9 (by rw [←hst4.out,hdrop.out,tT hpl]);clear hst4;go_wp2
        all_goals try omega
        go_roundw
        case rel=>exact ⟨out,dn,dl+1,bi,k+1,rfl,by go_num,rfl,by go_num,by omega,by omega,by omega,by omega,hown,hst5,hnx⟩
        case measure=>simp [intOf];omega
       ·have hpL:=KZ9 hpl;have hpl1:p≤L:=by omega
        have hpl2:L≤p:=by omega
        have g2:decide ((p:Int)<(L:Int))=false:=KZ8 (by omega);have g3:((p:Int) != (L:Int))=false:=by simp;omega
        clear hpl;have hS5:Hid (out++wQ dl 0 bi=out++wQ dl 0 bi):=KZ9 rfl;have hlen5:=uj 9 dl 0 bi (by omega);obtain ⟨T5,hT5⟩:=KZ6 (out++wQ dl 0 bi);have hT5l:T5.length≤257+11*dn+10:=by rw [hT5,List.length_append];omega
        have HT5:=KZ9 hT5;go_wp2
        all_goals try omega
        go_loopw [4,14,15] (fun ov qv kv wr=>∃ (o5:Bs) (q5 k5:Nat),qv= .int .i64 q5∧kv= .int .i64 k5∧q5+k5≤300001000∧wr.ownsRow w.heap.size 5 1 ov o5.length (zc o5)∧Hid (T5=o5++wQ q5 k5 bi)∧Below w.heap.size w wr) (fun _ qv _ _=>(intOf qv).toNat)
        case atStart=>exact ⟨out,dl,0,rfl,rfl,by omega,hown,HT5,hnx⟩
        case round =>
         obtain ⟨o5,q5,k5,rfl,rfl,hqk,hown,hst5,hnx⟩:=hrel;have hsz:=hnx.size;have hol:o5.length≤257+11*dn+10:=by have:=congrArg List.length hst5.out;rw [List.length_append] at this;omega
         have htb:=xT k5 bi;have ht:=fun W=>uK k5 bi W (by omega) (by omega);have hES:=@ui q5 k5 bi;have hEB:=@qR q5 k5 bi;obtain ⟨t,htt⟩:=KZ6 (thr k5 bi);rw [←htt] at htb hES hEB;simp only [←htt] at ht;have HT:=KZ9 ht;clear htt ht;by_cases hqt:q5<t
         ·have g8:decide ((t:Int)≤(q5:Int))=false:=KZ8 (by omega);have hfin:=hES hqt;have hdg:=fun W=>sY q5 W (by omega);obtain ⟨f,hff⟩:=KZ6 (decide (dn=m));have hfi:((dn:Int)==(m:Int))=f:=by rw [hff,Bool.eq_iff_iff];simp;omega
          have had:=fun W=>pr dl (dn+1) f W (by omega) (by omega) (by omega);rw [Int.natCast_add] at had;have hal:=vT dl (dn+1) f (by omega);obtain ⟨b2,hb2⟩:=KZ6 (xw dl (dn+1) f);simp only [←hb2] at had;rw [←hb2] at hal;have hnext:Hid (zr L m (pts.drop (k+1)) T5 0 b2 (dn+1)=S):=KZ9 (by rw [←hst4.out,hdrop.out,tV hpL.out,←HT5.out,hb2,hff]);have hT5e:Hid (T5=o5++[pd q5]):=KZ9 (by rw [hst5.out,hfin]);have HD:=KZ9 hdg;have HAD:=KZ9 had;clear hdg had hff hb2 hfin hES hEB;go_wp2_with fail
          refine (HT.out _).mono ?_;rintro e w2 ⟨rfl,rfl⟩;go_wp2_with fail
          all_goals try omega
          refine (HD.out _).mono ?_;rintro e w2 ⟨rfl,rfl⟩;go_wp2_with (first | (at_builtin;refine wpList_append_own _ rfl (.tmp 134) (.tmp 137) 34 rfl (w.heap.size) 5 iB0 (.int .u8 0) 1 1 Tryz.underlying34 iB.1 iB.2.1 iB.2.2.1 iB.2.2.2 rfl (by decide) _ _ _ rfl (hown.alloc _) ⟨wr.heap.size,0,none⟩ 1 1 [_] rfl rfl (cell_one_new _ _ _) (by intro u hu;simp at hu;subst hu;rfl) (by unfold maxLen;omega) (by omega) (by simp;omega) ?_;intro v1 w3 hown1 hgrow1 hnil1) | (go_at_call 109;refine (HAD.out _).mono ?_;rintro e w2 ⟨rfl,rfl⟩))
          all_goals try omega
          go_roundw
          case rel =>
           refine ⟨T5,dn+1,0,b2,k+1,by go_num,rfl,rfl,by go_num,by omega,by omega,by omega,by omega,?_,hnext,(hnx.alloc (by omega) _).grown hgrow1 (by simp;omega) (fun j hj=>(hown.lt j hj).1)⟩;rw [hT5e.out,zz,List.length_append];exact hown1
          case measure=>simp [intOf];omega
         have g8:decide ((t:Int)≤(q5:Int))=true:=KZ7 (by omega);have hbig:=hEB hqt;obtain ⟨r,hr⟩:=KZ6 ((q5 - t) % (36 - t));obtain ⟨q6,hq6⟩:=KZ6 ((q5 - t) / (36 - t));rw [←hr,←hq6] at hbig;have hr36:r<36 - t:=by rw [hr];exact Nat.mod_lt _ (by omega)
         have hq6l:q6≤q5 - t:=by rw [hq6];exact Nat.div_le_self _ _
         have e1:((q5:Int) - (t:Int))=((q5 - t:Nat):Int):=by omega
         have e2:(36:Int) - (t:Int)=((36 - t:Nat):Int):=by omega
         have hri:((q5:Int) - (t:Int)) % (36 - (t:Int))=(r:Int):=by rw [e1,e2,hr];rfl
         have hrt:((q5:Int) - (t:Int)).tmod (36 - (t:Int))=(r:Int):=by rw [Int.tmod_eq_emod_of_nonneg (by omega)];exact hri
         have hdi:((q5:Int) - (t:Int)) / (36 - (t:Int))=(q6:Int):=by rw [e1,e2,hq6];rfl
         have hdt:((q5:Int) - (t:Int)).tdiv (36 - (t:Int))=(q6:Int):=by rw [Int.tdiv_eq_ediv_of_nonneg (by omega)];exact hdi
         have hz36:(36:Int) - (t:Int)≠0:=by omega
         have hdg:=fun W=>sY (t+r) W (by omega);simp only [Int.natCast_add] at hdg;have HD:=KZ9 hdg;have hst6:Hid (T5=(o5++[pd (t+r)])++wQ q6 (k5+1) bi):=KZ9 (by rw [hst5.out,hbig,List.append_assoc];rfl);clear hdg hr hq6 e1 e2 hst5 hbig hES hEB;go_wp2_with fail
         refine (HT.out _).mono ?_;rintro e w2 ⟨rfl,rfl⟩;go_wp2_with fail
         all_goals try omega
         refine (HT.out _).mono ?_;rintro e w2 ⟨rfl,rfl⟩;go_wp2_with fail
         all_goals try omega
         refine (HD.out _).mono ?_;rintro e w2 ⟨rfl,rfl⟩;go_wp2_with (first | (at_builtin;refine wpList_append_own _ rfl (.tmp 114) (.tmp 124) 34 rfl (w.heap.size) 5 iB0 (.int .u8 0) 1 1 Tryz.underlying34 iB.1 iB.2.1 iB.2.2.1 iB.2.2.2 rfl (by decide) _ _ _ rfl (hown.alloc _) ⟨wr.heap.size,0,none⟩ 1 1 [_] rfl rfl (cell_one_new _ _ _) (by intro u hu;simp at hu;subst hu;rfl) (by unfold maxLen;omega) (by omega) (by simp;omega) ?_;intro v1 w3 hown1 hgrow1 hnil1))
         all_goals try omega
         go_roundw
         case rel =>
          refine ⟨o5++[pd (t+r)],q6,k5+1,rfl,by go_num,by omega,?_,hst6,(hnx.alloc (by omega) _).grown hgrow1 (by simp;omega) (fun j hj=>(hown.lt j hj).1)⟩;rw [zz,List.length_append];exact hown1
         case measure=>simp [intOf];omega
       have g2:decide ((p:Int)<(L:Int))=false:=KZ8 (by omega);have g3:((p:Int) != (L:Int))=true:=by simp;omega
       have hst5:Hid (zr L m (pts.drop (k+1)) out dl bi dn=S):=KZ9 (by rw [←hst4.out,hdrop.out,tU hpl]);clear hst4;go_wp2
       all_goals try omega
       go_roundw
       case rel=>exact ⟨out,dn,dl,bi,k+1,rfl,rfl,rfl,by go_num,by omega,by omega,by omega,by omega,hown,hst5,hnx⟩
       case measure=>simp [intOf];omega
      have hSe:(out,dl,bi,dn)=S:=by rw [←hst4.out,List.drop_of_length_le (by rw [HN.out];omega)];rfl
      have hnext:=hes.out.next (by rw [HN.out];exact hlt) (by rw [HN.out];omega) HOK.out S hSN.out (by rw [←hSe];exact hol) (by rw [←hSe];exact hbi);rw [←HMM.out,←HLM.out,←hSe] at hnext;have HNX:=KZ9 hnext;have hdl9:dl+1≤257:=hnext.small;have hSB2:=hSB.out;rw [←hSe] at hSB2;simp only at hSB2;clear hst4 hSe hnext;go_wp2
      all_goals try omega
      go_roundw
      case rel=>exact ⟨out,dn,L+1,dl+1,bi,rfl,by go_num,by go_num,rfl,by omega,by omega,hdl9,by omega,by omega,hown,HNX,hnx⟩
      case measure=>simp [intOf];omega
   have hend:Hid (R=out):=KZ9 (hes.out.fin (by rw [HN.out];omega));have hcv:=yP (P:=Tryz.prog) (Row.owned hown) (src:=34) (dst:=9) Tryz.underlying34 Tryz.underlying5 Tryz.underlying9;clear hes;go_wp2
   all_goals try omega
   go_ret2;exact ⟨⟨_,_,rfl,.inl ⟨rfl,by rw [HR.out,hend.out,zk]⟩⟩,hnx⟩
end Go.Proofs.YtbnnlkdhpifpeaaGreatDoor
namespace Hs
open Go Go.RowKit
theorem dx (b off j:Nat):(⟨b,off,none⟩:Addr).add j=⟨b,off+j,none⟩:=by
 unfold Addr.add;split
 ·rename_i h;rw [h];rfl
 rfl
theorem rV (l:List Nat):∀ u∈zo l,u.oneCell'=true:=by
 intro u hu;unfold zo at hu;obtain ⟨x,_,rfl⟩:=List.mem_map.1 hu;rfl
theorem Nums.below {w w':World} {v:Value} {l:List Nat} (h:Nums w v l) (hb:Below w.heap.size w w'):Nums w' v l:=Row.below h hb
theorem Nums.nil (w:World):Nums w (.slice none 0 0) []:=Row.nil w 1
theorem Nums.owned {w:World} {base n:Nat} {e:TypeId} {v:Value} {l:List Nat} (h:w.ownsRow base e 1 v n (zo l)):Nums w v l:=by
 have h1:=h.1;rw [uO] at h1;have:=Row.owned h;rw [←(show l.length=n by omega)] at this;exact this
theorem Nums.part {w:World} {b off n c:Nat} {l:List Nat} (h:Nums w (.slice (some ⟨b,off,none⟩) n c) l) (i j c':Nat) (hij:i≤j) (hj:j≤n) (hc:j - i≤c') (hcm:c'≤maxLen) :
  Nums w (.slice (some ⟨b,off+i,none⟩) (j - i) c') ((l.take j).drop i):=by
 obtain ⟨hl,a,cap,hv,hn,hm,h⟩:=h;injection hv with h1 h2 h3
 have hln:l.length=n:=h2.symm;have hlen:((l.take j).drop i).length=j - i:=by rw [List.length_drop,List.length_take,hln,Nat.min_eq_left hj]
 refine ⟨by simp,some ⟨b,off+i,none⟩,c',by rw [hlen],by omega,hcm,?_⟩;rcases h with h | ⟨b2,off2,ha,hlt,hcell⟩
 ·left;omega
 rw [←h1] at ha;injection ha with ha
 injection ha with e1 e2
 subst e1 e2;refine .inr ⟨b,off+i,rfl,hlt,fun k u hk=> ?_⟩;rw [Nat.add_assoc];refine hcell (i+k) u ?_;unfold zo at hk ⊢;rw [List.getElem?_map] at hk ⊢;rw [List.getElem?_drop,List.getElem?_take] at hk;split at hk
 ·exact hk
 cases hk
theorem Nums.kept {w w':World} {b off n c:Nat} {l:List Nat} {row:Option Nat} (h:Nums w (.slice (some ⟨b,off,none⟩) n c) l) (hg:w.grownBy w' row) (hr:some b≠row):Nums w' (.slice (some ⟨b,off,none⟩) n c) l:=by
 obtain ⟨hl,a,cap,hv,hn,hm,h⟩:=h;refine ⟨hl,a,cap,hv,hn,hm,h.imp id ?_⟩;rintro ⟨b2,off2,ha,hlt,hc⟩;have hb:b2=b:=by
  injection hv with h1
  rw [←h1] at ha;injection ha with ha
  injection ha with e1
  exact e1.symm
 subst hb;exact ⟨b2,off2,ha,by have:=hg.size;omega,fun j u hj=>(World.cell?_of_block (w:=w) (a:=⟨b2,off2+j,none⟩) (hg.block b2 hlt hr)).trans (hc j u hj)⟩
theorem Nums.head {w:World} {b n c:Nat} {l:List Nat} (h:Nums w (.slice (some ⟨b,0,none⟩) n c) l) (j:Nat) (hj:j≤n) (hnc:n≤c) (hcm:c≤maxLen):Nums w (.slice (some ⟨b,0,none⟩) j c) (l.take j):=by
 have:=h.part 0 j c (Nat.zero_le _) hj (by omega) hcm
 simpa using this
theorem Nums.tail {w:World} {b n c:Nat} {l:List Nat} (h:Nums w (.slice (some ⟨b,0,none⟩) n c) l) (hl:l.length=n) (i:Nat) (hi:i≤n) (hnc:n≤c) (hcm:c≤maxLen):Nums w (.slice (some ⟨b,i,none⟩) (n - i) (c - i)) (l.drop i):=by
 have:=h.part i n (c - i) hi (Nat.le_refl _) (by omega) (by omega);rw [List.take_of_length_le (by omega),Nat.zero_add] at this;exact this
theorem Nums.tail2 {w:World} {b n c:Nat} {l:List Nat} (h:Nums w (.slice (some ⟨b,0,none⟩) n c) l) (hl:l.length=n) (i:Nat) (hi:i≤n) (hnc:n≤c) (hcm:c≤maxLen):Nums w (.slice (if c=i then some ⟨b,0,none⟩ else some ⟨b,i,none⟩) (n - i) (c - i)) (l.drop i):=by
 by_cases hc:c=i
 ·rw [if_pos hc];have:l.drop i=[]:=List.drop_of_length_le (by omega);rw [this,show n - i=0 by omega,show c - i=0 by omega];exact ⟨by simp,some ⟨b,0,none⟩,0,rfl,Nat.le_refl _,by simp [maxLen],.inl rfl⟩
 rw [if_neg hc];exact h.tail hl i hi hnc hcm
theorem py (w:World) (base:Nat) (hb:base≤w.heap.size) (e:TypeId):(w.alloc (.cells #[] e)).ownsRow base e 1 (.slice (some ⟨w.heap.size,0,none⟩) 0 0) 0 [] :=
 ⟨rfl,.inr ⟨w.heap.size,0,#[],rfl,hb,heap_alloc_new w _,Nat.le_refl _,by simp [maxLen],rfl,rfl⟩⟩
theorem WS (w:World) (x:Nat) (e:TypeId):Nums (w.alloc (.cells #[.int .i64 (x:Int)] e)) (.slice (some ⟨w.heap.size,0,none⟩) 1 1) [x]:=by
 refine ⟨by simp,some ⟨w.heap.size,0,none⟩,1,by simp,by simp,by simp [maxLen],.inr ⟨w.heap.size,0,rfl,by simp,fun j u hj=> ?_⟩⟩;rw [Nat.zero_add,World.cell?_alloc_mark]
 simpa [zo] using hj
theorem qF (w:World) (x y:Nat) (e:TypeId):Nums (w.alloc (.cells #[.int .i64 ((x:Int)+(y:Int))] e)) (.slice (some ⟨w.heap.size,0,none⟩) 1 1) [x+y]:=by
 rw [←Int.natCast_add];exact WS w (x+y) e
theorem kA (w:World) (e:TypeId):(w.alloc (.cells #[] e)).drew.ownsRow w.heap.size e 1 (.slice (some ⟨w.heap.size,0,none⟩) 0 0) 0 (zo []):=(py w w.heap.size (Nat.le_refl _) e).drew
theorem kz (w:World) (e:TypeId) (o:Obj):((w.alloc (.cells #[] e)).alloc o).drew.ownsRow w.heap.size e 1 (.slice (some ⟨w.heap.size,0,none⟩) 0 0) 0 (zo []):=((py w w.heap.size (Nat.le_refl _) e).alloc o).drew
theorem ky (w:World) (e:TypeId) (o:Obj):((w.alloc o).alloc (.cells #[] e)).drew.ownsRow w.heap.size e 1 (.slice (some ⟨w.heap.size+1,0,none⟩) 0 0) 0 (zo []):=by
 have h:=(py (w.alloc o) w.heap.size (by simp) e).drew;rw [World.size_alloc] at h;exact h
theorem Pv {w w':World} {o:Obj} {x y n c:Nat} {e:TypeId} (hg:((w.alloc o).alloc (.cells #[.int .i64 ((x:Int)+(y:Int))] e)).drew.grownBy w' (Value.slice (some ⟨w.heap.size,0,none⟩) n c).ownBlock):Nums w' (.slice (some ⟨w.heap.size+1,0,none⟩) 1 1) [x+y]:=by
 have h:=qF (w.alloc o) x y e;rw [World.size_alloc] at h;exact (h.below (Below.refl _ _).drew).kept hg (by simp [Value.ownBlock])
theorem Pu {w w':World} {o:Obj} {x y n c:Nat} {e:TypeId} (hg:((w.alloc (.cells #[.int .i64 ((x:Int)+(y:Int))] e)).alloc o).drew.grownBy w' (Value.slice (some ⟨w.heap.size+1,0,none⟩) n c).ownBlock):Nums w' (.slice (some ⟨w.heap.size,0,none⟩) 1 1) [x+y] :=
 ((qF w x y e).below ((Below.refl _ _).alloc (Nat.le_refl _) _).drew).kept hg (by simp [Value.ownBlock])
theorem QJ {w w':World} {o:Obj} {z n c:Nat} (hg:(w.alloc o).drew.grownBy w' (Value.slice (some ⟨z,0,none⟩) n c).ownBlock) (hz:w.heap.size≤z):Below w.heap.size w w' :=
 (((Below.refl w.heap.size w).alloc (Nat.le_refl _) o).drew).grown hg (by simp) (fun k hk=>by simp [Value.ownBlock] at hk;omega)
theorem Vi {w w':World} {o o':Obj} {z n c:Nat} (hg:((w.alloc o).alloc o').drew.grownBy w' (Value.slice (some ⟨z,0,none⟩) n c).ownBlock) (hz:w.heap.size≤z):Below w.heap.size w w' :=
 ((((Below.refl w.heap.size w).alloc (Nat.le_refl _) o).alloc (by simp) o').drew).grown hg (by simp;omega) (fun k hk=>by simp [Value.ownBlock] at hk;omega)
theorem Vh {w a b:World} {base n m:Nat} {e:TypeId} {v:Value} {xs:List Value} (hb:Below base w a) (hB:base≤w.heap.size) (ho:a.ownsRow base e m v n xs) (hg:a.grownBy b v.ownBlock):Below base w b :=
 hb.grown hg (Nat.le_trans hB hb.size) (fun k hk=>(ho.lt k hk).1)
theorem QI {w a b:World} {base n m:Nat} {e:TypeId} {v:Value} {xs:List Value} {o:Obj} (hb:Below base w a) (hB:base≤w.heap.size) (ho:a.ownsRow base e m v n xs) (hg:(a.alloc o).grownBy b v.ownBlock):Below base w b :=
 (hb.alloc (Nat.le_trans hB hb.size) o).grown hg (by rw [World.size_alloc];exact Nat.le_succ_of_le (Nat.le_trans hB hb.size)) (fun k hk=>(ho.lt k hk).1)
end Hs
namespace Go.Proofs.YtbnnlkdhpifpeaaGreatDoor
open Go.RowKit Hs
theorem jw:(Tryz.prog.info? 3).map (fun i=>(i.zero,i.size,i.bytes))=some (some (.int .i64 0),1,8):=by kernel_rfl
theorem jh (w:World) (ty:TypeId) (base:Nat) (v:Value) (n:Nat) (xs:List Nat) (hown:w.ownsRow base 3 1 v n (zo xs)) (xv:Value) (r:List Nat) (hr:Nums w xv r) (h1:n+r.length≤1000000) (hb:base≤w.heap.size) :
  ∃ v' w',(Builtin.append_ #[22,22] ty #[v,xv]).run Tryz.prog w= .ok v' w'∧w'.ownsRow base 3 1 v' (n+r.length) (zo (xs++r))∧w.grownBy w' v.ownBlock:=by
 obtain ⟨iN0,iN⟩:=info_parts jw;obtain ⟨ar,c,rfl,hn,hm,hc⟩:=hr.open;rcases Nat.eq_zero_or_pos r.length with h0 | hpos
 ·obtain rfl:r=[]:=List.eq_nil_of_length_eq_zero h0;refine ⟨v,w,?_,by simpa [zo] using hown,⟨rfl,rfl,rfl,Nat.le_refl _,fun _ _ _=>rfl⟩⟩;rcases hown.2 with ⟨rfl,rfl⟩ | ⟨g,cap,cur,rfl,_,_,hnc,_⟩<;>cases ar <;>
   simp [Builtin.append_,run_underlying Tryz.underlying22,sizeOf,typeInfo,iN.1,Builtin.lenOf,Builtin.firstCells,loadCells,loadCellsFrom,storeCells, *]
 obtain ⟨b,off,rfl,hlt,hcell⟩:=hc hpos;have hnews:∀ j u,(zo r)[j]? =some u→w.cell? ((⟨b,off,none⟩:Addr).add j)=some u:=by
  intro j u hj;obtain ⟨h,e⟩:=List.getElem?_eq_some_iff.1 hj;have hjl:j<r.length:=by simpa using h
  rw [dx,hcell j hjl,←e];simp [zo]
 obtain ⟨v',w',h2,h3,h4,_⟩:=run_append_own (P:=Tryz.prog) w base 22 ty 3 iN0 (.int .i64 0) 1 8 Tryz.underlying22 iN.1 iN.2.1 iN.2.2.1 iN.2.2.2 rfl (by decide) v n (zo xs) hown ⟨b,off,none⟩ r.length c (zo r) (by simp) hnews (rV r) (by unfold maxLen;omega) (by omega) hb;exact ⟨v',w',h2,by rw [uL];exact h3,h4⟩
theorem yA {ops:Array Oper} {o:Oper} {a:Act} {w:World} {K:Act→World→Prop} {Q:Exit→Act→World→Prop} {E:Prop} (hgd:o.guard=none) (s x:Operand)
  (ho:o.op= .call { callee:= .builtin .append,args:=#[s,x],argTypes:=#[22,22] })
  (base:Nat) (v:Value) (n:Nat) (xs:List Nat) (hs:a.eval s=v) (hown:w.ownsRow base 3 1 v n (zo xs)) (xv:Value) (hx:a.eval x=xv) (r:List Nat) (hr:Nums w xv r) (h1:n+r.length≤1000000) (hb:base≤w.heap.size)
  (h:∀ v' w',w'.ownsRow base 3 1 v' (n+r.length) (zo (xs++r))→w.grownBy w' v.ownBlock→K (a.put o.dst v') w'):if Region.wanted o (yielded ops a.tmps)=true then Oper.wp Tryz.prog o a w K Q else E:=by
 have hw:Region.wanted o (yielded ops a.tmps)=true:=by simp [Region.wanted,hgd]
 rw [if_pos hw];obtain ⟨v',w',hrun,h2,h3⟩:=jh w o.type base v n xs hown xv r hr h1 hb;unfold Oper.wp execOp;simp only [ho,resolve,invoke,builtin,Sem.run_bind,Sem.run_pure,Result.andThen_ok,List.map_toArray,List.map_cons,List.map_nil,hs,hx,hrun];exact h v' w' h2 h3
end Go.Proofs.YtbnnlkdhpifpeaaGreatDoor
namespace Hs
open Go
def zg (c:UInt8):Bs→List Bs
 | []=>[[]]
 | b::r=>if b=c then []::zg c r else match zg c r with
  | h::t=>(b::h)::t
  | []=>[[b]]
theorem ww (c:UInt8):∀ l:Bs,zg c l≠[]
 | []=>by simp [zg]
 | b::r=>by
  unfold zg;split
  ·simp
  split<;>simp
theorem uq (c:UInt8):∀ a:Bs,(∀ x∈a,x≠c)→zg c a=[a]
 | [],_=>rfl
 | b::r,h=>by
  have ih:=uq c r (fun x hx=>h x (List.mem_cons_of_mem _ hx));unfold zg;rw [if_neg (h b (List.mem_cons_self ..)),ih]
theorem pk (c:UInt8) (r:Bs):∀ a:Bs,(∀ x∈a,x≠c)→zg c (a++c::r)=a::zg c r
 | [],_=>by simp [zg]
 | b::a,h=>by
  have ih:=pk c r a (fun x hx=>h x (List.mem_cons_of_mem _ hx));rw [List.cons_append,zg,if_neg (h b (List.mem_cons_self ..)),ih]
theorem jP (c:UInt8):∀ l:Bs,Lib.splitK [c] 0 (Lib.count l [c]) l=zg c l
 | []=>by
  have h:Lib.count [] [c]=0:=by rw [Lib.count_one];rfl
  rw [h];rfl
 | b::l=>by
  have ih:=jP c l;by_cases hb:b=c
  ·subst hb;rw [Lib.count_cons_eq,Nat.add_comm,Lib.splitK,zg,if_pos rfl];have hix:Lib.index (b::l) [b]=0:=by rw [Lib.index];simp
   rw [hix,if_neg (by decide)];simp only [Int.toNat_zero,List.length_singleton,Nat.zero_add,List.drop_succ_cons,List.drop_zero,Nat.add_zero,List.take_zero];rw [ih]
  rw [Lib.count_cons_ne b c l hb,zg,if_neg hb];have hp:([c]:Bs).isPrefixOf (b::l)=false:=by
   simp only [List.isPrefixOf,Bool.and_true];exact beq_eq_false_iff_ne.2 (fun e=>hb e.symm)
  have hix:Lib.index (b::l) [c]=if Lib.index l [c]== -1 then -1 else Lib.index l [c]+1:=by rw [Lib.index,hp];simp
  rw [←ih];cases hn:Lib.count l [c] with
  | zero=>rfl
  | succ k =>
   have hge:=Lib.index_ge l [c];by_cases hm:Lib.index l [c]= -1
   ·rw [Lib.splitK,Lib.splitK,hix,hm];rfl
   have e1:¬ (Lib.index l [c]== -1)=true:=fun e=>hm (beq_iff_eq.1 e);have e2:¬ (Lib.index (b::l) [c]== -1)=true:=fun e=>by have:=beq_iff_eq.1 e;rw [hix,if_neg e1] at this;omega
   have e3:(Lib.index (b::l) [c]).toNat=(Lib.index l [c]).toNat+1:=by rw [hix,if_neg e1];omega
   rw [Lib.splitK,Lib.splitK,if_neg e1,if_neg e2,e3];simp
theorem gR (c:UInt8) (l:Bs):Lib.split l [c]=zg c l:=jP c l
def yO (b:UInt8):Nat:=if 48≤b.toNat∧b.toNat≤57 then b.toNat - 48 else if 97≤b.toNat∧b.toNat≤102 then b.toNat - 87 else if 65≤b.toNat∧b.toNat≤70 then b.toNat - 55 else 99
def yt (base:Nat):Bs→Nat→Nat
 | [],n=>n
 | b::r,n=>yt base r (min (n*base+yO b) 1099511627776)
def bT (base:Nat):Bs→Nat→Nat
 | [],n=>n
 | b::r,n=>bT base r (n*base+yO b)
theorem Zr (base:Nat) (h:1≤base):∀ (l:Bs) (v:Nat),yt base l (min v 1099511627776)=min (bT base l v) 1099511627776
 | [],v=>rfl
 | b::r,v=>by
  have ih:=Zr base h r (v*base+yO b);rw [yt,bT,←ih]
  congr 1
  by_cases hv:v≤1099511627776
  ·rw [Nat.min_eq_left hv]
  have e1:1099511627776≤v*base:=Nat.le_trans (by omega) (Nat.le_mul_of_pos_right v h);have e2:1099511627776≤1099511627776*base:=Nat.le_mul_of_pos_right _ h;rw [Nat.min_eq_right (by omega:1099511627776≤v)];omega
theorem V0 (base:Nat) (h:1≤base) (l:Bs):yt base l 0=min (bT base l 0) 1099511627776:=Zr base h l 0
theorem gW (base:Nat):∀ (l:Bs) (b:UInt8) (n:Nat),yt base (l++[b]) n=min (yt base l n*base+yO b) 1099511627776
 | [],b,n=>rfl
 | c::l,b,n=>by simp only [List.cons_append,yt];exact gW base l b _
theorem wz (base:Nat) (l:Bs) (k:Nat) (h:k<l.length):yt base (l.take (k+1)) 0=min (yt base (l.take k) 0*base+yO l[k]) 1099511627776:=by
 rw [List.take_succ_eq_append_getElem h,gW]
theorem Rx (base:Nat) (h:1≤base) (l:Bs):yt base l 0≤1099511627776:=by rw [V0 base h];omega
def zV (base:Nat) (l:Bs):Bool:=l.all fun b=>decide (yO b<base)
def yu (base:Nat) (l:Bs):Nat × Bool:=if zV base l then (yt base l 0,true) else (0,false)
def wV (l:Bs):Bool:=match l with
 | a::b::_=>decide (a=48∧(b=120∨b=88))
 | _=>false
def zL (l:Bs):Nat × Bool :=
 if l=[] then (0,false)
 else if wV l then yu 16 (l.drop 2)
 else if 1<l.length∧l[0]? =some 48 then yu 8 (l.drop 1)
 else yu 10 l
def zZ (l:Bs):List Bs:=if 1<(zg 46 l).length∧(zg 46 l).getLast? =some [] then (zg 46 l).dropLast else zg 46 l
theorem bf (base:Nat) (h:1≤base) (l:Bs):(yu base l).1≤1099511627776:=by
 unfold yu;split
 ·exact Rx base h l
 exact Nat.zero_le _
theorem ju (l:Bs):(zL l).1≤1099511627776:=by
 unfold zL;split
 ·exact Nat.zero_le _
 split
 ·exact bf 16 (by decide) _
 split
 ·exact bf 8 (by decide) _
 exact bf 10 (by decide) _
theorem vW (c:UInt8):∀ (l:Bs),∀ x∈zg c l,x.length≤l.length
 | [],x,hx=>by simp [zg] at hx;simp [hx]
 | b::r,x,hx=>by
  have ih:=vW c r;unfold zg at hx;split at hx
  ·rcases List.mem_cons.1 hx with rfl | h
   ·simp
   have:=ih x h;simp;omega
  split at hx
  ·rename_i h t he;rcases List.mem_cons.1 hx with rfl | h2
   ·have:=ih h (by rw [he];simp);simp;omega
   have:=ih x (by rw [he];exact List.mem_cons_of_mem _ h2);simp;omega
  simp at hx;subst hx;simp
theorem Xy {l x:Bs} (h:x∈zZ l):x∈zg 46 l:=by
 unfold zZ at h;split at h
 ·exact (List.dropLast_sublist _).subset h
 exact h
theorem rP (l:Bs):∀ x∈zZ l,x.length≤l.length:=fun x h=>vW 46 l x (Xy h)
theorem rK (l:Bs):0<(zg 46 l).length:=List.length_pos_iff.2 (ww 46 l)
theorem tz (l:Bs):0<(zZ l).length:=by
 have:=rK l;unfold zZ;split
 ·rw [List.length_dropLast];omega
 exact this
def Rr (p:Bs):Option Nat:=if (yu 10 p).2=true∧(yu 10 p).1≤255∧Lib.decDigits (yu 10 p).1=p then some (yu 10 p).1 else none
theorem Rq {p:Bs} {n:Nat} (h:Rr p=some n):n≤255:=by
 unfold Rr at h;split at h
 ·rename_i h2;cases h;exact h2.2.1
 cases h
def Ts:List Bs→Nat→Option Nat
 | [],v=>some v
 | p::r,v=>match Rr p with
  | some n=>Ts r (v*256+n)
  | none=>none
def cV:Option Nat→Nat × Bool
 | some v=>(v,true)
 | none=>(0,false)
def ku (l:Bs):Nat × Bool:=if (zg 46 l).length=4 then cV (Ts (zg 46 l) 0) else (0,false)
def yb (free:Nat):List Bs→Nat→Option Nat
 | [],v=>some v
 | [p],v=>if (zL p).2=true∧(zL p).1<2 ^ free then some (v*2 ^ free+(zL p).1) else none
 | p::q::r,v=>if (zL p).2=true∧(zL p).1≤255 then yb free (q::r) (v*256+(zL p).1) else none
def qE (l:Bs):Nat × Bool:=if (zZ l).length≤4 then cV (yb (8*(5 - (zZ l).length)) (zZ l) 0) else (0,false)
def yz (l:Bs):Bool :=
 let p:=((zZ l).getLast?).getD []
 if wV p then (zL p).2 else (yu 10 p).2&& !p.isEmpty
def XY (v:Nat):Bs:=Lib.decDigits (v / 16777216 % 256)++46::(Lib.decDigits (v / 65536 % 256)++46::(Lib.decDigits (v / 256 % 256)++46::Lib.decDigits (v % 256)))
def ut (l:Bs):Bool:=match wR l with
 | none=>false
 | some p=> !(p.any (fun n=>decide (65≤n∧n≤90)))&&p.any (fun n=>decide (128≤n))&&decide (se p=some l)
def t8 (b:UInt8):Bool:=decide ((97≤b.toNat∧b.toNat≤122)∨(48≤b.toNat∧b.toNat≤57)∨b.toNat=45∨b.toNat=95)
def zY (l:Bs):Bool:=decide (1≤l.length∧l.length≤63∧l.head? ≠some 45∧l.getLast? ≠some 45)&&l.all t8&&(!(decide (l.take 4=[120,110,45,45]))||ut (l.drop 4))
def zG (l:Bs):Bool:=decide (l.length≤253)&& !(yz l)&&(zg 46 l).all zY
end Hs
