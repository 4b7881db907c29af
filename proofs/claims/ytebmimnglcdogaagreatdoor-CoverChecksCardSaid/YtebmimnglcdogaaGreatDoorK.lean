/- A part of the proof of a given statement: contracts of functions of the program, under no condition but those that each states. -/
import Derived.Test.YtebmimnglcdogaaGreatDoorS1
import Derived.Test.YtebmimnglcdogaaGreatDoorFpE
set_option linter.unusedSimpArgs false
set_option linter.unusedVariables false
namespace Go.Proofs.YtebmimnglcdogaaGreatDoor.Ck
open Go Fp
set_option maxRecDepth 10000
theorem zNL {l:List Tp} {k:Nat} (h:k<l.length):(zQ l)[k]? = some (eTy l[k]):=by
 simp[zQ,h]
theorem zIY (l:List Tp):Uni 4 (zQ l):=fun a ha=>by
 obtain⟨x,_,rfl⟩:=List.mem_map.1 ha;rfl
theorem z2I {l:List Tp} {k:Nat} (h:k<l.length):zQ (l.take k)++[eTy l[k]]=zQ (l.take (k+1)):=by
 rw[List.take_succ_eq_append_getElem h];unfold zQ;rw[List.map_append];rfl
theorem zTD (t:Tp):t.args.length<=2:=by cases t<;>simp[Tp.args]
theorem yB {n:Nat} (h:n<9223372036854775808):IntKind.i64.wrap (n:Int)=n:=by
 simp[IntKind.wrap,IntKind.signed,IntKind.bits,Int.bmod];omega
theorem wrap_succ {k:Nat} (h:k+1<9223372036854775808):IntKind.i64.wrap ((k:Int)+1)=((k+1:Nat):Int):=by
 have:=yB h;simpa using this
theorem zJ0 (t:Tp) (ih:∀a∈t.args,zB Tryz.prog zC2 [eTy a] (eTy a)):zB Tryz.prog zC2 [eTy t] (eTy t):=by
 refine zD ttok mixed Tryz.func54 rfl (by rfl) (Nat.le_of_ble_eq_true rfl) (by kernel_rfl) ?_;refine⟨{k:Nat // k<=t.args.length},fun k=>{vs:=[(1,.box 0 (eTy t)),(2,.box 0 (eTy .no)),(3,.v (.sl (zQ (t.args.take k.1)))),(7,.v (.sl t.eArgs)),(8,.v (.lit (.int .i64 (t.eArgs.length:Nat)))),(9,.v (.lit (.int .i64 (k.1:Nat))))],ow:=[(3,0,5)]},
  fun k=>t.args.length-k.1,⟨0,Nat.zero_le _⟩,⟨⟨rfl,rfl,rfl,rfl,rfl,rfl,trivial⟩,⟨trivial,trivial⟩,rfl⟩,?_⟩
 rintro⟨k,hk⟩;have hlen:t.eArgs.length=t.args.length:=by rw[t.eArgs_eq];simp[zQ]
 have h2:=zTD t;refine⟨fun h=>?_,fun h=>?_⟩
 ·have h:k<t.args.length:=by simp[hlen] at h;omega
  refine⟨eTy t.args[k],by simp,by rw[t.eArgs_eq];exact zNL h,rfl,?_⟩;refine .inl ⟨_,ih _ (List.getElem_mem h),?_⟩;refine⟨by simp[zQ];omega,zIY _,zIY [_],?_⟩;refine⟨⟨k+1,h⟩,by simp;omega,⟨rfl,rfl,?_,rfl,rfl,?_,trivial⟩,⟨rfl,trivial⟩,rfl⟩
  ·exact congrArg (fun l=>SV.v (AV.sl l)) (z2I h)
  ·exact congrArg (fun l=>SV.v (AV.lit (Value.int .i64 l))) (wrap_succ (k:=k) (by omega))
 ·have h:k=t.args.length:=by simp[hlen] at h;omega
  subst h;have:zQ (t.args.take t.args.length)=t.eArgs:=by rw[List.take_length,t.eArgs_eq]
  show AV.agg [_,_,_,AV.sl (zQ (t.args.take t.args.length))]=_;rw[this];rfl
theorem qN (t:Tp):zB Tryz.prog zC2 [eTy t] (eTy t):=by
 induction t with
 | app a b iha ihb=>exact zJ0 _ (by simp[Tp.args];exact⟨iha,ihb⟩)
 | all s a ih=>exact zJ0 _ (by simp[Tp.args];exact ih)
 | _=>exact zJ0 _ (by simp[Tp.args])
theorem wrap_in {n:Int} (h:InR n):IntKind.i64.wrap n=n:=by
 unfold InR at h;simp[IntKind.wrap,IntKind.signed,IntKind.bits];omega
theorem zVG {l:List Int} {k:Nat} (h:k<l.length):(eIs l)[k]? = some (.lit (.int .i64 l[k])):=by simp[eIs,h]
theorem zKW {l:List ByteArray} {k:Nat} (h:k<l.length):(eSs l)[k]? = some (.lit (.string l[k])):=by simp[eSs,h]
theorem z3K (l:List Int):Uni 1 (eIs l):=fun a ha=>by obtain⟨x,_,rfl⟩:=List.mem_map.1 ha;rfl
theorem jU (l:List ByteArray):Uni 1 (eSs l):=fun a ha=>by obtain⟨x,_,rfl⟩:=List.mem_map.1 ha;rfl
theorem zCV {x:AV} {n:Nat} (h:x.cells.length=n):Uni n [x]:=fun a ha=>by simp at ha;subst ha;exact h
theorem z5Z (n:Nat):Uni n []:=fun a ha=>by simp at ha
set_option maxHeartbeats 4000000
def partsOf:Tp->Tp×Tp×Bool
 | .app (.app f a) b=>if f.form=3/\f.nam=arrow then (a,b,true) else (.no,.no,false)
 | _=>(.no,.no,false)
theorem zY5 (t:Tp):zB Tryz.prog zKY [eTy t] (.tup [eTy (partsOf t).1,eTy (partsOf t).2.1,.sb (partsOf t).2.2]):=by
 refine zD ttok mixed Tryz.func146 rfl (by rfl) (Nat.le_of_ble_eq_true rfl) (by kernel_rfl) ?_;refine⟨fun h=>?_,fun h=>?_⟩
 ·obtain⟨x,y,rfl⟩:=Tp.is_app (t:=t) (by simpa using h);refine⟨_,by decide,rfl,rfl,?_⟩;refine⟨fun h=>?_,fun h=>?_⟩
  ·have hx:¬x.form=4:=by simpa using h
   have e:partsOf (.app x y)=(.no,.no,false):=by cases x<;>first|rfl|exact absurd rfl hx
   rw[e];exact rfl
  ·obtain⟨f,z,rfl⟩:=Tp.is_app (t:=x) (by simpa using h);refine⟨_,by decide,rfl,rfl,?_⟩;refine⟨_,by decide,rfl,rfl,?_⟩;refine⟨fun h=>?_,fun h=>?_⟩
   ·have hf:f.form=3:=by simpa using h
    refine⟨fun h=>?_,fun h=>?_⟩
    ·have e:partsOf (.app (.app f z) y)=(.no,.no,false):=by simp at h;simp[partsOf,hf,h]
     rw[e];exact rfl
    ·have e:partsOf (.app (.app f z) y)=(z,y,true):=by simp at h;simp[partsOf,hf,h]
     rw[e];refine⟨_,by decide,rfl,rfl,?_⟩;refine⟨_,by decide,rfl,rfl,?_⟩;refine⟨_,by decide,rfl,rfl,?_⟩;exact rfl
   ·have hf:¬f.form=3:=by simpa using h
    have e:partsOf (.app (.app f z) y)=(.no,.no,false):=by simp[partsOf,hf]
    rw[e];exact rfl
 ·have e:partsOf t=(.no,.no,false):=by cases t<;>first|(simp[Tp.form] at h;done)|rfl
  rw[e];exact rfl
theorem con_mk (s:ByteArray):zB Tryz.prog zO4 [.lit (.string s)] (eTy (.con s)):=by
 refine zD ttok mixed Tryz.func56 rfl (by rfl) (Nat.le_of_ble_eq_true rfl) (by kernel_rfl) ?_;exact rfl
theorem var_mk (s:ByteArray):zB Tryz.prog zPL [.lit (.string s)] (eTy (.var s)):=by
 refine zD ttok mixed Tryz.func113 rfl (by rfl) (Nat.le_of_ble_eq_true rfl) (by kernel_rfl) ?_;exact rfl
theorem zFN (a b:Tp):zB Tryz.prog zK5 [eTy a,eTy b] (eTy (.app a b)):=by
 refine zD ttok mixed Tryz.func55 rfl (by rfl) (Nat.le_of_ble_eq_true rfl) (by kernel_rfl) ?_;exact rfl
theorem z1S (t:Tp):t.eArgs.length=t.args.length:=by rw[t.eArgs_eq];simp[zQ]
def appAllT (f:Tp) (l:List Tp):Tp:=l.foldl .app f
def funT (to:Tp) (l:List Tp):Tp:=l.foldr (fun a o => .app (.app (.con arrow) a) o) to
theorem zKS (t:Tp):0<t.sz:=by cases t<;>simp[Tp.sz]<;>omega
def ixI {α:Type} [DecidableEq α] (l:List α) (s:α):Int:=if s∈l then (l.idxOf s:Nat) else -1
theorem zRH {α:Type} [DecidableEq α] {l:List α} {s:α} {k:Nat} (hk:k<l.length) (h:l[k]=s) (hn:∀j,j<k->l[j]?≠some s):ixI l s=(k:Nat):=by
 have hm:s∈l:=h ▸ List.getElem_mem hk;rw[ixI,if_pos hm];have h1:l.idxOf s<l.length:=List.idxOf_lt_length_iff.2 hm;have h2:l[l.idxOf s]=s:=List.getElem_idxOf h1;rcases Nat.lt_trichotomy (l.idxOf s) k with q|q|q
 ·exact absurd (by rw[List.getElem?_eq_getElem h1,h2]) (hn _ q)
 ·rw[q]
 ·have:=List.not_of_lt_findIdx (p:=(· == s)) (xs:=l) (i:=k) q;simp[h] at this
theorem zEU {α:Type} {l:List α} {s:α} (hn:∀j,j<l.length->l[j]?≠some s):s∉l:=fun hm=>by
 obtain⟨j,hj,he⟩:=List.getElem_of_mem hm;exact hn j hj (by rw[List.getElem?_eq_getElem hj,he])
theorem zNO {α:Type} [DecidableEq α] {l:List α} {s:α} (hn:s∉l):ixI l s = -1:=by rw[ixI,if_neg hn]
def memb {α:Type} [DecidableEq α] (s:α) (l:List α):Bool:=decide (s∈l)
theorem zJ9 {α:Type} [DecidableEq α] {s:α} {l:List α} (h:s∈l):memb s l=true:=decide_eq_true h
theorem zMW {α:Type} [DecidableEq α] {s:α} {l:List α} (h:s∉l):memb s l=false:=decide_eq_false h
theorem memb_iff {α:Type} [DecidableEq α] {s:α} {l:List α}:memb s l=true↔s∈l:=decide_eq_true_iff
theorem z2W {α:Type} [DecidableEq α] (l:List α) (s:α):decide (0<=ixI l s)=memb s l:=by
 unfold ixI memb;split<;>rename_i h
 ·rw[decide_eq_true h];exact decide_eq_true (Int.natCast_nonneg _)
 ·rw[decide_eq_false h];rfl
theorem zT7 {α:Type} {l:List α} {s:α} {k:Nat} (hk:k<l.length) (h:l[k]≠s) (hn:∀j,j<k->l[j]?≠some s):∀j,j<k+1->l[j]?≠some s:=fun j hj=>by
 rcases Nat.lt_or_ge j k with q|q
 ·exact hn j q
 ·obtain rfl:j=k:=by omega
  rw[List.getElem?_eq_getElem hk];intro e;injection e with e;exact h e
theorem zFF {l:List ByteArray} {s:ByteArray} (hl:l.length<9223372036854775807):zB Tryz.prog zAH [.sl (eSs l),.lit (.string s)] (.lit (.int .i64 (ixI l s))):=by
 refine zD ttok mixed Tryz.func83 rfl (by rfl) (Nat.le_of_ble_eq_true rfl) (by kernel_rfl) ?_;refine⟨{k:Nat // k<=l.length/\∀j,j<k->l[j]?≠some s},fun k=>{vs:=[(0,.v (.sl (eSs l))),(1,.v (.lit (.string s))),(7,.v (.lit (.int .i64 ((eSs l).length:Nat)))),(8,.v (.lit (.int .i64 (k.1:Nat))))],ow:=[]},
  fun k=>l.length-k.1,⟨0,Nat.zero_le _,fun j hj=>absurd hj (by omega)⟩,⟨⟨rfl,rfl,rfl,rfl,trivial⟩,trivial,rfl⟩,?_⟩
 rintro⟨k,hk,hn⟩;have hlen:(eSs l).length=l.length:=by simp[eSs]
 refine⟨fun h=>?_,fun h=>?_⟩
 ·have h:k<l.length:=by simp[hlen] at h;omega
  refine⟨_,by omega,zKW h,rfl,?_⟩;refine⟨fun h2=>?_,fun h2=>?_⟩
  ·have h2:l[k]=s:=by simpa[eq_comm] using h2
   rw[zRH h h2 hn];exact rfl
  ·have h2:l[k]≠s:=by intro e;simp[e] at h2
   refine⟨⟨k+1,h,zT7 h h2 hn⟩,(show l.length-(k+1)<l.length-k by omega),⟨rfl,rfl,rfl,?_,trivial⟩,trivial,rfl⟩;exact congrArg (fun n=>SV.v (AV.lit (Value.int .i64 n))) (wrap_succ (k:=k) (by omega))
 ·have h:k=l.length:=by simp[hlen] at h;omega
  subst h;rw[zNO (zEU hn)];exact rfl
theorem xY {l:List ByteArray} {s:ByteArray} (hl:l.length<9223372036854775807):zB Tryz.prog jE [.sl (eSs l),.lit (.string s)] (.sb (memb s l)):=by
 refine zD ttok mixed Tryz.func111 rfl (by rfl) (Nat.le_of_ble_eq_true rfl) (by kernel_rfl) ?_;refine .inl ⟨_,zFF hl,?_⟩;rw[<-z2W];exact rfl
theorem all_mk (s:ByteArray) (t:Tp):zB Tryz.prog zQL [.lit (.string s),eTy t] (eTy (.all s t)):=by
 refine zD ttok mixed Tryz.func50 rfl (by rfl) (Nat.le_of_ble_eq_true rfl) (by kernel_rfl) ?_;refine .inl ⟨_,qN t,?_⟩;exact rfl
set_option maxRecDepth 100000
def dcm (n:Nat):ByteArray:=if h:n<10 then ⟨#[UInt8.ofNat (48+n)]⟩ else dcm (n / 10)++⟨#[UInt8.ofNat (48+n % 10)]⟩
termination_by n
theorem zBO {n:Nat} (h:n<10):dcm n=⟨#[UInt8.ofNat (48+n)]⟩:=by rw[dcm,dif_pos h]
theorem zIJ {n:Nat} (h:¬n<10):dcm n=dcm (n / 10)++⟨#[UInt8.ofNat (48+n % 10)]⟩:=by rw[dcm,dif_neg h]
theorem sz1 (x:UInt8):(ByteArray.mk #[x]).size=1:=rfl
theorem zP7:∀(k n:Nat),n<10 ^ k->0<k->(dcm n).size<=k
 | 0,n,h,hk=>by omega
 | k+1,n,h,_=>by
  by_cases h10:n<10
  ·rw[zBO h10,sz1];omega
  ·rw[zIJ h10,ByteArray.size_append,sz1];have hk:0<k:=by
    rcases Nat.eq_zero_or_pos k with rfl|h'
    ·simp at h;omega
    ·exact h'
   have:=zP7 k (n / 10) (by rw[Nat.pow_succ] at h;omega) hk;omega
theorem zR8 {a:Nat} (h1:¬a<10) (h2:a<100):dcm a=⟨#[UInt8.ofNat (48+a / 10),UInt8.ofNat (48+a % 10)]⟩:=by
 rw[zIJ h1,zBO (by omega)];rfl
def sm100:ByteArray:=⟨((List.range 100).flatMap fun i=>[UInt8.ofNat (48+i / 10),UInt8.ofNat (48+i % 10)]).toArray⟩
theorem zZL:∀i:Fin 100,sm100.extract (Int.toNat ((i.val*2:Nat):Int)) (Int.toNat ((i.val*2+2:Nat):Int))=⟨#[UInt8.ofNat (48+i.val / 10),UInt8.ofNat (48+i.val % 10)]⟩:=by decide +kernel
theorem zJ1 {n:Nat} (hn:n<100):zB Tryz.prog wZ [.lit (.int .i64 (n:Nat))] (.lit (.string (dcm n))):=by
 refine zD ttok mixed Tryz.func118 rfl (by rfl) (Nat.le_of_ble_eq_true rfl) (by kernel_rfl) ?_;have e1:IntKind.i64.wrap ((n:Int)+1)=((n+1:Nat):Int):=wrap_succ (by omega);have e2:IntKind.i64.wrap ((n:Int)*2)=((n*2:Nat):Int):=by rw[show (n:Int)*2=((n*2:Nat):Int) by omega];exact yB (by omega)
 have e3:IntKind.i64.wrap (IntKind.i64.wrap ((n:Int)*2)+2)=((n*2+2:Nat):Int):=by rw[e2,show ((n*2:Nat):Int)+2=((n*2+2:Nat):Int) by omega];exact yB (by omega)
 refine⟨fun h=>?_,fun h=>?_⟩
 ·have h:n<10:=by simp at h;omega
  refine⟨by omega,by rw[e1];omega,?_,?_⟩
  ·rw[e1];show ((n+1:Nat):Int)<=((36:Nat):Int);omega
  ·rw[e1];have:∀i:Fin 10,(ByteArray.mk #[48,49,50,51,52,53,54,55,56,57,97,98,99,100,101,102,103,104,105,106,107,108,109,110,111,112,113,114,115,116,117,118,119,120,121,122]).extract (Int.toNat (i.val:Int)) (Int.toNat ((i.val+1:Nat):Int))=⟨#[UInt8.ofNat (48+i.val)]⟩:=by decide +kernel
   have:=this ⟨n,h⟩;rw[zBO h,<-this];exact rfl
 ·have h:¬n<10:=by simp at h;omega
  refine⟨by rw[e2];omega,by rw[e3,e2];omega,?_,?_⟩
  ·rw[e3];show ((n*2+2:Nat):Int)<=((200:Nat):Int);omega
  ·rw[e3,e2];have hf:AV.lit (.string (sm100.extract (Int.toNat ((n*2:Nat):Int)) (Int.toNat ((n*2+2:Nat):Int))))=AV.lit (.string (dcm n)):=by
    rw[zR8 h hn];exact congrArg (fun s=>AV.lit (.string s)) (zZL ⟨n,hn⟩)
   refine Eq.trans (congrArg (fun s:ByteArray=>AV.lit (.string (s.extract (Int.toNat ((n*2:Nat):Int)) (Int.toNat ((n*2+2:Nat):Int))))) (?_:_=sm100)) hf
   kernel_rfl
theorem zNK {n:Nat} (hn:n<100):zB Tryz.prog zC0 [.lit (.int .i64 (n:Nat))] (.lit (.string (dcm n))):=by
 refine zD ttok mixed Tryz.func38 rfl (by rfl) (Nat.le_of_ble_eq_true rfl) (by kernel_rfl) ?_;refine .inl ⟨.lit (.string (dcm n)),?_,rfl⟩;refine zD ttok mixed Tryz.func72 rfl (by rfl) (Nat.le_of_ble_eq_true rfl) (by kernel_rfl) ?_;refine .inl ⟨.lit (.string (dcm n)),?_,rfl⟩;refine zD ttok mixed Tryz.func95 rfl (by rfl) (Nat.le_of_ble_eq_true rfl) (by kernel_rfl) ?_;refine⟨fun _=>?_,fun h=>(by simp at h)⟩;refine⟨fun _=>?_,fun h=>(by simp at h)⟩;refine⟨fun _=>?_,fun h=>(by simp at h;omega)⟩;refine .inl ⟨_,zJ1 hn,?_⟩;exact rfl
def lett (n:Nat):ByteArray:=if n<26 then ⟨#[UInt8.ofNat (97+n % 26)]⟩ else ⟨#[UInt8.ofNat (97+n % 26)]⟩++dcm (n / 26)
theorem z5L:∀i:Fin 26,Utf8.encode ((97+i.val:Nat):Int)=⟨#[UInt8.ofNat (97+i.val)]⟩:=by decide +kernel
theorem wrap32 {n:Nat} (h:n<256):IntKind.i32.wrap (n:Int)=n:=by
 simp[IntKind.wrap,IntKind.signed,IntKind.bits];omega
theorem zRO {n:Nat} (hn:n<2600):zB Tryz.prog zH5 [.lit (.int .i64 (n:Nat))] (.lit (.string (lett n))):=by
 refine zD ttok mixed Tryz.func131 rfl (by rfl) (Nat.le_of_ble_eq_true rfl) (by kernel_rfl) ?_;have e1:((n:Int).tmod 26)=((n % 26:Nat):Int):=rfl;have e2:IntKind.i64.wrap (97+(n:Int).tmod 26)=((97+n % 26:Nat):Int):=by rw[e1,show (97:Int)+((n % 26:Nat):Int)=((97+n % 26:Nat):Int) by omega];exact yB (by omega)
 have e3:Utf8.encode (IntKind.i32.wrap (IntKind.i64.wrap (97+(n:Int).tmod 26)))=⟨#[UInt8.ofNat (97+n % 26)]⟩:=by rw[e2,wrap32 (by omega)];exact z5L ⟨n % 26,by omega⟩
 have e4:IntKind.i64.wrap ((n:Int).tdiv 26)=((n / 26:Nat):Int):=by rw[show ((n:Int).tdiv 26)=((n / 26:Nat):Int) by simp];exact yB (by omega)
 refine⟨by decide,?_⟩;refine⟨fun h=>?_,fun h=>?_⟩
 ·have h:n<26:=by simp at h;omega
  show AV.lit (.string (Utf8.encode (IntKind.i32.wrap (IntKind.i64.wrap (97+(n:Int).tmod 26)))))=_;rw[e3,lett,if_pos h]
 ·have h:¬n<26:=by simp at h;omega
  have hc:=zNK (n:=n / 26) (by omega);rw[<-e4] at hc;refine⟨by decide,.inl ⟨_,hc,?_,?_⟩⟩
  ·have:=zP7 9 (n / 26) (by omega) (by decide);rw[e3,sz1];omega
  ·show AV.lit (.string (Utf8.encode (IntKind.i32.wrap (IntKind.i64.wrap (97+(n:Int).tmod 26)))++dcm (n / 26)))=_;rw[e3,lett,if_neg h]
section
variable {α:Type} [DecidableEq α]
def ins (p:α->Bool) (out:List α) (s:α):List α:=if s∈out∨p s=true then out else out++[s]
def insAll (p:α->Bool) (out l:List α):List α:=l.foldl (ins p) out
theorem zRK (p:α->Bool) (out:List α):insAll p out []=out:=rfl
theorem zP2 (p:α->Bool) (out l:List α) (s:α):insAll p out (s::l)=insAll p (ins p out s) l:=rfl
theorem zEF (p:α->Bool) (out l m:List α):insAll p out (l++m)=insAll p (insAll p out l) m:=by simp[insAll]
theorem zQM {p:α->Bool} {out l:List α} {k:Nat} (h:k<l.length):insAll p out (l.take (k+1))=ins p (insAll p out (l.take k)) l[k]:=by
 rw[List.take_succ_eq_append_getElem h,zEF];rfl
theorem z2G (p:α->Bool) (out:List α) (s x:α) (h:x∈out):x∈ins p out s:=by
 unfold ins;split
 ·exact h
 ·exact List.mem_append_left _ h
theorem zKU (p:α->Bool) (l:List α):∀(out:List α) (x:α),x∈out->x∈insAll p out l:=by
 induction l with
 | nil=>exact fun _ _ h=>h
 | cons s l ih=>exact fun out x h=>ih _ x (z2G p out s x h)
theorem z2F {p:α->Bool} {out:List α} {s x:α}:x∈ins p out s↔x∈out∨(x=s/\p s=false):=by
 unfold ins;split<;>rename_i h
 ·constructor
  ·exact .inl
  ·rintro (h1|⟨rfl,h2⟩)
   ·exact h1
   ·rcases h with h|h
    ·exact h
    ·rw[h2] at h;cases h
 ·simp only[not_or,Bool.not_eq_true] at h;simp only[List.mem_append,List.mem_singleton];constructor
  ·rintro (h1|rfl)
   ·exact .inl h1
   ·exact .inr ⟨rfl,h.2⟩
  ·rintro (h1|⟨rfl,_⟩)
   ·exact .inl h1
   ·exact .inr rfl
theorem zJO {p:α->Bool} {l:List α}:∀{out:List α} {x:α},x∈insAll p out l↔x∈out∨(x∈l/\p x=false):=by
 induction l with
 | nil=>simp[zRK]
 | cons s l ih =>
  intro out x;rw[zP2,ih,z2F];simp only[List.mem_cons];constructor
  ·rintro ((h|⟨rfl,h⟩)|⟨h1,h2⟩)
   ·exact .inl h
   ·exact .inr ⟨.inl rfl,h⟩
   ·exact .inr ⟨.inr h1,h2⟩
  ·rintro (h|⟨rfl|h1,h2⟩)
   ·exact .inl (.inl h)
   ·exact .inl (.inr ⟨rfl,h2⟩)
   ·exact .inr ⟨h1,h2⟩
theorem zVY {p:α->Bool} {out:List α} {s:α} (h:out.Nodup):(ins p out s).Nodup:=by
 unfold ins;split<;>rename_i q
 ·exact h
 ·simp only[not_or] at q;exact List.nodup_append.2 ⟨h,by simp,by rintro a ha b hb rfl;simp at hb;subst hb;exact q.1 ha⟩
theorem qL {p:α->Bool} {l:List α}:∀{out:List α},out.Nodup->(insAll p out l).Nodup:=by
 induction l with
 | nil=>exact id
 | cons s l ih=>exact fun h=>ih (zVY h)
def no:α->Bool:=fun _=>false
end
def fv:Tp->List ByteArray
 | .var s=>[s]
 | .app a b=>insAll no (insAll no [] (fv a)) (fv b)
 | .all s a=>insAll (fun x=>decide (x=s)) [] (fv a)
 | _=>[]
theorem zE9 (t:Tp):(fv t).Nodup:=by
 cases t with
 | var s=>simp[fv]
 | app a b=>exact qL (qL List.nodup_nil)
 | all s a=>exact qL List.nodup_nil
 | _=>exact List.nodup_nil
def mv:Tp->List Int
 | .mt n=>[n]
 | .app a b=>insAll no (insAll no [] (mv a)) (mv b)
 | .all _ a=>insAll no [] (mv a)
 | _=>[]
def fr:Tp->List ByteArray->List ByteArray->List ByteArray
 | .var s,g,out=>if memb s g || memb s out then out else out++[s]
 | .app a b,g,out=>fr b g (fr a g out)
 | .all s a,g,out=>fr a (g++[s]) out
 | _,_,out=>out
def jA (t:Tp):ByteArray->Bool:=fun x=>decide (t.form=5) && decide (x=t.nam)
def zH6 (p:ByteArray->Bool) (l:List Tp):List ByteArray:=l.foldl (fun out a=>insAll p out (fv a)) []
theorem zU1 {p:ByteArray->Bool} {l:List Tp} {k:Nat} (h:k<l.length):zH6 p (l.take (k+1))=insAll p (zH6 p (l.take k)) (fv l[k]):=by
 simp only[zH6,List.take_succ_eq_append_getElem h,List.foldl_append,List.foldl_cons,List.foldl_nil]
theorem zX4 (t:Tp) (h:¬t.form=2):fv t=zH6 (jA t) t.args:=by
 cases t with
 | var s=>exact absurd rfl h
 | app a b =>
  have:jA (.app a b)=no:=by funext x;simp[jA,Tp.form,no]
  rw[this];rfl
 | all s a =>
  have:jA (.all s a)=fun x=>decide (x=s):=by funext x;by_cases h:x=s<;>simp[jA,Tp.form,Tp.nam,h]
  rw[this];rfl
 | _=>rfl
theorem z6L {t:Tp} {N:Nat} (h:t.sz<=N+1):∀a∈t.args,a.sz<=N:=by
 cases t<;>simp[Tp.args,Tp.sz] at h⊢<;>omega
theorem zPH (l:List ByteArray) (s:ByteArray):eSs l++[.lit (.string s)]=eSs (l++[s]):=by simp[eSs]
theorem zT3 {p:ByteArray->Bool} {out:List ByteArray} {s:ByteArray} (h1:memb s out=false) (h2:p s=false):ins p out s=out++[s]:=by
 unfold ins;rw[if_neg];simp[h2];intro h;rw[zJ9 h] at h1;cases h1
theorem zX1 {p:ByteArray->Bool} {out:List ByteArray} {s:ByteArray} (h:memb s out=true∨p s=true):ins p out s=out:=by
 unfold ins;rw[if_pos];exact h.imp memb_iff.1 id
end Go.Proofs.YtebmimnglcdogaaGreatDoor.Ck
