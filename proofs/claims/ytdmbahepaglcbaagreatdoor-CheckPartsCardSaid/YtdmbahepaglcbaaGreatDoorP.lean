/- Steps that may each be taken. Plain. No condition. -/
import Derived.Test.YtdmbahepaglcbaaGreatDoorO
set_option linter.unusedSimpArgs false
set_option linter.unusedVariables false
namespace Go.Proofs.YtdmbahepaglcbaaGreatDoor
open Go Fp
set_option linter.unusedVariables false
set_option maxRecDepth 10000
set_option maxHeartbeats 8000000
def bud (n:Int):Nat:=(n-1).toNat
abbrev zDG (s:ByteArray):Cr := .node 2 0 s .no .nil
abbrev zWZ (n:Int):Cr := .node 3 n .empty .no .nil
abbrev zI6 (s:ByteArray) (t:Tp) (c:Cr):Cr := .node 5 0 s t (.kid c .nil)
abbrev zAT (a b:Cr):Cr := .node 4 0 .empty .no (.kid a (.kid b .nil))
abbrev xH (t:Tp) (a:Cr):Cr := .node 6 0 .empty t (.kid a .nil)
abbrev zBA (s:ByteArray) (a:Cr):Cr := .node 7 0 s .no (.kid a .nil)
theorem zUQ (n:Int):zG Tryz.prog zQO [.lit (.int .i64 n)] (eC (zWZ n)):=by
 refine zC ttok mixed Tryz.func48 rfl (by rfl) (Nat.le_of_ble_eq_true rfl) (by kernel_rfl) ?_;exact rfl
def zJ1 (c:Cr):Prop:=zG Tryz.prog xE [eC c] (eC c)
theorem zUJ {s:ByteArray} {t:Tp} {c:Cr} (ht:TyS t) (hc:zJ1 c):zG Tryz.prog zOT [str s,eTy t,eC c] (eC (zI6 s t c)):=by
 refine zC ttok mixed Tryz.func22 rfl (by rfl) (Nat.le_of_ble_eq_true rfl) (by kernel_rfl) ?_;refine .inl ⟨_,zLH ht,?_⟩;refine .inl ⟨_,hc,?_⟩;refine⟨by kernel_rfl,?_⟩;exact rfl
theorem zT8 {f:Cr} {l:List Cr} (hf:zJ1 f) (hl:∀c∈l,zJ1 c) (hlen:l.length<=1000000):zG Tryz.prog zO2 [eC f,.sl (eCs l)] (eC (l.foldl zAT f)):=by
 refine zC ttok mixed Tryz.func21 rfl (by rfl) (Nat.le_of_ble_eq_true rfl) (by kernel_rfl) ?_;refine .inl ⟨_,hf,?_⟩;refine⟨{k:Nat // k<=l.length},fun k=>{vs:=[(4,.box 0 eZ),(5,.box 0 (eC ((l.take k.1).foldl zAT f))),(10,.v (.sl (eCs l))),(11,sv (l.length:Nat)),(12,sv (k.1:Nat))]},fun k=>l.length-k.1,⟨0,Nat.zero_le _⟩,?_,?_⟩
 ·exact⟨⟨rfl,rfl,rfl,by show sv _=sv _;simp[eCs],rfl,trivial⟩,trivial,rfl⟩
 rintro⟨k,hk⟩;refine⟨fun h=>?_,fun h=>?_⟩
 ·have h:k<l.length:=by
   have h:=of_decide_eq_true h;simp only at h;omega
  refine⟨eC l[k],by omega,(by show (eCs l)[k]? = _;simp[eCs,List.getElem?_eq_getElem h]),rfl,?_⟩;refine .inl ⟨_,hl _ (List.getElem_mem h),?_⟩;refine⟨by kernel_rfl,?_⟩;refine⟨⟨k+1,h⟩,by simp;omega,⟨rfl,?_,rfl,rfl,svc (wrap_succ (k:=k) (by omega)),trivial⟩,trivial,rfl⟩;show SV.box 0 (eC (zAT ((l.take k).foldl zAT f) l[k]))=SV.box 0 (eC ((l.take (k+1)).foldl zAT f));rw[<-List.take_append_getElem h,List.foldl_append];rfl
 ·have h:k=l.length:=by
   have h:=of_decide_eq_false h;simp only at h;omega
  subst h;show eC (List.foldl zAT f (List.take l.length l))=_;rw[List.take_length]
theorem zS1 {f:Cr} {l:List Tp} (hf:zJ1 f) (hl:∀c∈l,TyS c) (hlen:l.length<=1000000):zG Tryz.prog zMH [eC f,.sl (zW l)] (eC (l.foldl (fun a t=>xH t a) f)):=by
 refine zC ttok mixed Tryz.func27 rfl (by rfl) (Nat.le_of_ble_eq_true rfl) (by kernel_rfl) ?_;refine .inl ⟨_,hf,?_⟩;refine⟨{k:Nat // k<=l.length},fun k=>{vs:=[(4,.box 0 eZ),(5,.box 0 (eC ((l.take k.1).foldl (fun a t=>xH t a) f))),(10,.v (.sl (zW l))),(11,sv (l.length:Nat)),(12,sv (k.1:Nat))]},fun k=>l.length-k.1,⟨0,Nat.zero_le _⟩,?_,?_⟩
 ·exact⟨⟨rfl,rfl,rfl,by show sv _=sv _;simp[zW],rfl,trivial⟩,trivial,rfl⟩
 rintro⟨k,hk⟩;refine⟨fun h=>?_,fun h=>?_⟩
 ·have h:k<l.length:=by
   have h:=of_decide_eq_true h;simp only at h;omega
  refine⟨eTy l[k],by omega,(by show (zW l)[k]? = _;simp[zW,List.getElem?_eq_getElem h]),rfl,?_⟩;refine .inl ⟨_,zLH (hl _ (List.getElem_mem h)),?_⟩;refine⟨by kernel_rfl,?_⟩;refine⟨⟨k+1,h⟩,by simp;omega,⟨rfl,?_,rfl,rfl,svc (wrap_succ (k:=k) (by omega)),trivial⟩,trivial,rfl⟩;show SV.box 0 (eC (xH l[k] ((l.take k).foldl (fun a t=>xH t a) f)))=SV.box 0 (eC ((l.take (k+1)).foldl (fun a t=>xH t a) f));rw[<-List.take_append_getElem h,List.foldl_append];rfl
 ·have h:k=l.length:=by
   have h:=of_decide_eq_false h;simp only at h;omega
  subst h;show eC (List.foldl (fun a t=>xH t a) f (List.take l.length l))=_;rw[List.take_length]
theorem zR6 {f:Cr} {l:List ByteArray} (hf:zJ1 f) (hlen:l.length<=1000000):zG Tryz.prog zMA [eC f,.sl (eSs l)] (eC (l.reverse.foldl (fun a s=>zBA s a) f)):=by
 refine zC ttok mixed Tryz.func26 rfl (by rfl) (Nat.le_of_ble_eq_true rfl) (by kernel_rfl) ?_;refine .inl ⟨_,hf,?_⟩;refine⟨{k:Nat // k<=l.length},fun k=>{vs:=[(1,.v (.sl (eSs l))),(4,.box 0 eZ),(5,.box 0 (eC ((l.reverse.take k.1).foldl (fun a s=>zBA s a) f))),(9,.v (.sl (eSs l))),(10,sv (l.length:Nat)),(11,sv (k.1:Nat))]},fun k=>l.length-k.1,⟨0,Nat.zero_le _⟩,?_,?_⟩
 ·exact⟨⟨rfl,rfl,rfl,rfl,by show sv _=sv _;simp[eSs],rfl,trivial⟩,trivial,rfl⟩
 rintro⟨k,hk⟩;refine⟨fun h=>?_,fun h=>?_⟩
 ·have h:k<l.length:=by
   have h:=of_decide_eq_true h;simp only at h;omega
  have hlr:k<l.reverse.length:=by simp;exact h
  have e1:l.reverse[k]=l[l.length-1-k]:=List.getElem_reverse hlr;have e2:IntKind.i64.wrap (IntKind.i64.wrap (((eSs l).length:Int)-1)-(k:Nat))=((l.length-1-k:Nat):Int):=by
   have:(eSs l).length=l.length:=by simp[eSs]
   have a1:IntKind.i64.wrap ((l.length:Int)-1)=(l.length:Int)-1:=wrap_in (by unfold InR;omega);rw[this,a1,wrap_in (by unfold InR;omega)];omega
  refine⟨str l[l.length-1-k],by simp only;rw[e2];omega,?_,rfl,?_⟩
  ·simp only;rw[e2];show (eSs l)[l.length-1-k]? = _;simp[eSs,List.getElem?_eq_getElem (show l.length-1-k<l.length by omega)]
  refine⟨by kernel_rfl,?_⟩;refine⟨⟨k+1,h⟩,by simp;omega,⟨rfl,rfl,?_,rfl,rfl,svc (wrap_succ (k:=k) (by omega)),trivial⟩,trivial,rfl⟩;show SV.box 0 (eC (zBA l[l.length-1-k] ((l.reverse.take k).foldl (fun a s=>zBA s a) f)))=SV.box 0 (eC ((l.reverse.take (k+1)).foldl (fun a s=>zBA s a) f));rw[<-List.take_append_getElem hlr,List.foldl_append,e1];rfl
 ·have h:k=l.length:=by
   have h:=of_decide_eq_false h;simp only at h;omega
  subst h;show eC (List.foldl (fun a s=>zBA s a) f (List.take l.length l.reverse))=_;rw[List.take_of_length_le (by simp)]
theorem z2W {α:Type} {f:α->AV} {l:List α} {k:Nat} (h:k<l.length):(l.map f)[k]? = some (f l[k]):=by simp[h]
def zVR (esz:Nat) (r:AV) (o:Nat) (h:List (Nat×HO)):Prop :=
 (r = .sl []/\o=esz+1/\h=[])∨(o=0/\∃b cap zs,r = .lit (.slice (some ⟨b,0,none⟩) 0 cap)/\h=[(b,HO.cells zs)]/\cap*esz<=zs.length)
theorem zHP {α:Type} {ls:List (List α)} {k:Nat} (h:k<ls.length):(ls.take (k+1)).flatten=(ls.take k).flatten++ls[k]:=by
 rw[List.take_succ_eq_append_getElem h,List.flatten_append];simp
theorem zHV {α:Type}:∀(ls:List (List α)) (k:Nat),(ls.take k).flatten.length<=ls.flatten.length
 | [],k=>by simp
 | l::ls,0=>by simp
 | l::ls,k+1=>by have:=zHV ls k;simp only[List.take_succ_cons,List.flatten_cons,List.length_append];omega
theorem zS4 {n:Nat} {ls:List (List AV)} (hu:∀l∈ls,Uni n l) (k:Nat):Uni n (ls.take k).flatten:=fun a ha=>by
 obtain⟨l,hl,h⟩:=List.mem_flatten.1 ha;exact hu l (List.mem_of_mem_take hl) a h
end Go.Proofs.YtdmbahepaglcbaaGreatDoor
