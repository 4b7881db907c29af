/- Steps that may each be taken. Plain. No condition. -/
import Derived.Test.YtdmbahepaglcbaaGreatDoorO
set_option linter.unusedSimpArgs false
set_option linter.unusedVariables false
namespace Go.Proofs.YtdmbahepaglcbaaGreatDoor
open Go Fp
set_option linter.unusedVariables false
set_option maxRecDepth 10000
set_option maxHeartbeats 8000000
def bud (n:Int):Nat:=(n-1).toNat
abbrev zPN (n:Int):Cr := .node 3 n .empty .no .nil
abbrev z1U (s:ByteArray) (t:Tp) (c:Cr):Cr := .node 5 0 s t (.kid c .nil)
abbrev zPJ (a b:Cr):Cr := .node 4 0 .empty .no (.kid a (.kid b .nil))
abbrev zH1 (t:Tp) (a:Cr):Cr := .node 6 0 .empty t (.kid a .nil)
abbrev zIR (s:ByteArray) (a:Cr):Cr := .node 7 0 s .no (.kid a .nil)
theorem zWP (n:Int):zC Tryz.prog zPV [.lit (.int .i64 n)] (eC (zPN n)):=by
 refine zB ttok mixed Tryz.func48 rfl (by rfl) (Nat.le_of_ble_eq_true rfl) (by kernel_rfl) ?_;exact rfl
def zKM (c:Cr):Prop:=zC Tryz.prog xE [eC c] (eC c)
theorem zVL {s:ByteArray} {t:Tp} {c:Cr} (ht:TyS t) (hc:zKM c):zC Tryz.prog zP1 [str s,eTy t,eC c] (eC (z1U s t c)):=by
 refine zB ttok mixed Tryz.func22 rfl (by rfl) (Nat.le_of_ble_eq_true rfl) (by kernel_rfl) ?_;refine .inl ⟨_,zMM ht,?_⟩;refine .inl ⟨_,hc,?_⟩;refine⟨by kernel_rfl,?_⟩;exact rfl
theorem zWC {f:Cr} {l:List Cr} (hf:zKM f) (hl:∀c∈l,zKM c) (hlen:l.length<=1000000):zC Tryz.prog zPK [eC f,.sl (eCs l)] (eC (l.foldl zPJ f)):=by
 refine zB ttok mixed Tryz.func21 rfl (by rfl) (Nat.le_of_ble_eq_true rfl) (by kernel_rfl) ?_;refine .inl ⟨_,hf,?_⟩;refine⟨{k:Nat // k<=l.length},fun k=>{vs:=[(4,.box 0 eZ),(5,.box 0 (eC ((l.take k.1).foldl zPJ f))),(10,.v (.sl (eCs l))),(11,sv (l.length:Nat)),(12,sv (k.1:Nat))]},fun k=>l.length-k.1,⟨0,Nat.zero_le _⟩,?_,?_⟩
 ·exact⟨⟨rfl,rfl,rfl,by show sv _=sv _;simp[eCs],rfl,trivial⟩,trivial,rfl⟩
 rintro⟨k,hk⟩;refine⟨fun h=>?_,fun h=>?_⟩
 ·have h:k<l.length:=by
   have h:=of_decide_eq_true h;simp only at h;omega
  refine⟨eC l[k],by omega,(by show (eCs l)[k]? = _;simp[eCs,List.getElem?_eq_getElem h]),rfl,?_⟩;refine .inl ⟨_,hl _ (List.getElem_mem h),?_⟩;refine⟨by kernel_rfl,?_⟩;refine⟨⟨k+1,h⟩,by simp;omega,⟨rfl,?_,rfl,rfl,svc (wrap_succ (k:=k) (by omega)),trivial⟩,trivial,rfl⟩;show SV.box 0 (eC (zPJ ((l.take k).foldl zPJ f) l[k]))=SV.box 0 (eC ((l.take (k+1)).foldl zPJ f));rw[<-List.take_append_getElem h,List.foldl_append];rfl
 ·have h:k=l.length:=by
   have h:=of_decide_eq_false h;simp only at h;omega
  subst h;show eC (List.foldl zPJ f (List.take l.length l))=_;rw[List.take_length]
theorem zUL {f:Cr} {l:List Tp} (hf:zKM f) (hl:∀c∈l,TyS c) (hlen:l.length<=1000000):zC Tryz.prog zOX [eC f,.sl (zJ l)] (eC (l.foldl (fun a t=>zH1 t a) f)):=by
 refine zB ttok mixed Tryz.func27 rfl (by rfl) (Nat.le_of_ble_eq_true rfl) (by kernel_rfl) ?_;refine .inl ⟨_,hf,?_⟩;refine⟨{k:Nat // k<=l.length},fun k=>{vs:=[(4,.box 0 eZ),(5,.box 0 (eC ((l.take k.1).foldl (fun a t=>zH1 t a) f))),(10,.v (.sl (zJ l))),(11,sv (l.length:Nat)),(12,sv (k.1:Nat))]},fun k=>l.length-k.1,⟨0,Nat.zero_le _⟩,?_,?_⟩
 ·exact⟨⟨rfl,rfl,rfl,by show sv _=sv _;simp[zJ],rfl,trivial⟩,trivial,rfl⟩
 rintro⟨k,hk⟩;refine⟨fun h=>?_,fun h=>?_⟩
 ·have h:k<l.length:=by
   have h:=of_decide_eq_true h;simp only at h;omega
  refine⟨eTy l[k],by omega,(by show (zJ l)[k]? = _;simp[zJ,List.getElem?_eq_getElem h]),rfl,?_⟩;refine .inl ⟨_,zMM (hl _ (List.getElem_mem h)),?_⟩;refine⟨by kernel_rfl,?_⟩;refine⟨⟨k+1,h⟩,by simp;omega,⟨rfl,?_,rfl,rfl,svc (wrap_succ (k:=k) (by omega)),trivial⟩,trivial,rfl⟩;show SV.box 0 (eC (zH1 l[k] ((l.take k).foldl (fun a t=>zH1 t a) f)))=SV.box 0 (eC ((l.take (k+1)).foldl (fun a t=>zH1 t a) f));rw[<-List.take_append_getElem h,List.foldl_append];rfl
 ·have h:k=l.length:=by
   have h:=of_decide_eq_false h;simp only at h;omega
  subst h;show eC (List.foldl (fun a t=>zH1 t a) f (List.take l.length l))=_;rw[List.take_length]
theorem zUR {f:Cr} {l:List ByteArray} (hf:zKM f) (hlen:l.length<=1000000):zC Tryz.prog zNR [eC f,.sl (eSs l)] (eC (l.reverse.foldl (fun a s=>zIR s a) f)):=by
 refine zB ttok mixed Tryz.func26 rfl (by rfl) (Nat.le_of_ble_eq_true rfl) (by kernel_rfl) ?_;refine .inl ⟨_,hf,?_⟩;refine⟨{k:Nat // k<=l.length},fun k=>{vs:=[(1,.v (.sl (eSs l))),(4,.box 0 eZ),(5,.box 0 (eC ((l.reverse.take k.1).foldl (fun a s=>zIR s a) f))),(9,.v (.sl (eSs l))),(10,sv (l.length:Nat)),(11,sv (k.1:Nat))]},fun k=>l.length-k.1,⟨0,Nat.zero_le _⟩,?_,?_⟩
 ·exact⟨⟨rfl,rfl,rfl,rfl,by show sv _=sv _;simp[eSs],rfl,trivial⟩,trivial,rfl⟩
 rintro⟨k,hk⟩;refine⟨fun h=>?_,fun h=>?_⟩
 ·have h:k<l.length:=by
   have h:=of_decide_eq_true h;simp only at h;omega
  have hlr:k<l.reverse.length:=by simp;exact h
  have e1:l.reverse[k]=l[l.length-1-k]:=List.getElem_reverse hlr;have e2:IntKind.i64.wrap (IntKind.i64.wrap (((eSs l).length:Int)-1)-(k:Nat))=((l.length-1-k:Nat):Int):=by
   have:(eSs l).length=l.length:=by simp[eSs]
   have a1:IntKind.i64.wrap ((l.length:Int)-1)=(l.length:Int)-1:=wrap_in (by unfold InR;omega);rw[this,a1,wrap_in (by unfold InR;omega)];omega
  refine⟨str l[l.length-1-k],by simp only;rw[e2];omega,?_,rfl,?_⟩
  ·simp only;rw[e2];show (eSs l)[l.length-1-k]? = _;simp[eSs,List.getElem?_eq_getElem (show l.length-1-k<l.length by omega)]
  refine⟨by kernel_rfl,?_⟩;refine⟨⟨k+1,h⟩,by simp;omega,⟨rfl,rfl,?_,rfl,rfl,svc (wrap_succ (k:=k) (by omega)),trivial⟩,trivial,rfl⟩;show SV.box 0 (eC (zIR l[l.length-1-k] ((l.reverse.take k).foldl (fun a s=>zIR s a) f)))=SV.box 0 (eC ((l.reverse.take (k+1)).foldl (fun a s=>zIR s a) f));rw[<-List.take_append_getElem hlr,List.foldl_append,e1];rfl
 ·have h:k=l.length:=by
   have h:=of_decide_eq_false h;simp only at h;omega
  subst h;show eC (List.foldl (fun a s=>zIR s a) f (List.take l.length l.reverse))=_;rw[List.take_of_length_le (by simp)]
theorem z2H {α:Type} {f:α->AV} {l:List α} {k:Nat} (h:k<l.length):(l.map f)[k]? = some (f l[k]):=by simp[h]
def zWA (esz:Nat) (r:AV) (o:Nat) (h:List (Nat×HO)):Prop :=
 (r = .sl []/\o=esz+1/\h=[])∨(o=0/\∃b cap zs,r = .lit (.slice (some ⟨b,0,none⟩) 0 cap)/\h=[(b,HO.cells zs)]/\cap*esz<=zs.length)
theorem zH9 {α:Type} {ls:List (List α)} {k:Nat} (h:k<ls.length):(ls.take (k+1)).flatten=(ls.take k).flatten++ls[k]:=by
 rw[List.take_succ_eq_append_getElem h,List.flatten_append];simp
theorem zIF {α:Type}:∀(ls:List (List α)) (k:Nat),(ls.take k).flatten.length<=ls.flatten.length
 | [],k=>by simp
 | l::ls,0=>by simp
 | l::ls,k+1=>by have:=zIF ls k;simp only[List.take_succ_cons,List.flatten_cons,List.length_append];omega
theorem zUO {n:Nat} {ls:List (List AV)} (hu:∀l∈ls,Uni n l) (k:Nat):Uni n (ls.take k).flatten:=fun a ha=>by
 obtain⟨l,hl,h⟩:=List.mem_flatten.1 ha;exact hu l (List.mem_of_mem_take hl) a h
end Go.Proofs.YtdmbahepaglcbaaGreatDoor
